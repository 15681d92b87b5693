/- Layer 2: a world in which the listed variables lie as the rows say (the witness). -/
import Derived.Test.YtmiphbjpcbfaeaaDoorJlA
import Derived.Test.YtmiphbjpcbfaeaaDoorCards
import Derived.Test.YtmiphbjpcbfaeaaDoorFrame
import Derived.Lay
import Derived.SevenTiedAt
namespace Go.Proofs.YtmiphbjpcbfaeaaDoor
open Go.RowKit Go.Shelf Go.Lib
set_option linter.unusedVariables false

abbrev LL : List (String × DataW Unit) := [("math/bits.deBruijn32tab", Rows.laid_math_bits_deBruijn32tab), ("math/bits.deBruijn64tab", Rows.laid_math_bits_deBruijn64tab), ("internal/strconv.uint64pow10", Rows.laid_internal_strconv_uint64pow10), ("unicode/utf8.acceptRanges", Rows.laid_unicode_utf8_acceptRanges), ("errors.errorType", Rows.laid_errors_errorType), ("strconv.ErrRange", Rows.laid_strconv_ErrRange), ("strconv.ErrSyntax", Rows.laid_strconv_ErrSyntax), ("unicode/utf8.first", Rows.laid_unicode_utf8_first)]
/-- Those of them that hold data. -/
abbrev LD : List (String × DataW Unit) := [("math/bits.deBruijn32tab", Rows.laid_math_bits_deBruijn32tab), ("math/bits.deBruijn64tab", Rows.laid_math_bits_deBruijn64tab), ("internal/strconv.uint64pow10", Rows.laid_internal_strconv_uint64pow10), ("unicode/utf8.acceptRanges", Rows.laid_unicode_utf8_acceptRanges), ("strconv.ErrRange", Rows.laid_strconv_ErrRange), ("strconv.ErrSyntax", Rows.laid_strconv_ErrSyntax), ("unicode/utf8.first", Rows.laid_unicode_utf8_first)]
theorem wo_of {W : World} (h : laidMetH Tryd.prog LL W) : Wo W := wo_of_laid h (by simp [LL]) (by simp [LL]) (by simp [LL]) (by simp [LL]) (by simp [LL])
theorem ld_is : (LL.filter fun x => x.2.handleName?.isNone) = LD := by kernel_rfl
/-- The settled world, with the one handle in its variable. -/
noncomputable def baseW (os : Os) : World :=
  let w0 := World.holding Tryd.prog os ⟨#[], #[], []⟩
  { w0 with heap := w0.heap.modify 0 fun
      | .cells _ t frozen => .cells #[.iface 96 (.agg #[.pointer (some ⟨9, 37, none⟩)])] t frozen
      | o => o }
noncomputable def laidW (os : Os) : World := (baseW os).layVars Tryd.prog LD
theorem laidW_os (os : Os) : (laidW os).os = os := World.layVars_os _ _ _
theorem laidW_shaped (os : Os) : (laidW os).Shaped Tryd.prog := World.shaped_of_ZipB (by kernel_rfl) (by kernel_rfl)
theorem laid_data (os : Os) : laidMet Tryd.prog LD (laidW os) := by
  have e1 : (LD.filter fun x => (LD.map (·.1)).contains x.1) = LD := List.filter_eq_self.2 fun x hx => List.contains_iff_mem.2 (List.mem_map.2 ⟨x, hx, rfl⟩)
  have e2 : (LD.filter fun x => !(LD.map (·.1)).contains x.1) = [] := List.filter_eq_nil_iff.2 fun x hx => by rw [List.contains_iff_mem.2 (List.mem_map.2 ⟨x, hx, rfl⟩)]; simp
  exact laidMet_layVars (w0 := baseW os) (LD.map (·.1)) [] (by rw [e1]; rfl) (by rw [e1]; kernel_rfl) (by rw [e1]; kernel_rfl) (by rw [e2]; exact LaidIn.none)
theorem laid_met (os : Os) (args : Array Value) : laidMetH Tryd.prog LL ((laidW os).forCall (fun _ _ => 0) ⟨#[], args, []⟩).memory := by
  refine laidMetH_of_parts (l := LL) ?_ (by kernel_rfl)
  rw [ld_is]
  exact (laid_data os).of_heap (by simp [World.memory, World.forCall, Input.heap])
end Go.Proofs.YtmiphbjpcbfaeaaDoor
