/- Layer 9: from what the rows list of the library's variables to what the walks ask of the world. -/
import Derived.Test.YtbehakabglegjaaGreatDoorCards
import Derived.Test.YtbehakabglegjaaGreatDoorTie
import Derived.PinnedBridge
import Derived.Lib.LaidU8T
import Derived.LaidHandle
import Derived.LaidLaws
import Derived.Lay
import Derived.SevenTiedAt
import Derived.Test.YtbehakabglegjaaGreatDoorQ14
import Derived.Test.YtbehakabglegjaaGreatDoorQ42
import Derived.Test.YtbehakabglegjaaGreatDoorQ43
namespace Go.Proofs.YtbehakabglegjaaGreatDoor
open Go.RowKit Go.Shelf Go.Lib
set_option linter.unusedVariables false
set_option linter.unusedSimpArgs false

theorem laid_both {P : Program} {l : List (String × DataW Unit)} {W : World} (h : laidMetH P l W) : laidMet P (l.filter fun x => x.2.handleName?.isNone) W ∧ handlesMet P (l.filter fun x => x.2.handleName?.isSome) W := by
  unfold laidMetH at h
  generalize hf : (l.filter fun x => x.2.handleName?.isSome) = fl at h
  cases fl with
  | nil =>
    have e : (l.filter fun x => x.2.handleName?.isNone) = l := by
      rw [List.filter_eq_self]
      intro x hx
      cases hn : x.2.handleName? with
      | none => rfl
      | some y =>
        have := List.filter_eq_nil_iff.1 hf x hx
        rw [hn] at this
        simp at this
    rw [e]
    exact ⟨h, fun x hx => by cases hx⟩
  | cons a r => exact h
theorem mem_none {l : List (String × DataW Unit)} {n : String} {d : DataW Unit} (hm : (n, d) ∈ l) (hd : d.handleName?.isNone = true) : (n, d) ∈ l.filter fun x => x.2.handleName?.isNone := List.mem_filter.2 ⟨hm, hd⟩
abbrev renU8 : Ren := ⟨fun x => x, fun k => if k = 5 then 5 else if k = 119 then 179 else if k = 138 then 181 else 182, fun k => if k = 3 then 2 else 3⟩
theorem typesU8 : U8Types Tryz.prog renU8 := ⟨Tryz.underlying5, Tryz.underlying179, Tryz.underlying181, Tryz.underlying182⟩
theorem extraU8 : U8Extra Tryz.prog renU8 := ⟨by kernel_rfl, by kernel_rfl, by kernel_rfl, by kernel_rfl, by kernel_rfl, by kernel_rfl, by kernel_rfl⟩
theorem accept_is : (Rows.laid_unicode_utf8_acceptRanges : DataW Unit) = acceptData := by kernel_rfl
theorem err_at {W : World} {n nm : String} {g : Nat} {d : DataW Unit} (hg : Tryz.prog.globalNamed n = some g) (ht : (Tryz.prog.globals[g]?).map (·.type) = some 28) (h : VarReads Tryz.prog W n (.iface nm d)) : EV W g := by
  obtain ⟨g', t, cs, fuel, p, h1, h2, h3, h4⟩ := h
  obtain rfl := Option.some.inj (hg.symm.trans h1)
  obtain rfl := Option.some.inj (ht.symm.trans h2)
  obtain ⟨f1, u, v, e, _⟩ := iface_of_trod Tryz.underlying28 h4
  refine ⟨.iface u v, ?_, .inr ⟨u, v, rfl⟩⟩
  rw [World.var?_cell h1 h3 0, ← Array.getElem?_toList, e]
  rfl
abbrev LL : List (String × DataW Unit) := [("math/bits.deBruijn32tab", Rows.laid_math_bits_deBruijn32tab), ("math/bits.deBruijn64tab", Rows.laid_math_bits_deBruijn64tab), ("internal/strconv.uint64pow10", Rows.laid_internal_strconv_uint64pow10), ("unicode/utf8.acceptRanges", Rows.laid_unicode_utf8_acceptRanges), ("errors.errorType", Rows.laid_errors_errorType), ("strconv.ErrRange", Rows.laid_strconv_ErrRange), ("strconv.ErrSyntax", Rows.laid_strconv_ErrSyntax), ("unicode/utf8.first", Rows.laid_unicode_utf8_first)]
theorem tab_is : (Rows.laid_internal_strconv_uint64pow10 : DataW Unit) = Lib.tabData .u64 Lib.pow10Tab := by kernel_rfl
theorem cell_bl {w w' : World} {a : Addr} {v : Value} (hb : Below w.heap.size w w') (h : w.cell? a = some v) : w'.cell? a = some v := cell_later hb h
theorem EV.below {w w' : World} {g : Nat} (h : EV w g) (hb : Below w.heap.size w w') : EV w' g := by
  obtain ⟨ev, h1, h2⟩ := h
  exact ⟨ev, cell_bl hb h1, h2⟩
/-- The world's condition out of the rows' list. -/
theorem wh_of {W : World} (h : laidMetH Tryz.prog LL W) : Wh W W.heap.size := by
  obtain ⟨h1, h2⟩ := laid_both h
  have r1 := laidMet.reads h1 (mem_none (show ("unicode/utf8.first", Rows.laid_unicode_utf8_first) ∈ LL by simp [LL]) (by kernel_rfl))
  have r2 := laidMet.reads h1 (mem_none (show ("unicode/utf8.acceptRanges", Rows.laid_unicode_utf8_acceptRanges) ∈ LL by simp [LL]) (by kernel_rfl))
  have r3 := laidMet.reads h1 (mem_none (show ("strconv.ErrSyntax", Rows.laid_strconv_ErrSyntax) ∈ LL by simp [LL]) (by kernel_rfl))
  have r4 := laidMet.reads h1 (mem_none (show ("strconv.ErrRange", Rows.laid_strconv_ErrRange) ∈ LL by simp [LL]) (by kernel_rfl))
  have r := laidMet.reads h1 (mem_none (show ("internal/strconv.uint64pow10", Rows.laid_internal_strconv_uint64pow10) ∈ LL by simp [LL]) (by kernel_rfl))
  have hT : Lib.Utf8Tabs 2 3 W := utf8Tabs_of_readsT typesU8 extraU8 (Pinned.utf8First_eq ▸ r1) (accept_is ▸ r2)
  have E1 : EV W 7 := err_at (by kernel_rfl) (by kernel_rfl) r3
  have E2 : EV W 8 := err_at (by kernel_rfl) (by kernel_rfl) r4
  obtain ⟨g', t', cs, fuel, p, hg', ht', hvar, hd⟩ := r
  obtain rfl := Option.some.inj ((show Tryz.prog.globalNamed "internal/strconv.uint64pow10" = some 4 by kernel_rfl).symm.trans hg')
  obtain rfl := Option.some.inj ((show (Tryz.prog.globals[4]?).map (·.type) = some 187 by kernel_rfl).symm.trans ht')
  rw [tab_is] at hd
  have hc := Lib.cells_of_tab (n := 20) Tryz.underlying187 Tryz.underlying157 (by kernel_rfl) (by kernel_rfl) hd
  have hW : Lib.TabIs Tryz.prog W "internal/strconv.uint64pow10" .u64 Lib.pow10Tab := by
    show W.var? Tryz.prog "internal/strconv.uint64pow10" = _
    rw [hvar, ← hc]
  have c0 := Lib.TabIs.cell hW (g := 4) (by kernel_rfl) 0 (by decide)
  have hlt := World.block_lt_of_cell? W _ c0
  refine fun W' hb => ⟨E1.below hb, E2.below hb, ⟨fun c hc => cell_bl hb (hT.1 c hc), fun i hi => ⟨cell_bl hb (hT.2 i hi).1, cell_bl hb (hT.2 i hi).2⟩⟩, ?_⟩
  show W'.var? Tryz.prog "internal/strconv.uint64pow10" = _
  rw [← show W.var? Tryz.prog "internal/strconv.uint64pow10" = _ from hW]
  have hb2 := hb.block 4 hlt
  unfold World.var?
  rw [show Tryz.prog.globalNamed "internal/strconv.uint64pow10" = some 4 by kernel_rfl]
  simp [hb2]
theorem rtRow : (Tryz.prog.cutTypes.find? (·.1 == "internal/reflectlite.rtype")).map (·.2) = some 164 := by kernel_rfl
theorem oneRow : ((List.range Tryz.prog.types.size).filter fun t => Tryz.prog.rowNamed t [101, 114, 114, 111, 114]) = [28] := by kernel_rfl
theorem ety_of {W : World} (h : laidMetH Tryz.prog LL W) : ErrTy W ∧ 0 < W.heap.size := by
  obtain ⟨h1, h2⟩ := laid_both h
  have m5 : ("errors.errorType", Rows.laid_errors_errorType) ∈ LL := by simp [LL]
  have hty : ErrTy W := by
    have := h2 _ (List.mem_filter.2 ⟨m5, by kernel_rfl⟩)
    have hfn : (Rows.laid_errors_errorType : DataW Unit).funcsIn? = none := by kernel_rfl
    simp only [hfn] at this
    obtain ⟨name, u, ty, e1, e2, e3, e4, e5⟩ := this
    have en : name = [101, 114, 114, 111, 114] := (Option.some.inj e1).symm
    subst en
    obtain rfl := Option.some.inj (rtRow.symm.trans e2)
    have hm : ty ∈ (List.range Tryz.prog.types.size).filter fun t => Tryz.prog.rowNamed t [101, 114, 114, 111, 114] := List.mem_filter.2 ⟨List.mem_range.2 e3, e4⟩
    rw [oneRow] at hm
    obtain rfl := List.mem_singleton.1 hm
    have hh : typeHandle Tryz.prog 28 = .pointer (some ⟨14, 28, none⟩) := by kernel_rfl
    rw [hh] at e5
    have hg : Tryz.prog.globalNamed "errors.errorType" = some 0 := by kernel_rfl
    simpa using World.var?_cell hg e5 0
  exact ⟨hty, World.block_lt_of_cell? W _ hty⟩
/-- Those of them that hold data. -/
abbrev LD : List (String × DataW Unit) := [("math/bits.deBruijn32tab", Rows.laid_math_bits_deBruijn32tab), ("math/bits.deBruijn64tab", Rows.laid_math_bits_deBruijn64tab), ("internal/strconv.uint64pow10", Rows.laid_internal_strconv_uint64pow10), ("unicode/utf8.acceptRanges", Rows.laid_unicode_utf8_acceptRanges), ("strconv.ErrRange", Rows.laid_strconv_ErrRange), ("strconv.ErrSyntax", Rows.laid_strconv_ErrSyntax), ("unicode/utf8.first", Rows.laid_unicode_utf8_first)]
theorem ld_is : (LL.filter fun x => x.2.handleName?.isNone) = LD := by kernel_rfl
/-- The settled world, with the one handle in its variable. -/
noncomputable def baseW (os : Os) : World :=
  let w0 := World.holding Tryz.prog os ⟨#[], #[], []⟩
  { w0 with heap := w0.heap.modify 0 fun
      | .cells _ t frozen => .cells #[.iface 164 (.agg #[.pointer (some ⟨14, 28, none⟩)])] t frozen
      | o => o }
noncomputable def laidW (os : Os) : World := (baseW os).layVars Tryz.prog LD
theorem laidW_os (os : Os) : (laidW os).os = os := World.layVars_os _ _ _
theorem laidW_shaped (os : Os) : (laidW os).Shaped Tryz.prog := World.shaped_of_ZipB (by kernel_rfl) (by kernel_rfl)
theorem laid_data (os : Os) : laidMet Tryz.prog LD (laidW os) := by
  have e1 : (LD.filter fun x => (LD.map (·.1)).contains x.1) = LD := List.filter_eq_self.2 fun x hx => List.contains_iff_mem.2 (List.mem_map.2 ⟨x, hx, rfl⟩)
  have e2 : (LD.filter fun x => !(LD.map (·.1)).contains x.1) = [] := List.filter_eq_nil_iff.2 fun x hx => by rw [List.contains_iff_mem.2 (List.mem_map.2 ⟨x, hx, rfl⟩)]; simp
  exact laidMet_layVars (w0 := baseW os) (LD.map (·.1)) [] (by rw [e1]; rfl) (by rw [e1]; kernel_rfl) (by rw [e1]; kernel_rfl) (by rw [e2]; exact LaidIn.none)
theorem laid_met (os : Os) (args : Array Value) : laidMetH Tryz.prog LL ((laidW os).forCall (fun _ _ => 0) ⟨#[], args, []⟩).memory := by
  refine laidMetH_of_parts (l := LL) ?_ (by kernel_rfl)
  rw [ld_is]
  exact (laid_data os).of_heap (by simp [World.memory, World.forCall, Input.heap])
end Go.Proofs.YtbehakabglegjaaGreatDoor
