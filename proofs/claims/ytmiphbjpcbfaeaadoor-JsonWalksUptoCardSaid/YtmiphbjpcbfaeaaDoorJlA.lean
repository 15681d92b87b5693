/- Layer 2: from what the rows list of the library's variables to what the walks ask of the world. -/
import Derived.Test.YtmiphbjpcbfaeaaDoorJrQV
import Derived.Test.YtmiphbjpcbfaeaaDoorTie
import Derived.PinnedBridge
import Derived.Lib.LaidU8T
import Derived.LaidHandle
import Derived.LaidLaws
namespace Go.Proofs.YtmiphbjpcbfaeaaDoor
open Go.RowKit Go.Shelf Go.Lib
set_option linter.unusedVariables false
set_option linter.unusedSimpArgs false

theorem laid_both {P : Program} {l : List (String × DataW Unit)} {W : World} (h : laidMetH P l W) : laidMet P (l.filter fun x => x.2.handleName?.isNone) W ∧ handlesMet P (l.filter fun x => x.2.handleName?.isSome) W := by
  unfold laidMetH at h
  generalize hf : (l.filter fun x => x.2.handleName?.isSome) = fl at h
  cases fl with
  | nil =>
    have e : (l.filter fun x => x.2.handleName?.isNone) = l := by
      rw [List.filter_eq_self]
      intro x hx
      cases hn : x.2.handleName? with
      | none => rfl
      | some y =>
        have := List.filter_eq_nil_iff.1 hf x hx
        rw [hn] at this
        simp at this
    rw [e]
    exact ⟨h, fun x hx => by cases hx⟩
  | cons a r => exact h
theorem mem_none {l : List (String × DataW Unit)} {n : String} {d : DataW Unit} (hm : (n, d) ∈ l) (hd : d.handleName?.isNone = true) : (n, d) ∈ l.filter fun x => x.2.handleName?.isNone := List.mem_filter.2 ⟨hm, hd⟩
abbrev renU8 : Ren := ⟨fun x => x, fun k => if k = 5 then 5 else if k = 119 then 132 else if k = 138 then 134 else 135, fun k => if k = 3 then 2 else 3⟩
theorem typesU8 : U8Types Tryd.prog renU8 := ⟨Tryd.underlying5, Tryd.underlying132, Tryd.underlying134, Tryd.underlying135⟩
theorem extraU8 : U8Extra Tryd.prog renU8 := ⟨by kernel_rfl, by kernel_rfl, by kernel_rfl, by kernel_rfl, by kernel_rfl, by kernel_rfl, by kernel_rfl⟩
theorem accept_is : (Rows.laid_unicode_utf8_acceptRanges : DataW Unit) = acceptData := by kernel_rfl
theorem err_at {W : World} {n nm : String} {g : Nat} {d : DataW Unit} (hg : Tryd.prog.globalNamed n = some g) (ht : (Tryd.prog.globals[g]?).map (·.type) = some 37) (h : VarReads Tryd.prog W n (.iface nm d)) : ErrAt W g := by
  obtain ⟨g', t, cs, fuel, p, h1, h2, h3, h4⟩ := h
  obtain rfl := Option.some.inj (hg.symm.trans h1)
  obtain rfl := Option.some.inj (ht.symm.trans h2)
  obtain ⟨f1, u, v, e, _⟩ := iface_of_trod Tryd.underlying37 h4
  refine ⟨.iface u v, ?_, .inr ⟨u, v, rfl⟩⟩
  rw [World.var?_cell h1 h3 0, ← Array.getElem?_toList, e]
  rfl
theorem rtRow : (Tryd.prog.cutTypes.find? (·.1 == "internal/reflectlite.rtype")).map (·.2) = some 96 := by kernel_rfl
theorem oneRow : ((List.range Tryd.prog.types.size).filter fun t => Tryd.prog.rowNamed t [101, 114, 114, 111, 114]) = [37] := by kernel_rfl
theorem wo_of_laid {l : List (String × DataW Unit)} {W : World} (h : laidMetH Tryd.prog l W) (m1 : ("unicode/utf8.first", Rows.laid_unicode_utf8_first) ∈ l) (m2 : ("unicode/utf8.acceptRanges", Rows.laid_unicode_utf8_acceptRanges) ∈ l) (m3 : ("strconv.ErrSyntax", Rows.laid_strconv_ErrSyntax) ∈ l) (m4 : ("strconv.ErrRange", Rows.laid_strconv_ErrRange) ∈ l) (m5 : ("errors.errorType", Rows.laid_errors_errorType) ∈ l) : Wo W := by
  obtain ⟨h1, h2⟩ := laid_both h
  have r1 := laidMet.reads h1 (mem_none m1 (by kernel_rfl))
  have r2 := laidMet.reads h1 (mem_none m2 (by kernel_rfl))
  have r3 := laidMet.reads h1 (mem_none m3 (by kernel_rfl))
  have r4 := laidMet.reads h1 (mem_none m4 (by kernel_rfl))
  have hT : Lib.Utf8Tabs 2 3 W := utf8Tabs_of_readsT typesU8 extraU8 (Pinned.utf8First_eq ▸ r1) (accept_is ▸ r2)
  have E1 : ErrAt W 5 := err_at (by kernel_rfl) (by kernel_rfl) r3
  have E2 : ErrAt W 6 := err_at (by kernel_rfl) (by kernel_rfl) r4
  have hty : ErrTy W := by
    have := h2 _ (List.mem_filter.2 ⟨m5, by kernel_rfl⟩)
    have hfn : (Rows.laid_errors_errorType : DataW Unit).funcsIn? = none := by kernel_rfl
    simp only [hfn] at this
    obtain ⟨name, u, ty, e1, e2, e3, e4, e5⟩ := this
    have en : name = [101, 114, 114, 111, 114] := (Option.some.inj e1).symm
    subst en
    obtain rfl := Option.some.inj (rtRow.symm.trans e2)
    have hm : ty ∈ (List.range Tryd.prog.types.size).filter fun t => Tryd.prog.rowNamed t [101, 114, 114, 111, 114] := List.mem_filter.2 ⟨List.mem_range.2 e3, e4⟩
    rw [oneRow] at hm
    obtain rfl := List.mem_singleton.1 hm
    have hh : typeHandle Tryd.prog 37 = .pointer (some ⟨9, 37, none⟩) := by kernel_rfl
    rw [hh] at e5
    have hg : Tryd.prog.globalNamed "errors.errorType" = some 0 := by kernel_rfl
    simpa using World.var?_cell hg e5 0
  have lt : ∀ {g k : Nat} {v : Value}, W.cell? ⟨g, k, none⟩ = some v → g < W.heap.size := fun hc => World.block_lt_of_cell? W _ hc
  obtain ⟨v3, c3, _⟩ := id E1
  obtain ⟨v4, c4, _⟩ := id E2
  exact ⟨⟨E1, E2, hT, lt c3, lt c4, lt (hT.1 0 (by decide)), lt (hT.2 0 (by decide)).1⟩, hty, lt hty⟩
end Go.Proofs.YtmiphbjpcbfaeaaDoor
