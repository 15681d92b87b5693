/- Layer 9: what the statements ask of a fault: coveylaw00.Is. Layer 9: sums of sizes (plain; HtBk holds the same lemmas: never import both). Layer 9: the law HttpSplits, walked. Layer 9: from what the rows list of the library's variables to what the walks ask of the world. -/
import Derived.Test.YtbehakabglegjaaGreatDoorQ36
import Derived.Test.YtbehakabglegjaaGreatDoorQ33
import Derived.Test.YtbehakabglegjaaGreatDoorQ22
import Derived.Test.YtbehakabglegjaaGreatDoorQ23
import Derived.Test.YtbehakabglegjaaGreatDoorQ25
import Derived.Test.YtbehakabglegjaaGreatDoorQ32
import Derived.Test.YtbehakabglegjaaGreatDoorCards
import Derived.Test.YtbehakabglegjaaGreatDoorTie
import Derived.PinnedBridge
import Derived.Lib.LaidU8T
import Derived.LaidHandle
import Derived.LaidLaws
import Derived.Lay
import Derived.SevenTiedAt
import Derived.Test.YtbehakabglegjaaGreatDoorQ11
namespace Go.Proofs.YtbehakabglegjaaGreatDoor
section
open Go.RowKit Go.PlainAid Go.Extern.Stop Go.Stop Go.Extern
set_option linter.unusedVariables false
set_option linter.unusedSimpArgs false
set_option maxRecDepth 10000 in
set_option maxHeartbeats 4000000 in
/-- A fault with this place and this Code is one. -/
theorem fault_is {w : World} {g : Nat} {p c : Int} (hT : ErrTy w) (hT0 : 0 < w.heap.size) (hg : IBox w g 85 #[.int .i64 p, .iface 31 (.int .i64 c)]) :
    Calls Tryz.prog 51 #[.iface 83 (At g), .int .i64 p, .int .i64 c] w fun e w' => e = .returned (.bool true) ∧ Below w.heap.size w w' := by
  obtain ⟨i, hi, hcmp⟩ := Option.map_eq_some_iff.1 Tryz.faultComp
  obtain ⟨j, hj, hjs⟩ := Option.map_eq_some_iff.1 Tryz.faultSize
  have hnq := fun w => run_neq_iface_ptr_same (P := Tryz.prog) w (⟨g, 0, none⟩ : Addr) Tryz.underlying28 Tryz.underlying83 hi hcmp hj
  have heq := fun w => Lib.run_eql_iface_int (P := Tryz.prog) w (k := .i64) c c Tryz.underlying28 Tryz.codeComp Tryz.underlying31
  clear hcmp hj hjs hi
  have HB := Below.refl w.heap.size w
  go_enter Tryz.func51, Tryz.ntmps51
  go_wp2_with (first
    | ((with_reducible refine is_alloc ?_); refine wpl_alloc1 rfl 83 rfl (.pointer none) (fun _ => rfl) rfl ?_; intro wa hw; have hb := hid_grow hw; have BF := (hid_alloc hw).1; have hsa := Lib.hid (hid_alloc hw).2.1; clear hw; have HB0 := Lib.hid hb.size; replace HB := HB.trans (hb.mono HB.size); replace hg := IBox.below hg hb (IBox.lt hg); have hT2 : ErrTy wa := hT.bes (Bes.of_below (X := fun _ => False) hb) (fun e => e); have hgn : g ≠ w.heap.size := box_ne hg BF (by decide); clear hb)
    | (go_at_call 88; go_must ((with_reducible refine (as_hit2 hT2 BF).mono ?_); rintro e w2 ⟨rfl, BF2, hbe⟩; replace hg := Bes.box hbe hg hgn; replace HB := HB.trans (hbe.below (fun q e => Nat.le_of_eq e.symm) HB0.out); have cf := BF2.cell 0; have cg0 := hg.cell 0; have cg1 := hg.cell 1; clear hbe))
    | (go_at_call 89; (with_reducible refine (is_code g c _ cg1).mono ?_); rintro e w3 ⟨rfl, rfl⟩))
  go_ret
  exact ⟨rfl, HB⟩
end
end Go.Proofs.YtbehakabglegjaaGreatDoor
namespace Go.Proofs.YtbehakabglegjaaGreatDoor
set_option linter.unusedVariables false
theorem len_sum {α : Type} (f : α → Nat) : ∀ (l : List α), l.length ≤ (l.map fun y => f y + 1).sum
  | [] => Nat.le_refl _
  | a :: r => by
    have h := len_sum f r
    rw [List.map_cons, List.sum_cons, List.length_cons]
    omega
theorem p_sum : ∀ (l : List ByteArray), (l.map pSz).sum ≤ 3 * txSz l
  | [] => Nat.le_refl _
  | a :: r => by
    have h := p_sum r
    unfold txSz at *
    rw [List.map_cons, List.sum_cons, List.map_cons, List.sum_cons]
    unfold pSz at *
    omega
theorem q_sum : ∀ (l : List (ByteArray × ByteArray)), (l.map qSz).sum ≤ 3 * hdSz l
  | [] => Nat.le_refl _
  | a :: r => by
    have h := q_sum r
    unfold hdSz at *
    rw [List.map_cons, List.sum_cons, List.map_cons, List.sum_cons]
    unfold qSz at *
    omega
theorem q_len : ∀ (l : List (ByteArray × ByteArray)), l.length ≤ hdSz l
  | [] => Nat.le_refl _
  | a :: r => by
    have h := q_len r
    unfold hdSz at *
    rw [List.map_cons, List.sum_cons, List.length_cons]
    omega
end Go.Proofs.YtbehakabglegjaaGreatDoor
namespace Go.Proofs.YtbehakabglegjaaGreatDoor
open Go.RowKit Go.PlainAid
set_option linter.unusedVariables false
set_option linter.unusedSimpArgs false
theorem refused_none (w : World) : Calls Tryz.prog 27 #[.nilIface, .int .i64 0, .int .i64 0] w fun e w' => e = .returned (.bool true) ∧ Below w.heap.size w w' := by
  go_enter Tryz.func27, Tryz.ntmps27
  go_wp2_with (go_at_call 12; (with_reducible refine (code_nil _).mono ?_); rintro e w1 ⟨rfl, rfl⟩)
  go_ret
  exact ⟨rfl, Below.refl _ _⟩
theorem refused_fault {w : World} {N : Nat} {p : Nat} {c : Int} (hc : c ≠ 0) (hT : ErrTy w) (hT0 : 0 < w.heap.size) (hg : IBox w N 85 (FaultA p c)) :
    Calls Tryz.prog 27 #[.iface 83 (.pointer (some ⟨N, 0, none⟩)), .int .i64 c, .int .i64 (p : Int)] w fun e w' => e = .returned (.bool true) ∧ Below w.heap.size w w' := by
  have hq : (c == 0) = false := by simpa using hc
  have hp : ¬ (p : Int) < 0 := by omega
  have HI := Lib.hid (fault_is hT hT0 hg)
  clear hT hT0 hg
  go_enter Tryz.func27, Tryz.ntmps27
  go_wp2_with (go_at_call 51; (with_reducible refine HI.out.mono ?_); rintro e w1 ⟨rfl, hb⟩)
  go_ret
  exact ⟨rfl, hb⟩
theorem pathS_code {s : List UInt8} : ∀ (n i : Nat) (acc : List ByteArray) (e : Int × Nat), pathS s n i acc = .inl e → e.1 = 3 ∨ e.1 = 7
  | 0, i, acc, e, h => by cases h
  | n + 1, i, acc, e, h => by
    unfold pathS at h
    split at h
    · split at h
      · rename_i hp
        injection h with h
        subst h
        exact partS_code hp
      · exact pathS_code n _ _ _ h
    · cases h
theorem paramS_code {s : List UInt8} {i : Nat} {e : Int × Nat} (h : paramS s i = .inl e) : e.1 = 3 ∨ e.1 = 7 := by
  unfold paramS at h
  split at h
  · rename_i hp
    injection h with h
    subst h
    exact partS_code hp
  · split at h
    · split at h
      · rename_i hp
        injection h with h
        subst h
        exact partS_code hp
      · cases h
    · cases h
theorem queryS_code {s : List UInt8} : ∀ (n i : Nat) (acc : List (ByteArray × ByteArray)) (e : Int × Nat), queryS s n i acc = .inl e → e.1 = 3 ∨ e.1 = 7
  | 0, i, acc, e, h => by cases h
  | n + 1, i, acc, e, h => by
    unfold queryS at h
    split at h
    · rename_i hp
      injection h with h
      subst h
      exact paramS_code hp
    · split at h
      · exact queryS_code n _ _ _ h
      · cases h
theorem splitS_code {s : List UInt8} {e : Int × Nat} (h : splitS s = .inl e) : e.1 = 3 ∨ e.1 = 7 := by
  unfold splitS at h
  split at h
  · rename_i hp
    injection h with h
    subst h
    exact pathS_code _ _ _ _ hp
  · injection h with h; exact .inl (by rw [← h])
  · split at h
    · cases h
    · split at h
      · rename_i hp
        injection h with h
        subst h
        exact queryS_code _ _ _ _ hp
      · cases h
set_option maxRecDepth 100000 in
set_option maxHeartbeats 8000000 in
theorem splits_any {s : ByteArray} {pv qv : Value} {path : List ByteArray} {query : List (ByteArray × ByteArray)} {w : World} (hs : s.size ≤ 1099511627776) (hP : TxAt w pv path) (hQ : HdAt w qv query) (hPz : (path.map pSz).sum ≤ 8388608) (hQz : (query.map qSz).sum ≤ 8388608) (hPn : path.length ≤ 1048576) (hQn : query.length ≤ 1048576) (hw : Wh w w.heap.size) (hE : ErrTy w) (hE0 : 0 < w.heap.size) :
    Calls Tryz.prog 8 #[.string s, pv, qv] w fun e w' => e = .returned (.bool true) ∧ Below w.heap.size w w' := by
  have HS := Lib.hid hs
  have HP := Lib.hid hP
  have HQ := Lib.hid hQ
  have HPZ := Lib.hid hPz
  have HQZ := Lib.hid hQz
  have HPN := Lib.hid hPn
  have HQN := Lib.hid hQn
  have HW := Lib.hid hw
  have HE : Hid (∀ w', Below w.heap.size w w' → ErrTy w' ∧ 0 < w'.heap.size) := Lib.hid fun w' hb => ⟨hE.bes (Bes.of_below (X := fun _ => False) hb) (fun x => x), Nat.lt_of_lt_of_le hE0 hb.size⟩
  have HSP : Hid (∀ w', Below w.heap.size w w' → Calls Tryz.prog 21 #[.string s] w' fun e w'' => SpV w'' w'.heap.size (splitS (bl s)) e ∧ Below w'.heap.size w' w'') := Lib.hid fun w' hb => split_any HS.out ((HW.out.below hb).up hb.size)
  have HRS : Hid (∀ w', Calls Tryz.prog 29 #[.string s] w' fun e w'' => RsV w'' w'.heap.size (splitS (bl s)) e ∧ Below w'.heap.size w' w'') := Lib.hid fun w' => rsplit_any HS.out
  clear hs hP hQ hPz hQz hPn hQn hw hE hE0
  rcases hsp : splitS (bl s) with ⟨c, p⟩ | ⟨pa, q⟩
  · have hcode : c = 3 ∨ c = 7 := splitS_code hsp
    rw [hsp] at HSP HRS
    have hc0 : c ≠ 0 := by omega
    have hcq : (c == 0) = false := by simpa using hc0
    have HC0 := Lib.hid hc0
    clear hsp hcode hc0
    go_enter Tryz.func8, Tryz.ntmps8
    go_wp2_with (first
      | (go_at_call 9; (refine (shown_any HW.out).mono ?_); rintro e w1 ⟨rfl, hb⟩; have HB := hb; clear hb)
      | (go_at_call 21; (with_reducible refine (HSP.out _ HB).mono ?_); rintro e w2 ⟨hv, hb⟩; obtain ⟨v, rfl, N, rfl, hfb⟩ := hv; have HFB := Lib.hid hfb; replace HB := HB.trans (hb.mono HB.size); clear hb; clear hfb)
      | (go_at_call 29; (with_reducible refine (HRS.out _).mono ?_); rintro e w3 ⟨hv, hb⟩; (have hv2 : e = .returned (.tuple #[.slice none 0 0, .slice none 0 0, .int .i64 c, .int .i64 (p : Int)]) := hv); subst hv2; replace HFB := Lib.hid (IBox.below HFB.out hb (IBox.lt HFB.out)); replace HB := HB.trans (hb.mono HB.size); clear hb)
      | (go_at_call 23; (refine (texts_eq (l := []) (m := []) ⟨none, 0, rfl, fun i s h => by simp at h⟩ ⟨none, 0, rfl, fun i s h => by simp at h⟩ (by decide) (by decide)).mono ?_); rintro e w4 ⟨rfl, hb⟩; rw [show decide (([] : List ByteArray) = []) = true from rfl]; replace HFB := Lib.hid (IBox.below HFB.out hb (IBox.lt HFB.out)); replace HB := HB.trans (hb.mono HB.size); clear hb)
      | (go_at_call 24; (refine (params_eq (l := []) (m := []) ⟨none, 0, rfl, fun i s h => by simp at h⟩ ⟨none, 0, rfl, fun i s h => by simp at h⟩ (by decide) (by decide)).mono ?_); rintro e w5 ⟨rfl, hb⟩; rw [show decide (([] : List (ByteArray × ByteArray)) = []) = true from rfl]; replace HFB := Lib.hid (IBox.below HFB.out hb (IBox.lt HFB.out)); replace HB := HB.trans (hb.mono HB.size); clear hb)
      | (go_at_call 27; (refine (refused_fault HC0.out (HE.out _ HB).1 (HE.out _ HB).2 HFB.out).mono ?_); rintro e w6 ⟨rfl, hb⟩; replace HB := HB.trans (hb.mono HB.size); clear hb)
      | (go_at_call 22; (refine (join_any (HP.out.below HB) (HQ.out.below HB) (by have := HPZ.out; have := HQZ.out; unfold wTop; omega) (by have := HPN.out; omega) (by have := HQN.out; omega)).mono ?_); rintro e wj ⟨rfl, hb⟩; replace HB := HB.trans (hb.mono HB.size); clear hb)
      | (go_at_call 30; (refine (rjoin_any (HP.out.below HB) (HQ.out.below HB) (by have := HPZ.out; have := HQZ.out; omega) (by have := HPN.out; omega) (by have := HQN.out; omega)).mono ?_); rintro e wk ⟨rfl, hb⟩; replace HB := HB.trans (hb.mono HB.size); clear hb))
    go_ret
    exact ⟨by simp, HB⟩
  · rw [hsp] at HSP HRS
    clear hsp
    go_enter Tryz.func8, Tryz.ntmps8
    go_wp2_with (first
      | (go_at_call 9; (refine (shown_any HW.out).mono ?_); rintro e w1 ⟨rfl, hb⟩; have HB := hb; clear hb)
      | (go_at_call 21; (with_reducible refine (HSP.out _ HB).mono ?_); rintro e w2 ⟨hv, hb⟩; obtain ⟨pv1, qv1, rfl, hT, hPm⟩ := hv; have HT := Lib.hid (tx_own hT); have HM := Lib.hid (pm_own hPm); replace HB := HB.trans (hb.mono HB.size); clear hb; clear hT hPm)
      | (go_at_call 29; (with_reducible refine (HRS.out _).mono ?_); rintro e w3 ⟨hv, hb⟩; obtain ⟨pv2, qv2, rfl, hT, hPm, hl1, hl2⟩ := hv; have HT2 := Lib.hid (tx_own hT); have HM2 := Lib.hid (pm_own hPm); have HL1 := Lib.hid hl1; have HL2 := Lib.hid hl2; replace HT := Lib.hid (HT.out.below hb); replace HM := Lib.hid (HM.out.below hb); replace HB := HB.trans (hb.mono HB.size); clear hb; clear hT hPm hl1 hl2)
      | (go_at_call 23; (refine (texts_eq HT.out HT2.out (by have := HL1.out; omega) (by have := HL1.out; omega)).mono ?_); rintro e w4 ⟨rfl, hb⟩; rw [show decide (pa = pa) = true from by simp]; replace HM := Lib.hid (HM.out.below hb); replace HM2 := Lib.hid (HM2.out.below hb); replace HB := HB.trans (hb.mono HB.size); clear hb)
      | (go_at_call 24; (refine (params_eq HM.out HM2.out (by have := HL2.out; omega) (by have := HL2.out; omega)).mono ?_); rintro e w5 ⟨rfl, hb⟩; rw [show decide (q = q) = true from by simp]; replace HB := HB.trans (hb.mono HB.size); clear hb)
      | (go_at_call 27; (refine (refused_none _).mono ?_); rintro e w6 ⟨rfl, hb⟩; replace HB := HB.trans (hb.mono HB.size); clear hb)
      | (go_at_call 22; (refine (join_any (HP.out.below HB) (HQ.out.below HB) (by have := HPZ.out; have := HQZ.out; unfold wTop; omega) (by have := HPN.out; omega) (by have := HQN.out; omega)).mono ?_); rintro e wj ⟨rfl, hb⟩; replace HB := HB.trans (hb.mono HB.size); clear hb)
      | (go_at_call 30; (refine (rjoin_any (HP.out.below HB) (HQ.out.below HB) (by have := HPZ.out; have := HQZ.out; omega) (by have := HPN.out; omega) (by have := HQN.out; omega)).mono ?_); rintro e wk ⟨rfl, hb⟩; replace HB := HB.trans (hb.mono HB.size); clear hb))
    go_ret
    exact ⟨by simp, HB⟩
theorem splits_sized {s : ByteArray} {pv qv : Value} {path : List ByteArray} {query : List (ByteArray × ByteArray)} {w : World} {B0 B1 B2 : Nat} (hP : TxAt w pv path) (hQ : HdAt w qv query) (h0 : s.size + 1 ≤ 1048576) (h1 : txSz path + 1 ≤ B1) (h2 : hdSz query + 1 ≤ B2) (hB : B0 + B1 + B2 ≤ 1048576) (hw : Wh w w.heap.size) (hE : ErrTy w) (hE0 : 0 < w.heap.size) :
    Calls Tryz.prog 8 #[.string s, pv, qv] w fun e w' => e = .returned (.bool true) ∧ Below w.heap.size w w' := by
  have k2 := p_sum path
  have k3 := q_sum query
  have k4 := len_sum (fun s : ByteArray => s.size) path
  have k5 := q_len query
  change path.length ≤ txSz path at k4
  exact splits_any (by omega) hP hQ (by omega) (by omega) (by omega) (by omega) hw hE hE0
end Go.Proofs.YtbehakabglegjaaGreatDoor
namespace Go.Proofs.YtbehakabglegjaaGreatDoor
open Go.RowKit Go.Shelf Go.Lib
set_option linter.unusedVariables false
set_option linter.unusedSimpArgs false

theorem laid_both {P : Program} {l : List (String × DataW Unit)} {W : World} (h : laidMetH P l W) : laidMet P (l.filter fun x => x.2.handleName?.isNone) W ∧ handlesMet P (l.filter fun x => x.2.handleName?.isSome) W := by
  unfold laidMetH at h
  generalize hf : (l.filter fun x => x.2.handleName?.isSome) = fl at h
  cases fl with
  | nil =>
    have e : (l.filter fun x => x.2.handleName?.isNone) = l := by
      rw [List.filter_eq_self]
      intro x hx
      cases hn : x.2.handleName? with
      | none => rfl
      | some y =>
        have := List.filter_eq_nil_iff.1 hf x hx
        rw [hn] at this
        simp at this
    rw [e]
    exact ⟨h, fun x hx => by cases hx⟩
  | cons a r => exact h
theorem mem_none {l : List (String × DataW Unit)} {n : String} {d : DataW Unit} (hm : (n, d) ∈ l) (hd : d.handleName?.isNone = true) : (n, d) ∈ l.filter fun x => x.2.handleName?.isNone := List.mem_filter.2 ⟨hm, hd⟩
abbrev renU8 : Ren := ⟨fun x => x, fun k => if k = 5 then 5 else if k = 119 then 179 else if k = 138 then 181 else 182, fun k => if k = 3 then 2 else 3⟩
theorem typesU8 : U8Types Tryz.prog renU8 := ⟨Tryz.underlying5, Tryz.underlying179, Tryz.underlying181, Tryz.underlying182⟩
theorem extraU8 : U8Extra Tryz.prog renU8 := ⟨by kernel_rfl, by kernel_rfl, by kernel_rfl, by kernel_rfl, by kernel_rfl, by kernel_rfl, by kernel_rfl⟩
theorem accept_is : (Rows.laid_unicode_utf8_acceptRanges : DataW Unit) = acceptData := by kernel_rfl
theorem err_at {W : World} {n nm : String} {g : Nat} {d : DataW Unit} (hg : Tryz.prog.globalNamed n = some g) (ht : (Tryz.prog.globals[g]?).map (·.type) = some 28) (h : VarReads Tryz.prog W n (.iface nm d)) : EV W g := by
  obtain ⟨g', t, cs, fuel, p, h1, h2, h3, h4⟩ := h
  obtain rfl := Option.some.inj (hg.symm.trans h1)
  obtain rfl := Option.some.inj (ht.symm.trans h2)
  obtain ⟨f1, u, v, e, _⟩ := iface_of_trod Tryz.underlying28 h4
  refine ⟨.iface u v, ?_, .inr ⟨u, v, rfl⟩⟩
  rw [World.var?_cell h1 h3 0, ← Array.getElem?_toList, e]
  rfl
abbrev LL : List (String × DataW Unit) := [("math/bits.deBruijn32tab", Rows.laid_math_bits_deBruijn32tab), ("math/bits.deBruijn64tab", Rows.laid_math_bits_deBruijn64tab), ("internal/strconv.uint64pow10", Rows.laid_internal_strconv_uint64pow10), ("unicode/utf8.acceptRanges", Rows.laid_unicode_utf8_acceptRanges), ("errors.errorType", Rows.laid_errors_errorType), ("strconv.ErrRange", Rows.laid_strconv_ErrRange), ("strconv.ErrSyntax", Rows.laid_strconv_ErrSyntax), ("unicode/utf8.first", Rows.laid_unicode_utf8_first)]
theorem tab_is : (Rows.laid_internal_strconv_uint64pow10 : DataW Unit) = Lib.tabData .u64 Lib.pow10Tab := by kernel_rfl
theorem cell_bl {w w' : World} {a : Addr} {v : Value} (hb : Below w.heap.size w w') (h : w.cell? a = some v) : w'.cell? a = some v := cell_later hb h
theorem EV.below {w w' : World} {g : Nat} (h : EV w g) (hb : Below w.heap.size w w') : EV w' g := by
  obtain ⟨ev, h1, h2⟩ := h
  exact ⟨ev, cell_bl hb h1, h2⟩
/-- The world's condition out of the rows' list. -/
theorem wh_of {W : World} (h : laidMetH Tryz.prog LL W) : Wh W W.heap.size := by
  obtain ⟨h1, h2⟩ := laid_both h
  have r1 := laidMet.reads h1 (mem_none (show ("unicode/utf8.first", Rows.laid_unicode_utf8_first) ∈ LL by simp [LL]) (by kernel_rfl))
  have r2 := laidMet.reads h1 (mem_none (show ("unicode/utf8.acceptRanges", Rows.laid_unicode_utf8_acceptRanges) ∈ LL by simp [LL]) (by kernel_rfl))
  have r3 := laidMet.reads h1 (mem_none (show ("strconv.ErrSyntax", Rows.laid_strconv_ErrSyntax) ∈ LL by simp [LL]) (by kernel_rfl))
  have r4 := laidMet.reads h1 (mem_none (show ("strconv.ErrRange", Rows.laid_strconv_ErrRange) ∈ LL by simp [LL]) (by kernel_rfl))
  have r := laidMet.reads h1 (mem_none (show ("internal/strconv.uint64pow10", Rows.laid_internal_strconv_uint64pow10) ∈ LL by simp [LL]) (by kernel_rfl))
  have hT : Lib.Utf8Tabs 2 3 W := utf8Tabs_of_readsT typesU8 extraU8 (Pinned.utf8First_eq ▸ r1) (accept_is ▸ r2)
  have E1 : EV W 7 := err_at (by kernel_rfl) (by kernel_rfl) r3
  have E2 : EV W 8 := err_at (by kernel_rfl) (by kernel_rfl) r4
  obtain ⟨g', t', cs, fuel, p, hg', ht', hvar, hd⟩ := r
  obtain rfl := Option.some.inj ((show Tryz.prog.globalNamed "internal/strconv.uint64pow10" = some 4 by kernel_rfl).symm.trans hg')
  obtain rfl := Option.some.inj ((show (Tryz.prog.globals[4]?).map (·.type) = some 187 by kernel_rfl).symm.trans ht')
  rw [tab_is] at hd
  have hc := Lib.cells_of_tab (n := 20) Tryz.underlying187 Tryz.underlying157 (by kernel_rfl) (by kernel_rfl) hd
  have hW : Lib.TabIs Tryz.prog W "internal/strconv.uint64pow10" .u64 Lib.pow10Tab := by
    show W.var? Tryz.prog "internal/strconv.uint64pow10" = _
    rw [hvar, ← hc]
  have c0 := Lib.TabIs.cell hW (g := 4) (by kernel_rfl) 0 (by decide)
  have hlt := World.block_lt_of_cell? W _ c0
  refine fun W' hb => ⟨E1.below hb, E2.below hb, ⟨fun c hc => cell_bl hb (hT.1 c hc), fun i hi => ⟨cell_bl hb (hT.2 i hi).1, cell_bl hb (hT.2 i hi).2⟩⟩, ?_⟩
  show W'.var? Tryz.prog "internal/strconv.uint64pow10" = _
  rw [← show W.var? Tryz.prog "internal/strconv.uint64pow10" = _ from hW]
  have hb2 := hb.block 4 hlt
  unfold World.var?
  rw [show Tryz.prog.globalNamed "internal/strconv.uint64pow10" = some 4 by kernel_rfl]
  simp [hb2]
theorem rtRow : (Tryz.prog.cutTypes.find? (·.1 == "internal/reflectlite.rtype")).map (·.2) = some 164 := by kernel_rfl
theorem oneRow : ((List.range Tryz.prog.types.size).filter fun t => Tryz.prog.rowNamed t [101, 114, 114, 111, 114]) = [28] := by kernel_rfl
theorem ety_of {W : World} (h : laidMetH Tryz.prog LL W) : ErrTy W ∧ 0 < W.heap.size := by
  obtain ⟨h1, h2⟩ := laid_both h
  have m5 : ("errors.errorType", Rows.laid_errors_errorType) ∈ LL := by simp [LL]
  have hty : ErrTy W := by
    have := h2 _ (List.mem_filter.2 ⟨m5, by kernel_rfl⟩)
    have hfn : (Rows.laid_errors_errorType : DataW Unit).funcsIn? = none := by kernel_rfl
    simp only [hfn] at this
    obtain ⟨name, u, ty, e1, e2, e3, e4, e5⟩ := this
    have en : name = [101, 114, 114, 111, 114] := (Option.some.inj e1).symm
    subst en
    obtain rfl := Option.some.inj (rtRow.symm.trans e2)
    have hm : ty ∈ (List.range Tryz.prog.types.size).filter fun t => Tryz.prog.rowNamed t [101, 114, 114, 111, 114] := List.mem_filter.2 ⟨List.mem_range.2 e3, e4⟩
    rw [oneRow] at hm
    obtain rfl := List.mem_singleton.1 hm
    have hh : typeHandle Tryz.prog 28 = .pointer (some ⟨14, 28, none⟩) := by kernel_rfl
    rw [hh] at e5
    have hg : Tryz.prog.globalNamed "errors.errorType" = some 0 := by kernel_rfl
    simpa using World.var?_cell hg e5 0
  exact ⟨hty, World.block_lt_of_cell? W _ hty⟩
/-- Those of them that hold data. -/
abbrev LD : List (String × DataW Unit) := [("math/bits.deBruijn32tab", Rows.laid_math_bits_deBruijn32tab), ("math/bits.deBruijn64tab", Rows.laid_math_bits_deBruijn64tab), ("internal/strconv.uint64pow10", Rows.laid_internal_strconv_uint64pow10), ("unicode/utf8.acceptRanges", Rows.laid_unicode_utf8_acceptRanges), ("strconv.ErrRange", Rows.laid_strconv_ErrRange), ("strconv.ErrSyntax", Rows.laid_strconv_ErrSyntax), ("unicode/utf8.first", Rows.laid_unicode_utf8_first)]
theorem ld_is : (LL.filter fun x => x.2.handleName?.isNone) = LD := by kernel_rfl
/-- The settled world, with the one handle in its variable. -/
noncomputable def baseW (os : Os) : World :=
  let w0 := World.holding Tryz.prog os ⟨#[], #[], []⟩
  { w0 with heap := w0.heap.modify 0 fun
      | .cells _ t frozen => .cells #[.iface 164 (.agg #[.pointer (some ⟨14, 28, none⟩)])] t frozen
      | o => o }
noncomputable def laidW (os : Os) : World := (baseW os).layVars Tryz.prog LD
theorem laidW_os (os : Os) : (laidW os).os = os := World.layVars_os _ _ _
theorem laidW_shaped (os : Os) : (laidW os).Shaped Tryz.prog := World.shaped_of_ZipB (by kernel_rfl) (by kernel_rfl)
theorem laid_data (os : Os) : laidMet Tryz.prog LD (laidW os) := by
  have e1 : (LD.filter fun x => (LD.map (·.1)).contains x.1) = LD := List.filter_eq_self.2 fun x hx => List.contains_iff_mem.2 (List.mem_map.2 ⟨x, hx, rfl⟩)
  have e2 : (LD.filter fun x => !(LD.map (·.1)).contains x.1) = [] := List.filter_eq_nil_iff.2 fun x hx => by rw [List.contains_iff_mem.2 (List.mem_map.2 ⟨x, hx, rfl⟩)]; simp
  exact laidMet_layVars (w0 := baseW os) (LD.map (·.1)) [] (by rw [e1]; rfl) (by rw [e1]; kernel_rfl) (by rw [e1]; kernel_rfl) (by rw [e2]; exact LaidIn.none)
theorem laid_met (os : Os) (args : Array Value) : laidMetH Tryz.prog LL ((laidW os).forCall (fun _ _ => 0) ⟨#[], args, []⟩).memory := by
  refine laidMetH_of_parts (l := LL) ?_ (by kernel_rfl)
  rw [ld_is]
  exact (laid_data os).of_heap (by simp [World.memory, World.forCall, Input.heap])
end Go.Proofs.YtbehakabglegjaaGreatDoor
