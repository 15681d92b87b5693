/- Layer 3: fields whose names are among some are taken out (slices.DeleteFunc at fields), walked. Layer 3: slices.DeleteFunc at fields, walked. Layer 3: an object without some names (canon.Without), walked. An error's number. Layer 3: the document's examples (coveylaw03.shown), walked; an error's number. -/
import Derived.Lib.SliceRun
import Derived.Test.YtnjhmnolngdfaaaGreatDoorQ17
import Derived.Test.YtnjhmnolngdfaaaGreatDoorQ22
import Derived.Test.YtnjhmnolngdfaaaGreatDoorQ00
import Derived.Test.YtnjhmnolngdfaaaGreatDoorQZip
namespace Go.Proofs.YtnjhmnolngdfaaaGreatDoor
section
open Go.RowKit Go.PlainAid
set_option linter.unusedVariables false
set_option linter.unusedSimpArgs false
theorem names_cells {w : World} {A : Option Addr} {L : List ByteArray} (h : NamesAt w A 1 0 L) (hne : L ≠ []) : ∃ b off, A = some ⟨b, off, none⟩ ∧ ∀ j, j < L.length → w.cell? ⟨b, off + j, none⟩ = some (.string (L.getD j ByteArray.empty)) := by
  cases L with
  | nil => exact absurd rfl hne
  | cons x r =>
    obtain ⟨⟨b, off, e, _⟩, _⟩ := NamesAt.get h (j := 0) (n := x) rfl
    refine ⟨b, off, e, fun j hj => ?_⟩
    have hp : (x :: r)[j]? = some (x :: r)[j] := List.getElem?_eq_getElem hj
    obtain ⟨⟨b2, off2, e2, hc⟩, _⟩ := NamesAt.get h hp
    rw [e] at e2
    injection e2 with e2
    injection e2 with e3 e4
    subst e3 e4
    rw [Nat.zero_add, Nat.mul_one] at hc
    rw [hc, List.getD_eq_getElem?_getD, hp]
    rfl
theorem has_cont (L : List ByteArray) (x : ByteArray) : Lib.containsS L x = hasN L x := by
  rw [Bool.eq_iff_iff, Lib.containsS_iff, hasN_mem]
theorem cont_any {w : World} {A : Option Addr} {n c : Nat} {L : List ByteArray} (h : NamesAt w A 1 0 L) (hn : n = L.length) (hbig : n ≤ 9223372036854775807) (x : ByteArray) : Calls Tryz.prog 34 #[.slice A n c, .string x] w fun e w' => e = .returned (.bool (hasN L x)) ∧ w = w' := by
  by_cases hne : L = []
  · subst hne hn
    refine (Tryz.slices_Contains_string_empty A c x w).mono ?_
    rintro e w' ⟨rfl, rfl⟩
    exact ⟨rfl, rfl⟩
  · obtain ⟨b, off, rfl, hc⟩ := names_cells h hne
    refine (Tryz.slices_Contains_string b off n c L x w (by omega) hbig hc).mono ?_
    rintro e w' ⟨rfl, rfl⟩
    rw [List.take_of_length_le (by omega), has_cont]
    exact ⟨rfl, rfl⟩
/-- Names that a variable holds. -/
def NmW (W : World) (B : Nat) (L : List ByteArray) : Prop := ∃ A n c, W.cell? ⟨B, 0, none⟩ = some (.slice A n c) ∧ n = L.length ∧ n ≤ 9223372036854775807 ∧ NamesAt W A 1 0 L
set_option maxRecDepth 100000 in
set_option maxHeartbeats 1000000 in
theorem wclo_any {W : World} {B : Nat} {L : List ByteArray} (h : NmW W B L) (p : ByteArray × JV) : Calls Tryz.prog 33 #[.agg (fldA p), .pointer (some ⟨B, 0, none⟩)] W fun e w' => e = .returned (.bool (hasN L p.1)) ∧ Below W.heap.size W w' := by
  obtain ⟨A, n, c, hc, hn, hbig, hN⟩ := h
  have hlt : B < W.heap.size := World.block_lt_of_cell? W _ hc
  have HN0 := Lib.hid hn
  have HBI := Lib.hid hbig
  clear hn hbig
  go_enter Tryz.func33, Tryz.ntmps33
  go_wp2_with (first
    | (refine wpl_box_at rfl 52 (.tmp 0) rfl _ rfl ?_; intro w1 hw; have hb := hid_grow hw; have B2 := (hid_alloc hw).1; have hc1 := cell_below hb hc; have n2 := fld_nm (nm := p.1) (x := p.2) B2; have HN1 := hN.below hb; clear hw)
    | (go_at_call 34; (refine (cont_any HN1 HN0.out HBI.out p.1).mono ?_); rintro e w2 ⟨rfl, rfl⟩))
  go_ret
  exact ⟨rfl, hb⟩
/-- The first of the fields that goes; -1: none. -/
def idxN (L : List ByteArray) : List (ByteArray × JV) → Int
  | [] => -1
  | p :: r => if hasN L p.1 = true then 0 else if idxN L r = -1 then -1 else idxN L r + 1
theorem idxN_none {L : List ByteArray} : ∀ {M : List (ByteArray × JV)}, (∀ p ∈ M, hasN L p.1 = false) → idxN L M = -1
  | [], _ => rfl
  | p :: r, h => by
    unfold idxN
    rw [h p (by simp), if_neg (by decide), idxN_none (fun q hq => h q (by simp [hq])), if_pos rfl]
theorem idxN_hit {L : List ByteArray} : ∀ {M : List (ByteArray × JV)} {q : Nat} {p : ByteArray × JV}, M[q]? = some p → hasN L p.1 = true → (∀ x ∈ M.take q, hasN L x.1 = false) → idxN L M = q
  | [], q, p, h, _, _ => by simp at h
  | x :: r, 0, p, h, hp, _ => by
    obtain rfl : x = p := by simpa using h
    unfold idxN
    rw [if_pos hp]; rfl
  | x :: r, q + 1, p, h, hp, hall => by
    have ih := idxN_hit (M := r) (q := q) (by simpa using h) hp (fun y hy => hall y (by simp [hy]))
    unfold idxN
    rw [hall x (by simp), if_neg (by decide), ih, if_neg (by omega)]
    omega
set_option maxRecDepth 100000 in
set_option maxHeartbeats 4000000 in
theorem idx_any {w : World} {base : Nat} {A : Option Addr} {n c B : Nat} {M : List (ByteArray × JV)} {L : List ByteArray} (hO : w.ownsRow base 52 7 (.slice A n c) n (fldL M)) (hn : n = M.length) (hn2 : n ≤ 1048576) (hb : base ≤ w.heap.size) (HN : ∀ W, Below base w W → NmW W B L) :
    Calls Tryz.prog 52 #[.slice A n c, .func (.func 33) #[] #[.pointer (some ⟨B, 0, none⟩)]] w fun e w' => e = .returned (.int .i64 (idxN L M)) ∧ Below w.heap.size w w' := by
  have HO := Lib.hid hO
  have HM := Lib.hid hn
  have HNN := Lib.hid HN
  clear hO hn HN
  go_enter Tryz.func52, Tryz.ntmps52
  go_wp2
  go_loopw [8] (fun i wr => ∃ q : Nat, q ≤ n ∧ i = .int .i64 q ∧ Hid (∀ x ∈ M.take q, hasN L x.1 = false) ∧ Below w.heap.size w wr) (fun i _ => n - (intOf i).toNat)
  case atStart => exact ⟨0, Nat.zero_le _, rfl, Lib.hid (fun x hx => by simp at hx), Below.refl _ _⟩
  case round =>
    obtain ⟨q, hq, rfl, HQ, HB⟩ := hrel
    by_cases hlt : q < n
    · obtain ⟨gr, p, hA, hp, FC⟩ := own_fld (own_below HO.out HB) HM.out hlt
      have HP := Lib.hid hp
      have hbd : 0 ≤ (q : Int) ∧ (q : Int) < n := by omega
      have hlt2 : (q : Int) < n := by omega
      subst hA
      clear hp
      have HCL := Lib.hid (wclo_any (HNN.out wr (HB.mono hb)) p)
      cases hh : hasN L p.1 with
      | true =>
        have HF := Lib.hid (idxN_hit HP.out hh HQ.out)
        have HH := Lib.hid hh
        clear hh
        go_wp2_with (first
          | ((with_reducible refine is_load ?_); refine wpl_load_arr rfl 52 (.tmp 14) rfl _ _ rfl (fldA p) _ FC Tryz.underlying52 rfl info_field7 ?_)
          | (go_at_call 33; (refine HCL.out.mono ?_); rintro e w2 ⟨rfl, hb2⟩; rw [HH.out]; replace HB := zT HB hb2; clear hb2))
        go_ret
        exact ⟨ret_int (by rw [HF.out]), HB⟩
      | false =>
        have HH := Lib.hid hh
        clear hh
        go_wp2_with (first
          | ((with_reducible refine is_load ?_); refine wpl_load_arr rfl 52 (.tmp 14) rfl _ _ rfl (fldA p) _ FC Tryz.underlying52 rfl info_field7 ?_)
          | (go_at_call 33; (refine HCL.out.mono ?_); rintro e w2 ⟨rfl, hb2⟩; rw [HH.out]; replace HB := zT HB hb2; clear hb2))
        go_roundw
        case rel =>
          refine ⟨q + 1, by omega, by go_num, Lib.hid (fun x hx => ?_), HB⟩
          rw [take_next HP.out] at hx
          rcases List.mem_append.1 hx with hx | hx
          · exact HQ.out x hx
          · obtain rfl : x = p := by simpa using hx
            exact HH.out
        case measure => simp [intOf]; omega
    · obtain rfl : q = n := by omega
      have hlt2 : ¬ ((q : Nat) : Int) < q := by omega
      have HF := Lib.hid (show idxN L M = -1 from idxN_none (fun p hp => HQ.out p (by rw [List.take_of_length_le (by have := HM.out; omega)]; exact hp)))
      go_wp2
      go_ret
      exact ⟨ret_int (by rw [HF.out]), HB⟩
/-! A field laid over another; the fields behind cut away. -/
theorem own_set {w : World} {base g n c : Nat} {R : List (ByteArray × JV)} (h : w.ownsRow base 52 7 (.slice (some ⟨g, 0, none⟩) n c) n (fldL R)) (hR : R.length = n) {i : Nat} (hi : i < n) (p : ByteArray × JV) :
    w.there g (i * 7) 7 ∧ (w.setCells g (i * 7) (fldA p).toList).ownsRow base 52 7 (.slice (some ⟨g, 0, none⟩) n c) n (fldL (R.set i p)) ∧ Bes (fun q => q = g) w (w.setCells g (i * 7) (fldA p).toList) := by
  rcases h.2 with ⟨hv, _⟩ | ⟨g', cap', cur, hv, hb, hg, hnc, hc, hsz, htake⟩
  · cases hv
  · injection hv with e1 e2 e3
    injection e1 with e1
    have e4 : g = g' := by injection e1
    subst e4 e3
    have hI : IBox w g 52 cur := hg
    have hcap : n * 7 ≤ c * 7 := Nat.mul_le_mul_right 7 hnc
    have hlen : (fldA p).toList.length = 7 := rfl
    refine ⟨fun j hj => ?_, ⟨by rw [fldL_len, List.length_set, hR], .inr ⟨g, c, over cur (i * 7) (fldA p).toList, rfl, hb, setCells_box _ _ _ _ hI, hnc, hc, by rw [over_size]; exact hsz, ?_⟩⟩, setCells_bes (X := fun q => q = g) rfl _ _ _ _ hI⟩
    · refine ⟨?_, hI.frozen _⟩
      rw [hI.cell, Array.getElem?_eq_getElem (by omega)]
      rfl
    · apply List.ext_getElem?
      intro k
      rw [List.getElem?_take]
      by_cases hk : k < n * 7
      · rw [if_pos hk, Array.getElem?_toList, over_get _ _ _ _ (by rw [hlen]; omega), hlen, fldL_at _ k (by rw [List.length_set, hR]; exact hk)]
        have hset : (R.set i p)[k / 7]! = if i = k / 7 then p else R[k / 7]! := by
          have h1 : k / 7 < (R.set i p).length := by rw [List.length_set]; omega
          have h2 : k / 7 < R.length := by omega
          have h3 := get_bang h1
          rw [List.getElem?_set] at h3
          by_cases e : i = k / 7
          · rw [if_pos e] at h3 ⊢
            rw [if_pos (show i < R.length by omega)] at h3
            exact (Option.some.inj h3).symm
          · rw [if_neg e] at h3 ⊢
            rw [get_bang h2] at h3
            exact (Option.some.inj h3).symm
        rw [hset]
        by_cases hin : i * 7 ≤ k ∧ k < i * 7 + 7
        · have e : i = k / 7 := by omega
          rw [if_pos hin, if_pos e, show k - i * 7 = k % 7 by omega]
          rfl
        · have e : i ≠ k / 7 := by omega
          rw [if_neg hin, if_neg e, ← fldL_at R k (by omega), ← htake, List.getElem?_take, if_pos hk, Array.getElem?_toList]
      · rw [if_neg hk, List.getElem?_eq_none (by rw [fldL_len, List.length_set, hR]; omega)]
theorem own_cut {w : World} {base g n c i : Nat} {R : List (ByteArray × JV)} (h : w.ownsRow base 52 7 (.slice (some ⟨g, 0, none⟩) n c) n (fldL R)) (hR : R.length = n) (hi : i ≤ n) (vs : List Value) (hvs : i * 7 + vs.length ≤ n * 7) :
    (w.setCells g (i * 7) vs).ownsRow base 52 7 (.slice (some ⟨g, 0, none⟩) i c) i (fldL (R.take i)) ∧ Bes (fun q => q = g) w (w.setCells g (i * 7) vs) := by
  rcases h.2 with ⟨hv, _⟩ | ⟨g', cap', cur, hv, hb, hg, hnc, hc, hsz, htake⟩
  · cases hv
  · injection hv with e1 e2 e3
    injection e1 with e1
    have e4 : g = g' := by injection e1
    subst e4 e3
    have hI : IBox w g 52 cur := hg
    have hcap : n * 7 ≤ c * 7 := Nat.mul_le_mul_right 7 hnc
    refine ⟨⟨by rw [fldL_len, List.length_take]; omega, .inr ⟨g, c, over cur (i * 7) vs, rfl, hb, setCells_box _ _ _ _ hI, by omega, hc, by rw [over_size]; exact hsz, ?_⟩⟩, setCells_bes (X := fun q => q = g) rfl _ _ _ _ hI⟩
    apply List.ext_getElem?
    intro k
    rw [List.getElem?_take]
    by_cases hk : k < i * 7
    · rw [if_pos hk, Array.getElem?_toList, over_get _ _ _ _ (by omega), if_neg (by omega), fldL_at _ k (by rw [List.length_take]; omega)]
      have h1 : k / 7 < (R.take i).length := by rw [List.length_take]; omega
      have h2 : k / 7 < R.length := by omega
      have h3 := get_bang h1
      rw [List.getElem?_take, if_pos (by omega), get_bang h2] at h3
      rw [← Option.some.inj h3, ← fldL_at R k (by omega), ← htake, List.getElem?_take, if_pos (by omega), Array.getElem?_toList]
    · rw [if_neg hk, List.getElem?_eq_none (by rw [fldL_len, List.length_take]; omega)]
theorem own_there {w : World} {base g n c : Nat} {R : List (ByteArray × JV)} (h : w.ownsRow base 52 7 (.slice (some ⟨g, 0, none⟩) n c) n (fldL R)) {k : Nat} (hk : k < n * 7) : (w.cell? ⟨g, k, none⟩).isSome = true ∧ w.frozen? ⟨g, k, none⟩ = false := by
  rcases h.2 with ⟨hv, _⟩ | ⟨g', cap', cur, hv, hb, hg, hnc, hc, hsz, htake⟩
  · cases hv
  · injection hv with e1 e2 e3
    injection e1 with e1
    have e4 : g = g' := by injection e1
    subst e4 e3
    have hI : IBox w g 52 cur := hg
    have hcap : n * 7 ≤ c * 7 := Nat.mul_le_mul_right 7 hnc
    refine ⟨?_, hI.frozen _⟩
    rw [hI.cell, Array.getElem?_eq_getElem (by omega)]
    rfl
theorem run_clear_fields {w : World} {base g n c i : Nat} {R : List (ByteArray × JV)} (h : w.ownsRow base 52 7 (.slice (some ⟨g, 0, none⟩) n c) n (fldL R)) (hi : i < n) (ty : TypeId) (c' : Nat) :
    ∃ vs : List Value, i * 7 + vs.length ≤ n * 7 ∧ (Builtin.clear_ #[23] ty #[.slice (some ⟨g, i * 7, none⟩) (n - i) c']).run Tryz.prog w = .ok (.tuple #[]) (w.setCells g (i * 7) vs) := by
  have hz : ∀ w, (zeroValue 52).run Tryz.prog w = .ok (.agg (fldA (⟨#[]⟩, JV.zero))) w := zeroFC
  have hlen : (Builtin.zeroCells (Value.agg (fldA (⟨#[]⟩, JV.zero))).cells (n - i)).toList.length = (n - i) * 7 := by
    unfold Builtin.zeroCells
    have e : (Value.agg (fldA (⟨#[]⟩, JV.zero))).cells.size = 7 := rfl
    simp [e]
  have hone : ∀ v ∈ (Builtin.zeroCells (Value.agg (fldA (⟨#[]⟩, JV.zero))).cells (n - i)).toList, v.oneCell' = true := by
    intro v hv
    unfold Builtin.zeroCells at hv
    rw [Array.toList_map] at hv
    obtain ⟨k, _, rfl⟩ := List.mem_map.1 hv
    have e : (Value.agg (fldA (⟨#[]⟩, JV.zero))).cells.size = 7 := rfl
    have h7 : k % (Value.agg (fldA (⟨#[]⟩, JV.zero))).cells.size < (Value.agg (fldA (⟨#[]⟩, JV.zero))).cells.size := by rw [e]; omega
    rw [getElem!_pos (Value.agg (fldA (⟨#[]⟩, JV.zero))).cells (k % (Value.agg (fldA (⟨#[]⟩, JV.zero))).cells.size) h7]
    have := fld_one (⟨#[]⟩, JV.zero)
    rw [Array.all_eq_true] at this
    exact this _ h7
  refine ⟨(Builtin.zeroCells (Value.agg (fldA (⟨#[]⟩, JV.zero))).cells (n - i)).toList, by rw [hlen]; omega, ?_⟩
  have hst := run_storeCells_cells (P := Tryz.prog) g (i * 7) (Builtin.zeroCells (Value.agg (fldA (⟨#[]⟩, JV.zero))).cells (n - i)).toList 0 w (fun j hj => by rw [Nat.add_zero]; exact (own_there h (by omega)).1) (fun j hj => by rw [Nat.add_zero]; exact (own_there h (by omega)).2) hone
  rw [Nat.add_zero] at hst
  obtain ⟨m, hm⟩ : ∃ m, n - i = m + 1 := ⟨n - i - 1, by omega⟩
  rw [hm] at hst ⊢
  simp only [Builtin.clear_, List.getElem?_toArray, List.getElem?_cons_zero, Sem.run_bind, run_underlying Tryz.underlying23, hz, hst, Result.andThen, Sem.run_pure]
end
end Go.Proofs.YtnjhmnolngdfaaaGreatDoor
namespace Go.Proofs.YtnjhmnolngdfaaaGreatDoor
section
open Go.RowKit Go.PlainAid
set_option linter.unusedVariables false
set_option linter.unusedSimpArgs false
section
variable {ops : Array Oper} {rest : List Oper} {o : Oper} {a : Act} {w : World} {Q : Exit → Act → World → Prop}
theorem wpl_store_fld (hgd : o.guard = none) (x y : Operand) (ho : o.op = .store 52 x y) {base g n c : Nat} {R : List (ByteArray × JV)} (h : w.ownsRow base 52 7 (.slice (some ⟨g, 0, none⟩) n c) n (fldL R)) (hR : R.length = n) {i : Nat} (hi : i < n) (p : ByteArray × JV)
    (hx : a.eval x = .pointer (some ⟨g, i * 7, none⟩)) (hy : a.eval y = .agg (fldA p)) (hQ : ∀ w', w'.ownsRow base 52 7 (.slice (some ⟨g, 0, none⟩) n c) n (fldL (R.set i p)) → Bes (fun q => q = g) w w' → wpList Tryz.prog ops Q rest (a.put o.dst undef) w') : wpList Tryz.prog ops Q (o :: rest) a w :=
  wpList_plain hgd fun _ hK => by
    obtain ⟨h1, h2, h3⟩ := own_set h hR hi p
    exact wp_store_mid 52 x y ho g (i * 7) (fldA p) hx hy h1 info_field7 (fld_one p) (hK _ _ (hQ _ h2 h3))
end
/-- Which fields stay. -/
def kept (L : List ByteArray) (p : ByteArray × JV) : Bool := !hasN L p.1
theorem first_away {L : List ByteArray} : ∀ {M : List (ByteArray × JV)}, (∀ p ∈ M, hasN L p.1 = false) ∨ ∃ q p, M[q]? = some p ∧ hasN L p.1 = true ∧ ∀ x ∈ M.take q, hasN L x.1 = false
  | [] => .inl (fun _ h => nomatch h)
  | p :: r => by
    cases hp : hasN L p.1 with
    | true => exact .inr ⟨0, p, rfl, hp, fun x hx => by simp at hx⟩
    | false =>
      rcases first_away (L := L) (M := r) with h | ⟨q, x, h1, h2, h3⟩
      · refine .inl fun y hy => ?_
        rcases List.mem_cons.1 hy with rfl | hy
        · exact hp
        · exact h y hy
      · refine .inr ⟨q + 1, x, by simpa using h1, h2, fun y hy => ?_⟩
        rw [List.take_succ_cons] at hy
        rcases List.mem_cons.1 hy with rfl | hy
        · exact hp
        · exact h3 y hy
theorem keep_all {L : List ByteArray} {M : List (ByteArray × JV)} (h : ∀ p ∈ M, hasN L p.1 = false) : M.filter (kept L) = M := List.filter_eq_self.2 fun p hp => by unfold kept; rw [h p hp]; rfl
theorem keep_take {L : List ByteArray} {M : List (ByteArray × JV)} {q : Nat} {p : ByteArray × JV} (hp : M[q]? = some p) : (M.take (q + 1)).filter (kept L) = (M.take q).filter (kept L) ++ if kept L p = true then [p] else [] := by
  rw [take_next hp, List.filter_append]
  congr 1
  by_cases h : kept L p = true
  · rw [if_pos h, List.filter_cons_of_pos h, List.filter_nil]
  · rw [if_neg h, List.filter_cons_of_neg h, List.filter_nil]
theorem set_take {α : Type} {R : List α} {i : Nat} {p : α} (hi : i < R.length) : (R.set i p).take (i + 1) = R.take i ++ [p] := by
  have h1 : (R.set i p)[i]? = some p := by rw [List.getElem?_set, if_pos rfl, if_pos hi]
  rw [take_next h1]
  congr 1
  apply List.ext_getElem?
  intro k
  rw [List.getElem?_take, List.getElem?_take]
  by_cases hk : k < i
  · rw [if_pos hk, if_pos hk, List.getElem?_set, if_neg (by omega)]
  · rw [if_neg hk, if_neg hk]
theorem set_drop {α : Type} {R : List α} {i j : Nat} {p : α} (hi : i < j) : (R.set i p).drop j = R.drop j := by
  apply List.ext_getElem?
  intro k
  rw [List.getElem?_drop, List.getElem?_drop, List.getElem?_set, if_neg (by omega)]
theorem clear_same {w w' : World} {a : Array TypeId} {v : Array Value} {t t' : TypeId} (h : (Builtin.clear_ a t v).run Tryz.prog w = .ok (.tuple #[]) w') : (Builtin.clear_ a t' v).run Tryz.prog w = .ok (.tuple #[]) w' := h
/-- What DeleteFunc leaves. -/
def DfV (base : Nat) (A : Option Addr) (n c : Nat) (M : List (ByteArray × JV)) (L : List ByteArray) (w : World) (e : Ending) (w' : World) : Prop :=
  (∃ m, e = .returned (.slice A m c) ∧ m = (M.filter (kept L)).length ∧ w'.ownsRow base 52 7 (.slice A m c) m (fldL (M.filter (kept L)))) ∧ Bes (fun q => (Value.slice A n c).ownBlock = some q) w w'
set_option maxRecDepth 100000 in
set_option maxHeartbeats 8000000 in
theorem del_any {w : World} {base : Nat} {A : Option Addr} {n c B : Nat} {M : List (ByteArray × JV)} {L : List ByteArray} (hO : w.ownsRow base 52 7 (.slice A n c) n (fldL M)) (hn : n = M.length) (hn2 : n ≤ 1048576) (hb : base ≤ w.heap.size) (HN : ∀ W, Below base w W → NmW W B L) :
    Calls Tryz.prog 32 #[.slice A n c, .func (.func 33) #[] #[.pointer (some ⟨B, 0, none⟩)]] w (DfV base A n c M L w) := by
  have HIX := Lib.hid (idx_any hO hn hn2 hb HN)
  have HM := Lib.hid hn
  have HNN := Lib.hid HN
  clear hn HN
  rcases first_away (L := L) (M := M) with hall | ⟨i0, p0, hp0, hh0, hall⟩
  · have HF := Lib.hid (idxN_none hall)
    have HK := Lib.hid (keep_all hall)
    have HO := Lib.hid hO
    clear hall hO
    go_enter Tryz.func32, Tryz.ntmps32
    go_wp2_with (go_at_call 52; (refine HIX.out.mono ?_); rintro e w2 ⟨rfl, hb2⟩; rw [HF.out])
    go_ret
    exact ⟨⟨n, rfl, by rw [HK.out]; exact HM.out, by rw [HK.out]; exact own_below HO.out hb2⟩, Bes.of_below hb2⟩
  · have HBZ := Lib.hid hb
    have hi0 : i0 < n := by have := (List.getElem?_eq_some_iff.1 hp0).1; have := HM.out; omega
    have HF := Lib.hid (idxN_hit hp0 hh0 hall)
    have HI0 : Hid (M.take i0 = (M.take (i0 + 1)).filter (kept L)) := Lib.hid (by rw [keep_take hp0, if_neg (by unfold kept; rw [hh0]; decide), List.append_nil, keep_all hall])
    obtain ⟨gr, _, hA, _, _⟩ := own_fld hO HM.out hi0
    subst hA
    have hcn : n ≤ c := by
      rcases hO.2 with ⟨hv, _⟩ | ⟨g', cap', cur, hv, _, _, hnc, _⟩
      · cases hv
      · injection hv with _ _ e3; omega
    have hcm : c ≤ 9223372036854775807 := by
      rcases hO.2 with ⟨hv, _⟩ | ⟨g', cap', cur, hv, _, _, _, hc, _⟩
      · cases hv
      · injection hv with _ _ e3; unfold maxLen at hc; omega
    have hgb := (own_in hO (k := gr) rfl).1
    have HO := Lib.hid hO
    have h1i : ((i0 : Nat) : Int) ≠ -1 := by omega
    have h1b : (((i0 : Nat) : Int) == -1) = false := beq_eq_false_iff_ne.2 h1i
    have hi64 : (i0 : Int) + 1 ≤ 9223372036854775807 := by omega
    clear hp0 hh0 hall hO h1i
    go_enter Tryz.func32, Tryz.ntmps32
    go_wp2_with (go_at_call 52; (refine HIX.out.mono ?_); rintro e w2 ⟨rfl, hb2⟩; rw [HF.out])
    have HO2 := own_below HO.out hb2
    have HBE0 : Bes (fun q => (Value.slice (some ⟨gr, 0, none⟩) n c).ownBlock = some q) w w2 := Bes.of_below hb2
    go_loopw [5, 6] (fun s5 s6 wr => ∃ (i j : Nat) (R : List (ByteArray × JV)), s5 = .int .i64 i ∧ s6 = .int .i64 j ∧ i < j ∧ j ≤ n ∧ Hid (R.length = n) ∧ Hid (R.take i = (M.take j).filter (kept L)) ∧ Hid (R.drop j = M.drop j) ∧ wr.ownsRow base 52 7 (.slice (some ⟨gr, 0, none⟩) n c) n (fldL R) ∧ Bes (fun q => (Value.slice (some ⟨gr, 0, none⟩) n c).ownBlock = some q) w wr) (fun _ s6 _ => n - (intOf s6).toNat)
    case atStart => exact ⟨i0, i0 + 1, M, rfl, by go_num, Nat.lt_succ_self _, hi0, Lib.hid HM.out.symm, HI0, Lib.hid rfl, HO2, HBE0⟩
    case round =>
      clear HO2 HBE0
      obtain ⟨i, j, R, rfl, rfl, hij, hj, HR, HT, HD, HO, HBE⟩ := hrel
      by_cases hlt : j < n
      · obtain ⟨gq, p, hA, hp, FC⟩ := own_fld HO HR.out.symm hlt
        obtain rfl : gr = gq := by injection hA with h1; injection h1
        have HPM : Hid (M[j]? = some p) := Lib.hid (by have h1 := congrArg (fun l => l[0]?) HD.out; simp only [List.getElem?_drop, Nat.add_zero] at h1; rw [← h1]; exact hp)
        have hbd : 0 ≤ (j : Int) ∧ (j : Int) < n := by omega
        have hlt2 : (j : Int) < n := by omega
        have hbi : 0 ≤ (i : Int) ∧ (i : Int) < n := by omega
        have hBB : Below base w wr := HBE.below (fun k e => by have e2 : gr = k := Option.some.inj e; omega) hb
        have HBBH := Lib.hid hBB
        clear hA hp hBB
        cases hh : hasN L p.1
        · have HH := Lib.hid hh
          clear hh
          go_wp2_with (first
            | ((with_reducible refine is_load ?_); refine wpl_load_arr rfl 52 (.tmp 24) rfl _ _ rfl (fldA p) _ FC Tryz.underlying52 rfl info_field7 ?_)
            | ((with_reducible refine is_alloc ?_); refine wpl_newbox 7 rfl rfl 52 rfl rfl (.tmp 25) rfl _ zeroFC (fldA p) rfl rfl info_field7 rfl (fld_one _) ?_; intro w5 hw; have hb := hid_grow hw; have B7 := (hid_alloc hw).1; replace HBBH := Lib.hid (HBBH.out.trans (hb.mono (Nat.le_trans HBZ.out HBBH.out.size))); clear FC; have hbe9 : Bes (fun q => (Value.slice (some ⟨gr, 0, none⟩) n c).ownBlock = some q) w _ := Bes.trans HBE (Bes.of_below (X := fun _ => False) hb) (fun _ x => x) (fun _ _ x => x.elim); replace HBE := hbe9; clear hbe9; replace HO := own_below HO hb; clear hb hw)
            | ((with_reducible refine is_load ?_); refine wpl_load_box rfl 52 (.tmp 7) rfl _ rfl _ _ _ B7 Tryz.underlying52 rfl info_field7 ?_)
            | (go_at_call 33; (refine (wclo_any (HNN.out _ HBBH.out) p).mono ?_); rintro e w6 ⟨rfl, hb⟩; rw [HH.out]; have hbe9 : Bes (fun q => (Value.slice (some ⟨gr, 0, none⟩) n c).ownBlock = some q) w _ := Bes.trans HBE (Bes.of_below (X := fun _ => False) hb) (fun _ x => x) (fun _ _ x => x.elim); replace HBE := hbe9; clear hbe9; replace HO := own_below HO hb; (try replace B7 := zI B7 hb); clear hb)
            | ((with_reducible refine is_store ?_); refine wpl_store_fld rfl (.tmp 33) (.tmp 32) rfl HO HR.out (show i < n by omega) p rfl rfl ?_; intro w8 HO8 hbe; replace HO := HO8; have hbe9 : Bes (fun q => (Value.slice (some ⟨gr, 0, none⟩) n c).ownBlock = some q) w w8 := Bes.trans HBE hbe (fun _ x => x) (fun _ _ x => by rw [x]; rfl); replace HBE := hbe9; clear hbe9 HO8 hbe B7))
          go_roundw
          case rel =>
            refine ⟨i + 1, j + 1, R.set i p, by go_num, by go_num, by omega, by omega, Lib.hid (by rw [List.length_set]; exact HR.out), Lib.hid ?_, Lib.hid ?_, HO, HBE⟩
            · rw [set_take (by have := HR.out; omega), HT.out, keep_take HPM.out, if_pos (by unfold kept; rw [HH.out]; rfl)]
            · rw [set_drop (by omega)]
              have h1 := congrArg (List.drop 1) HD.out
              rw [List.drop_drop, List.drop_drop] at h1
              exact h1
          case measure => simp [intOf]; omega
        · have HH := Lib.hid hh
          clear hh
          go_wp2_with (first
            | ((with_reducible refine is_load ?_); refine wpl_load_arr rfl 52 (.tmp 24) rfl _ _ rfl (fldA p) _ FC Tryz.underlying52 rfl info_field7 ?_)
            | ((with_reducible refine is_alloc ?_); refine wpl_newbox 7 rfl rfl 52 rfl rfl (.tmp 25) rfl _ zeroFC (fldA p) rfl rfl info_field7 rfl (fld_one _) ?_; intro w5 hw; have hb := hid_grow hw; have B7 := (hid_alloc hw).1; replace HBBH := Lib.hid (HBBH.out.trans (hb.mono (Nat.le_trans HBZ.out HBBH.out.size))); clear FC; have hbe9 : Bes (fun q => (Value.slice (some ⟨gr, 0, none⟩) n c).ownBlock = some q) w _ := Bes.trans HBE (Bes.of_below (X := fun _ => False) hb) (fun _ x => x) (fun _ _ x => x.elim); replace HBE := hbe9; clear hbe9; replace HO := own_below HO hb; clear hb hw)
            | ((with_reducible refine is_load ?_); refine wpl_load_box rfl 52 (.tmp 7) rfl _ rfl _ _ _ B7 Tryz.underlying52 rfl info_field7 ?_)
            | (go_at_call 33; (refine (wclo_any (HNN.out _ HBBH.out) p).mono ?_); rintro e w6 ⟨rfl, hb⟩; rw [HH.out]; have hbe9 : Bes (fun q => (Value.slice (some ⟨gr, 0, none⟩) n c).ownBlock = some q) w _ := Bes.trans HBE (Bes.of_below (X := fun _ => False) hb) (fun _ x => x) (fun _ _ x => x.elim); replace HBE := hbe9; clear hbe9; replace HO := own_below HO hb; (try replace B7 := zI B7 hb); clear hb))
          go_roundw
          case rel =>
            refine ⟨i, j + 1, R, rfl, by go_num, by omega, by omega, HR, Lib.hid ?_, Lib.hid ?_, HO, HBE⟩
            · rw [HT.out, keep_take HPM.out, if_neg (by unfold kept; rw [HH.out]; decide), List.append_nil]
            · have h1 := congrArg (List.drop 1) HD.out
              rw [List.drop_drop, List.drop_drop] at h1
              exact h1
          case measure => simp [intOf]; omega
      · obtain rfl : j = n := by omega
        have hlt2 : ¬ ((j : Nat) : Int) < j := by omega
        have HFIN := Lib.hid (show R.take i = M.filter (kept L) by rw [HT.out, List.take_of_length_le (by have := HM.out; omega)])
        have HLEN := Lib.hid (show i = (M.filter (kept L)).length by rw [← HFIN.out, List.length_take]; have := HR.out; omega)
        obtain ⟨vs, hvs, hcl⟩ : ∃ vs : List Value, i * 7 + vs.length ≤ j * 7 ∧ ∀ ty, (Builtin.clear_ #[23] ty #[.slice (some ⟨gr, i * 7, none⟩) (j - i) (c - i)]).run Tryz.prog wr = .ok (.tuple #[]) (wr.setCells gr (i * 7) vs) := by
          obtain ⟨vs, h1, _⟩ := run_clear_fields HO hij 0 (c - i)
          exact ⟨_, (run_clear_fields HO hij 0 (c - i)).choose_spec.1, fun ty => clear_same (run_clear_fields HO hij 0 (c - i)).choose_spec.2⟩
        obtain ⟨HC1, HC2⟩ := own_cut HO HR.out (show i ≤ j by omega) vs hvs
        have HCC := Lib.hid HC1
        have HCB := Lib.hid HC2
        obtain ⟨wz, hwz⟩ : ∃ wz, wz = wr.setCells gr (i * 7) vs := ⟨_, rfl⟩
        have HWZ := Lib.hid hwz
        rw [← hwz] at hcl
        have hib : 0 ≤ (i : Int) ∧ (i : Int) ≤ j := by omega
        have hic : (i : Int) ≤ c := by omega
        have hjc : (j : Int) ≤ c := by omega
        clear HC1 HC2 hwz hvs
        go_wp2
        go_ret
        refine ⟨⟨i, rfl, HLEN.out, ?_⟩, ?_⟩
        · rw [HWZ.out, ← HFIN.out]; exact HCC.out
        · rw [HWZ.out]
          exact Bes.trans HBE HCB.out (fun _ x => x) (fun k _ x => by have e : k = gr := x; rw [e]; rfl)
end
end Go.Proofs.YtnjhmnolngdfaaaGreatDoor
namespace Go.Proofs.YtnjhmnolngdfaaaGreatDoor
section
open Go.RowKit Go.PlainAid
set_option linter.unusedVariables false
set_option linter.unusedSimpArgs false
/-- Fields without some names. -/
def witL (L : List ByteArray) (ns : List ByteArray) (vs : List JT) : List (ByteArray × JT) := (ns.zip vs).filter fun p => !hasN L p.1
def witT (L : List ByteArray) : JT → JT
  | .mk k b i t l ns vs => .mk k b i t l ((witL L ns vs).map (·.1)) ((witL L ns vs).map (·.2))
/-- What Without says: 8, or the number of the value's own error. -/
def witC (j : JV) : Int := if j.v.kind = 5 then (wrtS (er j)).1 else 8
def WoV (j : JV) (L : List ByteArray) (w : World) (e : Ending) (w' : World) : Prop := Below w.heap.size w w' ∧
  if witC j = 0 then ∃ x, e = .returned (.tuple #[.agg x.cells, .nilIface]) ∧ IsJV w' x ∧ er x = witT L (nrmT (er j)) ∧ Off (fun q => q < w.heap.size) x
  else e = .returned (.tuple #[.agg JV.zero.cells, .iface 31 (.int .i64 (witC j))])
theorem WoV.bad {j : JV} {L : List ByteArray} {w w' : World} {c : Int} (h : witC j = c) (hc : c ≠ 0) (hb : Below w.heap.size w w') : WoV j L w (.returned (.tuple #[.agg JV.zero.cells, .iface 31 (.int .i64 c)])) w' := ⟨hb, by rw [h, if_neg hc]⟩
theorem WoV.ok {j : JV} {L : List ByteArray} {w w' : World} (h : witC j = 0) (hb : Below w.heap.size w w') {x : JV} (hx : IsJV w' x) (he : er x = witT L (nrmT (er j))) (ho : Off (fun q => q < w.heap.size) x) : WoV j L w (.returned (.tuple #[.agg x.cells, .nilIface])) w' := ⟨hb, by rw [if_pos h]; exact ⟨x, rfl, hx, he, ho⟩⟩
theorem wpl_box_slice {P : Program} {ops : Array Oper} {rest : List Oper} {o : Oper} {a : Act} {w : World} {Q : Exit → Act → World → Prop} (hgd : o.guard = none) (ty : TypeId) (x : Operand) (ho : o.op = .box ty x) (A : Option Addr) (n c : Nat) (hx : a.eval x = .slice A n c)
    (h : ∀ w', Hid (w' = w.alloc (.cells #[.slice A n c] ty)) → wpList P ops Q rest (a.put o.dst (.pointer (some ⟨w.heap.size, 0, none⟩))) w') : wpList P ops Q (o :: rest) a w :=
  wpList_plain hgd fun _ hK => by
    unfold Oper.wp execOp
    simp [ho, hx]
    exact hK _ _ (h _ rfl)
theorem NmW.below {W W' : World} {B : Nat} {L : List ByteArray} (h : NmW W B L) (hb : Below W.heap.size W W') : NmW W' B L := by
  obtain ⟨A, n, c, h1, h2, h3, h4⟩ := h
  exact ⟨A, n, c, cell_below hb h1, h2, h3, h4.below hb⟩
theorem nrm_kind {t : JT} : (match nrmT t with | .mk k _ _ _ _ _ _ => k) = (match t with | .mk k _ _ _ _ _ _ => k) := by
  obtain ⟨k, b, i, x, l, ns, vs⟩ := t
  rcases jt_kinds k with rfl | rfl | rfl | rfl | rfl | rfl | ⟨k0, k1, k2, k3, k4, k5⟩
  · rw [nrm_0]
  · rw [nrm_1]
  · rw [nrm_2]
  · rw [nrm_3]
  · rw [nrm_4]
  · rw [nrm_5]
  · rw [nrm_else k1 k2 k3 k4 k5]
theorem er_kind5 {j y : JV} (hk : j.v.kind = 5) (he : er y = nrmT (er j)) : y.v.kind = 5 := by
  have h1 := nrm_kind (t := er j)
  rw [← he, er_mk, er_mk] at h1
  exact h1.trans hk
theorem zip_map : ∀ M : List (ByteArray × JV), (M.map (·.1)).zip (M.map fun p => er p.2) = M.map fun p => (p.1, er p.2)
  | [] => rfl
  | x :: r => by rw [List.map_cons, List.map_cons, List.map_cons, List.zip_cons_cons, zip_map r]
/-- The object of the fields that stay. -/
theorem wit_obj {j : JV} {A : Option Addr} {c : Nat} {M : List (ByteArray × JV)} {L : List ByteArray} (hk : j.v.kind = 5) (he : er (objJ A c M) = nrmT (er j)) : er (objJ A c (M.filter (kept L))) = witT L (nrmT (er j)) := by
  rw [← he, er_obj, er_obj]
  show _ = JT.mk 5 false 0 ⟨#[]⟩ [] ((witL L (M.map (·.1)) (M.map fun p => er p.2)).map (·.1)) ((witL L (M.map (·.1)) (M.map fun p => er p.2)).map (·.2))
  unfold witL
  rw [zip_map M]
  have e2 : (M.map fun p => (p.1, er p.2)).filter (fun p => !hasN L p.1) = (M.filter (kept L)).map fun p => (p.1, er p.2) := by
    rw [List.filter_map]
    rfl
  rw [e2, List.map_map, List.map_map]
  rfl
set_option maxRecDepth 100000 in
set_option maxHeartbeats 16000000 in
theorem without_any {j : JV} {w : World} {nA : Option Addr} {nn nc : Nat} {L : List ByteArray} (HJ : IsJV w j) (hz : SzT (er j) ≤ 1048576) (hW : Wc w) (HNM : NamesAt w nA 1 0 L) (hnn : nn = L.length) (hnb : nn ≤ 9223372036854775807) : Calls Tryz.prog 15 #[.agg j.cells, .slice nA nn nc] w (WoV j L w) := by
  have HZ := Lib.hid hz
  have HW := Lib.hid hW
  have HNN := Lib.hid hnn
  have HNB0 := Lib.hid hnb
  have HB := Below.refl w.heap.size w
  clear hz hW hnn hnb
  by_cases hk5 : j.v.kind = 5
  · have HKD := Lib.hid hk5
    clear hk5
    rcases wrt_ways (er j) with ⟨l, hs⟩ | ⟨c, hs, hc⟩
    · have HS := Lib.hid hs
      have HC := Lib.hid (show witC j = 0 by unfold witC; rw [if_pos HKD.out, hs])
      clear hs
      go_enter Tryz.func15, Tryz.ntmps15
      go_wp2_with (first
        | ((with_reducible refine is_alloc ?_); refine wpl_newbox 6 rfl rfl 25 rfl rfl (.tmp 16) rfl _ zeroV (objJ A c M).cells rfl rfl info_value rfl (jv_one _) ?_; intro w5 hw; have hb := hid_grow hw; have B6 := (hid_alloc hw).1; have H45 := Lib.hid hb; have L64 := IBox.lt B4; have c6 : w5.cell? ⟨w4.heap.size, 5, none⟩ = some (.slice A M.length c) := (B6.cell 5).trans rfl; replace HB := zT HB hb; (try replace HJ := HJ.below hb); (try replace B2 := zI B2 hb); (try replace B3 := zI B3 hb); (try replace B4 := zI B4 hb); (try replace HNM := HNM.below hb); (try replace c2_0 := cell_below hb c2_0); clear hb hw)
        | (refine wpl_box_at rfl 25 (.tmp 0) rfl _ rfl ?_; intro w1 hw; have hb := hid_grow hw; have B2 := (hid_alloc hw).1; replace HB := zT HB hb; (try replace HJ := HJ.below hb); (try replace B3 := zI B3 hb); (try replace B4 := zI B4 hb); (try replace B6 := zI B6 hb); (try replace HNM := HNM.below hb); (try replace c2_0 := cell_below hb c2_0); clear hb hw; have c2_0 : w1.cell? ⟨_, 0, none⟩ = some (.int .i64 5) := (B2.cell 0).trans (by rw [← HKD.out]; rfl))
        | (refine wpl_box_slice rfl 37 (.tmp 1) rfl nA nn nc rfl ?_; intro w2 hw; have hb := hid_grow hw; have B3 := (hid_alloc hw).1; replace HB := zT HB hb; (try replace HJ := HJ.below hb); (try replace B2 := zI B2 hb); (try replace B4 := zI B4 hb); (try replace B6 := zI B6 hb); (try replace HNM := HNM.below hb); (try replace c2_0 := cell_below hb c2_0); clear hb hw)
        | ((with_reducible refine is_alloc ?_); refine wpl_alloc_at (o := ⟨some 4, _, _, _, _, _⟩) rfl 25 rfl _ zeroV ?_; intro w3 hw; have hb := hid_grow hw; have B4 := hid_alloc0 hw; have G24 := HB.size; replace HB := zT HB hb; (try replace HJ := HJ.below hb); (try replace B2 := zI B2 hb); (try replace B3 := zI B3 hb); (try replace B6 := zI B6 hb); (try replace HNM := HNM.below hb); (try replace c2_0 := cell_below hb c2_0); clear hb hw; have L34 := IBox.lt B4; have L13 := IBox.lt B3; have B33 := Lib.hid B3)
        | ((with_reducible refine is_load ?_); refine wpl_load_box rfl 25 (.tmp 2) rfl _ rfl _ _ _ B2 Tryz.underlying25 rfl info_value ?_)
        | (go_at_call 20; (refine (cnorm_any HJ HZ.out (Wc.below HB HW.out)).mono ?_); intro e w4 hnm; obtain ⟨y, he, hy, hey, hoy, how, hb⟩ := NoV.yes HS.out hnm; subst he; clear hnm; obtain ⟨A, c, M, hyo, hown, hels, hnsz, hMl⟩ := how (er_kind5 HKD.out hey); subst hyo; have HEY := Lib.hid hey; have HOWN := Lib.hid hown; have HELS := Lib.hid hels; have HNSZ := Lib.hid hnsz; have HML := Lib.hid hMl; have HNB := Lib.hid HNM; have HBQ := Lib.hid hb; have HGB := Lib.hid HB.size; clear hy hey hoy how hown hels hnsz hMl; replace HB := zT HB hb; (try replace HJ := HJ.below hb); (try replace B2 := zI B2 hb); (try replace B3 := zI B3 hb); (try replace B4 := zI B4 hb); (try replace B6 := zI B6 hb); (try replace HNM := HNM.below hb); (try replace c2_0 := cell_below hb c2_0); clear hb))
      have HO5 := Lib.hid (own_below HOWN.out H45.out)
      have HNMW : Hid (NmW w3 w1.heap.size L) := Lib.hid ⟨nA, nn, nc, (B33.out.cell 0).trans rfl, HNN.out, HNB0.out, HNB.out⟩
      have HB35 := Lib.hid (HBQ.out.trans (H45.out.mono HBQ.out.size))
      go_wp2_with (first
        | (go_at_call 32; (refine (del_any HO5.out rfl (HML.out) HB35.out.size (fun W hW => HNMW.out.below (HB35.out.trans hW))).mono ?_); rintro e w6 ⟨⟨m, rfl, hm, hown6⟩, hbe⟩; have hne6 : ∀ q, (Value.slice A M.length c).ownBlock = some q → w3.heap.size ≤ q ∧ q < w4.heap.size := fun q e => own_in HOWN.out e; replace B6 := Bes.box hbe B6 (fun e => by have := hne6 _ e; omega); replace B4 := Bes.box hbe B4 (fun e => by have := hne6 _ e; omega); replace HB := HB.trans (hbe.below (B := w.heap.size) (fun k e => by have := hne6 _ e; have := HGB.out; omega) HB.size); have HO6 := Lib.hid hown6; have HM6 := Lib.hid hm; have HEL6 : Hid (∀ p ∈ M.filter (kept L), IsJV w6 p.2 ∧ Off (fun q => q < w3.heap.size ∨ (Value.slice A M.length c).ownBlock = some q) p.2 ∧ Off (fun q => q = w4.heap.size) p.2) := Lib.hid (fun p hp => by have h1 := HELS.out p (List.mem_filter.1 hp).1; exact ⟨IsJV.bes hbe (h1.1.below H45.out) (Off.mono (fun q e => Or.inr e) h1.2), h1.2, Off.mono (fun q e => by have e2 : q = w4.heap.size := e; show w4.heap.size ≤ q; omega) (off_heap h1.1)⟩); clear hown6 hm hbe hne6 c6)
        | ((with_reducible refine is_store ?_); refine wpl_store_cell rfl 23 (.tmp 26) (.tmp 25) rfl _ 5 rfl (.slice A m c) rfl _ _ B6 (show 5 < 6 by decide) info_oneF rfl ?_; intro w7 hw; have hbe := Bes.row (X := fun q => q = w4.heap.size) hw rfl; have hq := hid_row_below hw (show w.heap.size ≤ w4.heap.size by have := HGB.out; have := HBQ.out.size; omega) HB; replace HB := hq.1; replace B4 := hid_row_other hw (show w2.heap.size ≠ w4.heap.size by omega) B4; replace B6 : IBox w7 w4.heap.size 25 (VC (.slice A m c)) := hid_row hw B6; have HBE7 := Lib.hid hbe; clear hq hw hbe)
        | ((with_reducible refine is_store ?_); refine wpl_store_at rfl 25 (.tmp 4) (.tmp 27) rfl _ (VC (.slice A m c)) rfl rfl _ _ B4 info_value rfl (VC_one _ _ _) ?_; intro w9 hw; have hbe := Bes.row (X := fun q => q = w2.heap.size) hw rfl; have hq := hid_row_below hw G24 HB; replace HB := hq.1; replace B4 := hid_row hw B4; have HBE9 := Lib.hid hbe; clear hq hw hbe)
        | ((with_reducible refine is_load ?_); refine wpl_load_box rfl 25 (.tmp 6) rfl _ rfl _ _ _ B6 Tryz.underlying25 rfl info_value ?_))
      have h67 : ∀ k, (Value.slice A m c).ownBlock = some k → ¬ k = w4.heap.size := fun k e e2 => by
        cases A with
        | none => cases e
        | some a =>
          have h1 := (own_in HOWN.out (k := a.block) rfl).2
          have e3 : a.block = k := Option.some.inj e
          omega
      have h69 : ∀ k, (Value.slice A m c).ownBlock = some k → ¬ k = w2.heap.size := fun k e e2 => by
        have h1 := (own_in HO6.out e).1
        omega
      have HO9 := HBE9.out.own (HBE7.out.own HO6.out h67) h69
      obtain ⟨mm, hmm⟩ : ∃ mm, mm = m := ⟨_, rfl⟩
      have HMM := HM6.out
      rw [HMM] at HO9 B4
      have HEL9 : ∀ p ∈ M.filter (kept L), IsJV w9 p.2 ∧ Off (fun q => q < w3.heap.size ∨ (Value.slice A M.length c).ownBlock = some q) p.2 := fun p hp => by
        have h1 := HEL6.out p hp
        exact ⟨IsJV.bes HBE9.out (IsJV.bes HBE7.out h1.1 h1.2.2) (Off.mono (fun q e => Or.inl (by have e2 : q = w2.heap.size := e; omega)) h1.2.1), h1.2.1⟩
      have hlen : (M.filter (kept L)).length ≤ 1048576 := Nat.le_trans (List.length_filter_le _ _) HML.out
      obtain ⟨A', c', hv, hj9, ha9⟩ := own_objA HO9 rfl (fun p hp => ⟨HNSZ.out p (List.mem_filter.1 hp).1, (HEL9 p hp).1⟩) (by unfold reach; omega)
      injection hv with e1 e2 e3
      subst e1 e3
      have hoff : Off (fun q => q < w.heap.size) (objJ A c (M.filter (kept L))) := by
        unfold objJ Off
        refine ⟨fun h => absurd rfl h, fun _ a e hlt => ?_, by unfold OffL; exact True.intro, offL_of fun x hx => ?_⟩
        · have := ha9 a e
          have hlt2 : a.block < w.heap.size := hlt
          have := HGB.out
          omega
        · obtain ⟨p, hp, rfl⟩ := List.mem_map.1 hx
          exact Off.mono (fun q e => Or.inl (Nat.lt_of_lt_of_le e HGB.out)) (HEL9 p hp).2
      exact bodyPost_ret (results_nm rfl _ _ w2.heap.size (objJ A c (M.filter (kept L))).cells .nilIface rfl rfl B4 info_value) rfl (WoV.ok HC.out HB hj9 (wit_obj HKD.out HEY.out) hoff)
    · have HS := Lib.hid hs
      have HC := Lib.hid (show witC j = c by unfold witC; rw [if_pos HKD.out, hs])
      clear hs
      go_enter Tryz.func15, Tryz.ntmps15
      go_wp2_with (first
        | ((with_reducible refine is_alloc ?_); refine wpl_newbox 6 rfl rfl 25 rfl rfl (.tmp 16) rfl _ zeroV JV.zero.cells rfl rfl info_value rfl (jv_one _) ?_; intro w5 hw; have hb := hid_grow hw; have B6 := (hid_alloc hw).1; replace HB := zT HB hb; (try replace HJ := HJ.below hb); (try replace B2 := zI B2 hb); (try replace B3 := zI B3 hb); (try replace B4 := zI B4 hb); (try replace HNM := HNM.below hb); (try replace c2_0 := cell_below hb c2_0); clear hb hw)
        | (refine wpl_box_at rfl 25 (.tmp 0) rfl _ rfl ?_; intro w1 hw; have hb := hid_grow hw; have B2 := (hid_alloc hw).1; replace HB := zT HB hb; (try replace HJ := HJ.below hb); (try replace B3 := zI B3 hb); (try replace B4 := zI B4 hb); (try replace B6 := zI B6 hb); (try replace HNM := HNM.below hb); (try replace c2_0 := cell_below hb c2_0); clear hb hw; have c2_0 : w1.cell? ⟨_, 0, none⟩ = some (.int .i64 5) := (B2.cell 0).trans (by rw [← HKD.out]; rfl))
        | (refine wpl_box_slice rfl 37 (.tmp 1) rfl nA nn nc rfl ?_; intro w2 hw; have hb := hid_grow hw; have B3 := (hid_alloc hw).1; replace HB := zT HB hb; (try replace HJ := HJ.below hb); (try replace B2 := zI B2 hb); (try replace B4 := zI B4 hb); (try replace B6 := zI B6 hb); (try replace HNM := HNM.below hb); (try replace c2_0 := cell_below hb c2_0); clear hb hw)
        | ((with_reducible refine is_alloc ?_); refine wpl_alloc_at (o := ⟨some 4, _, _, _, _, _⟩) rfl 25 rfl _ zeroV ?_; intro w3 hw; have hb := hid_grow hw; have B4 := hid_alloc0 hw; have G24 := HB.size; replace HB := zT HB hb; (try replace HJ := HJ.below hb); (try replace B2 := zI B2 hb); (try replace B3 := zI B3 hb); (try replace B6 := zI B6 hb); (try replace HNM := HNM.below hb); (try replace c2_0 := cell_below hb c2_0); clear hb hw; have L34 := IBox.lt B4; have L13 := IBox.lt B3; have B33 := Lib.hid B3)
        | ((with_reducible refine is_load ?_); refine wpl_load_box rfl 25 (.tmp 2) rfl _ rfl _ _ _ B2 Tryz.underlying25 rfl info_value ?_)
        | (go_at_call 20; (refine (cnorm_any HJ HZ.out (Wc.below HB HW.out)).mono ?_); intro e w4 hnm; obtain ⟨he, hb⟩ := NoV.not HS.out hc hnm; subst he; clear hnm; replace HB := zT HB hb; (try replace HJ := HJ.below hb); (try replace B2 := zI B2 hb); (try replace B3 := zI B3 hb); (try replace B4 := zI B4 hb); (try replace B6 := zI B6 hb); (try replace HNM := HNM.below hb); (try replace c2_0 := cell_below hb c2_0); clear hb)
        | ((with_reducible refine is_build ?_); refine wpl_build_at zero_build rfl _ rfl rfl ?_)
        | ((with_reducible refine is_store ?_); refine wpl_store_at rfl 25 (.tmp 4) (.tmp 20) rfl _ JV.zero.cells rfl rfl _ _ B4 info_value rfl (jv_one _) ?_; intro w9 hw; have hq := hid_row_below hw G24 HB; replace HB := hq.1; replace B4 := hid_row hw B4; clear hq hw))
      exact bodyPost_ret (results_nm rfl _ _ w2.heap.size JV.zero.cells (.iface 31 (.int .i64 c)) rfl rfl B4 info_value) rfl (WoV.bad HC.out hc HB)
  · have HC := Lib.hid (show witC j = 8 by unfold witC; rw [if_neg hk5])
    have q5 : (j.v.kind == 5) = false := by simpa using hk5
    have q5b : (j.v.kind != 5) = true := by simpa using hk5
    clear hk5
    go_enter Tryz.func15, Tryz.ntmps15
    go_wp2_with (first
      | (refine wpl_box_at rfl 25 (.tmp 0) rfl _ rfl ?_; intro w1 hw; have hb := hid_grow hw; have B2 := (hid_alloc hw).1; replace HB := zT HB hb; (try replace HJ := HJ.below hb); (try replace B3 := zI B3 hb); (try replace B4 := zI B4 hb); (try replace B6 := zI B6 hb); (try replace HNM := HNM.below hb); (try replace c2_0 := cell_below hb c2_0); clear hb hw; have c2_0 : w1.cell? ⟨_, 0, none⟩ = some (.int .i64 j.v.kind) := (B2.cell 0).trans (by rfl))
      | (refine wpl_box_slice rfl 37 (.tmp 1) rfl nA nn nc rfl ?_; intro w2 hw; have hb := hid_grow hw; have B3 := (hid_alloc hw).1; replace HB := zT HB hb; (try replace HJ := HJ.below hb); (try replace B2 := zI B2 hb); (try replace B4 := zI B4 hb); (try replace B6 := zI B6 hb); (try replace HNM := HNM.below hb); (try replace c2_0 := cell_below hb c2_0); clear hb hw)
      | ((with_reducible refine is_alloc ?_); refine wpl_alloc_at (o := ⟨some 4, _, _, _, _, _⟩) rfl 25 rfl _ zeroV ?_; intro w3 hw; have hb := hid_grow hw; have B4 := hid_alloc0 hw; have G24 := HB.size; replace HB := zT HB hb; (try replace HJ := HJ.below hb); (try replace B2 := zI B2 hb); (try replace B3 := zI B3 hb); (try replace B6 := zI B6 hb); (try replace HNM := HNM.below hb); (try replace c2_0 := cell_below hb c2_0); clear hb hw; have L34 := IBox.lt B4; have L13 := IBox.lt B3; have B33 := Lib.hid B3)
      | ((with_reducible refine is_build ?_); refine wpl_build_at zero_build rfl _ rfl rfl ?_)
      | ((with_reducible refine is_store ?_); refine wpl_store_at rfl 25 (.tmp 4) (.tmp 11) rfl _ JV.zero.cells rfl rfl _ _ B4 info_value rfl (jv_one _) ?_; intro w9 hw; have hq := hid_row_below hw G24 HB; replace HB := hq.1; replace B4 := hid_row hw B4; clear hq hw))
    exact bodyPost_ret (results_nm rfl _ _ w2.heap.size JV.zero.cells (.iface 31 (.int .i64 8)) rfl rfl B4 info_value) rfl (WoV.bad HC.out (by decide) HB)
end
end Go.Proofs.YtnjhmnolngdfaaaGreatDoor
namespace Go.Proofs.YtnjhmnolngdfaaaGreatDoor
section
open Go.RowKit
set_option linter.unusedVariables false

theorem code_info : (Tryz.prog.info? 31).map (fun i => i.comparable) = some true := by kernel_rfl
theorem eql_code (a b : Int) (w : World) : (binOp .eql 28 (.iface 31 (.int .i64 a)) (.iface 31 (.int .i64 b))).run Tryz.prog w = .ok (.bool (a == b)) w := by
  obtain ⟨i, hi, hc⟩ := Option.map_eq_some_iff.1 code_info
  exact run_eql_iface_int w a b Tryz.underlying28 Tryz.underlying31 hi hc

theorem code_nil (w : World) : Calls Tryz.prog 12 #[.nilIface] w fun e w' => e = .returned (.int .i64 0) ∧ w = w' := by
  go_enter Tryz.func12, Tryz.ntmps12
  go_wp2
  go_ret
  exact ⟨rfl, rfl⟩
end
end Go.Proofs.YtnjhmnolngdfaaaGreatDoor
namespace Go.Proofs.YtnjhmnolngdfaaaGreatDoor
section
open Go.RowKit Go.PlainAid
set_option linter.unusedVariables false
set_option linter.unusedSimpArgs false
theorem code_2 (w : World) : Calls Tryz.prog 12 #[.iface 31 (.int .i64 2)] w fun e w' => e = .returned (.int .i64 2) ∧ w = w' := by
  have he := eql_code
  go_enter Tryz.func12, Tryz.ntmps12
  go_wp2
  go_ret
  exact ⟨rfl, rfl⟩
theorem code_8 (w : World) : Calls Tryz.prog 12 #[.iface 31 (.int .i64 8)] w fun e w' => e = .returned (.int .i64 8) ∧ w = w' := by
  have he := eql_code
  go_enter Tryz.func12, Tryz.ntmps12
  go_wp2
  go_ret
  exact ⟨rfl, rfl⟩
/-- The numbers of canon's errors. -/
theorem wrt_codes (t : JT) : (wrtS t).1 = 0 ∨ (wrtS t).1 = 2 ∨ (wrtS t).1 = 8 := by
  unfold wrtS
  repeat' split
  all_goals simp
theorem code_e {c : Int} (h : c = 0 ∨ c = 2 ∨ c = 8) (w : World) : Calls Tryz.prog 12 #[errV c] w fun e w' => e = .returned (.int .i64 c) ∧ w = w' := by
  rcases h with rfl | rfl | rfl
  · exact code_nil w
  · exact code_2 w
  · exact code_8 w
theorem jv_nameR {w : World} {j : JV} (h : IsJV w j) {i : Nat} (hi : i < j.vs.length) : ∃ bl off n, j.v.FA = some ⟨bl, off, none⟩ ∧ j.ns[i]? = some n ∧ w.cell? ⟨bl, off + i * 7, none⟩ = some (.string n) := by
  obtain ⟨bl, off, nm, x, hA, hx, hnx, n1, RX, HX⟩ := jv_fld h hi
  exact ⟨bl, off, nm, hA, hnx, n1⟩
theorem int_build (n : Int) (w : World) : (Instr.build 25 #[(0, .int .i64 2), (2, .int .i64 n)]).run Tryz.prog w = .ok (.agg (lfJ 2 false n ⟨#[]⟩).cells) w := by kernel_rfl
theorem txt_build (s : ByteArray) (w : World) : (Instr.build 25 #[(0, .int .i64 3), (3, .string s)]).run Tryz.prog w = .ok (.agg (lfJ 3 false 0 s).cells) w := by kernel_rfl
theorem lst_build (A : Option Addr) (n c : Nat) (w : World) : (Instr.build 25 #[(0, .int .i64 4), (4, .slice A n c)]).run Tryz.prog w = .ok (.agg (LC (.slice A n c))) w := by kernel_rfl
theorem obj_build (A : Option Addr) (n c : Nat) (w : World) : (Instr.build 25 #[(0, .int .i64 5), (5, .slice A n c)]).run Tryz.prog w = .ok (.agg (VC (.slice A n c))) w := by kernel_rfl
theorem cnum_any (n : Int) (w : World) : Calls Tryz.prog 24 #[.int .i64 n] w fun e w' => e = .returned (.agg (lfJ 2 false n ⟨#[]⟩).cells) ∧ Below w.heap.size w w' := by
  have HB := Below.refl w.heap.size w
  go_enter Tryz.func24, Tryz.ntmps24
  go_wp2_with (first
    | ((with_reducible refine is_alloc ?_); refine wpl_alloc_at rfl 25 rfl _ zeroV ?_; intro w2 hw; have hb := hid_grow hw; have B2 := hid_alloc0 hw; replace HB := zT HB hb; clear hb hw)
    | ((with_reducible refine is_build ?_); refine wpl_build_at (int_build n) rfl _ rfl rfl ?_)
    | ((with_reducible refine is_store ?_); refine wpl_store_at rfl 25 (.tmp 2) (.tmp 4) rfl _ (lfJ 2 false n ⟨#[]⟩).cells rfl rfl _ _ B2 info_value rfl (jv_one _) ?_; intro w9 hw; have hq := hid_row_below hw (Nat.le_refl _) HB; replace HB := hq.1; replace B2 := hid_row hw B2; clear hq hw))
  exact bodyPost_ret (results_box rfl _ _ w.heap.size 25 (lfJ 2 false n ⟨#[]⟩).cells _ rfl B2 Tryz.underlying25 rfl info_value) rfl ⟨rfl, HB⟩
theorem ctxt_any (s : ByteArray) (w : World) : Calls Tryz.prog 25 #[.string s] w fun e w' => e = .returned (.agg (lfJ 3 false 0 s).cells) ∧ Below w.heap.size w w' := by
  have HB := Below.refl w.heap.size w
  go_enter Tryz.func25, Tryz.ntmps25
  go_wp2_with (first
    | ((with_reducible refine is_alloc ?_); refine wpl_alloc_at rfl 25 rfl _ zeroV ?_; intro w2 hw; have hb := hid_grow hw; have B2 := hid_alloc0 hw; replace HB := zT HB hb; clear hb hw)
    | ((with_reducible refine is_build ?_); refine wpl_build_at (txt_build s) rfl _ rfl rfl ?_)
    | ((with_reducible refine is_store ?_); refine wpl_store_at rfl 25 (.tmp 2) (.tmp 4) rfl _ (lfJ 3 false 0 s).cells rfl rfl _ _ B2 info_value rfl (jv_one _) ?_; intro w9 hw; have hq := hid_row_below hw (Nat.le_refl _) HB; replace HB := hq.1; replace B2 := hid_row hw B2; clear hq hw))
  exact bodyPost_ret (results_box rfl _ _ w.heap.size 25 (lfJ 3 false 0 s).cells _ rfl B2 Tryz.underlying25 rfl info_value) rfl ⟨rfl, HB⟩
/-- A row that was built at once. -/
theorem own_new {w : World} {g base n size : Nat} {E : TypeId} {arr : Array Value} (h : IBox w g E arr) (hs : arr.size = n * size) (hb : base ≤ g) (hn : n ≤ maxLen) : w.ownsRow base E size (.slice (some ⟨g, 0, none⟩) n n) n arr.toList :=
  ⟨by simpa using hs, .inr ⟨g, n, arr, rfl, hb, h, Nat.le_refl _, hn, hs, List.take_of_length_le (by simpa using Nat.le_of_eq hs)⟩⟩
/-- The example: {"b": [1, null], "a": "é\n"}. -/
def exB : ByteArray := ⟨#[98]⟩
def exA : ByteArray := ⟨#[97]⟩
def exT : ByteArray := ⟨#[195, 169, 10]⟩
def exL : List JV := [lfJ 2 false 1 ⟨#[]⟩, JV.zero]
def exV (g h : Nat) : JV := objJ (some ⟨h, 0, none⟩) 2 [(exB, listJ (some ⟨g, 0, none⟩) 2 exL), (exA, lfJ 3 false 0 exT)]
def exTree : JT := .mk 5 false 0 ⟨#[]⟩ [] [exB, exA] [.mk 4 false 0 ⟨#[]⟩ [.mk 2 false 1 ⟨#[]⟩ [] [] [], .mk 0 false 0 ⟨#[]⟩ [] [] []] [] [], .mk 3 false 0 exT [] [] []]
theorem ex_er (g h : Nat) : er (exV g h) = exTree := by kernel_rfl
theorem ex_wrt : wrtS exTree = (0, [123, 34, 97, 34, 58, 34, 195, 169, 92, 110, 34, 44, 34, 98, 34, 58, 91, 49, 44, 110, 117, 108, 108, 93, 125]) := by kernel_rfl
theorem ex_big : wrtS (.mk 2 false 9007199254740992 ⟨#[]⟩ [] [] []) = (8, []) := by kernel_rfl
def exN : List ByteArray := [exA, ⟨#[99]⟩]
theorem ex_wit : witT exN (nrmT exTree) = .mk 5 false 0 ⟨#[]⟩ [] [exB] [.mk 4 false 0 ⟨#[]⟩ [.mk 2 false 1 ⟨#[]⟩ [] [] [], .mk 0 false 0 ⟨#[]⟩ [] [] []] [] []] := by kernel_rfl
theorem ex_is1 : isS ⟨#[123, 34, 97, 34, 58, 49, 125]⟩ = true := by kernel_rfl
theorem ex_is2 : isS ⟨#[123, 34, 97, 34, 58, 32, 49, 125]⟩ = false := by kernel_rfl
theorem fill_l (a b : JV) : Instr.fill (fun i => some (i * 6, 6)) ((Array.range (2 * 6)).map ((Value.agg JV.zero.cells).cells[· % (Value.agg JV.zero.cells).cells.size]!)) [(0, .agg a.cells), (1, .agg b.cells)] = some (valL [a, b]).toArray := by kernel_rfl
theorem fill_f (a b : ByteArray × JV) : Instr.fill (fun i => some (i * 7, 7)) ((Array.range (2 * 7)).map ((Value.agg (fldA (⟨#[]⟩, JV.zero))).cells[· % (Value.agg (fldA (⟨#[]⟩, JV.zero))).cells.size]!)) [(0, .agg (fldA a)), (1, .agg (fldA b))] = some (fldL [a, b]).toArray := by kernel_rfl
theorem info_s : (Tryz.prog.info? 9).map (fun i => (i.zero, i.size, i.bytes)) = some (some (.string ⟨#[]⟩), 1, 16) := by kernel_rfl
theorem sinfo : ∃ ie, Tryz.prog.info? 9 = some ie ∧ ie.zero = some (.string ⟨#[]⟩) ∧ ie.size = 1 := by
  have h := info_s
  cases hq : Tryz.prog.info? 9 with
  | none => rw [hq] at h; cases h
  | some ie =>
    rw [hq] at h
    simp only [Option.map_some, Option.some.injEq, Prod.mk.injEq] at h
    exact ⟨ie, rfl, h.1, h.2.1⟩
theorem fill_s (a b : ByteArray) : Instr.fill (fun i => some (i * 1, 1)) ((Array.range (2 * 1)).map ((Value.string ⟨#[]⟩).cells[· % (Value.string ⟨#[]⟩).cells.size]!)) [(0, .string a), (1, .string b)] = some #[.string a, .string b] := by kernel_rfl
theorem ex_size : SzT exTree ≤ 1048576 := of_decide_eq_true (by kernel_rfl)
set_option maxRecDepth 100000 in
set_option maxHeartbeats 16000000 in
theorem shown_any {w : World} (hW : Wc w) : Calls Tryz.prog 9 #[] w fun e w' => e = .returned (.bool true) ∧ Below w.heap.size w w' := by
  have HW := Lib.hid hW
  have HB := Below.refl w.heap.size w
  obtain ⟨ie, z, hie1, hie2, hie3, hie4, hzz⟩ := nval_slice0
  subst hzz
  obtain ⟨ief, zf, hif1, hif2, hif3, hif4, hzf⟩ := fld_slice0
  subst hzf
  obtain ⟨ies, his1, his2, his3⟩ := sinfo
  clear hW
  go_enter Tryz.func9, Tryz.ntmps9
  go_wp2_with (first
    | (go_at_call 24; (refine (cnum_any _ _).mono ?_); rintro e w4 ⟨rfl, hb⟩; replace HB := zT HB hb; (try replace HL := HL.below hb); (try replace HX := HX.below hb); (try replace B1 := zI B1 hb); (try replace B10 := zI B10 hb); (try replace B6 := zI B6 hb); clear hb)
    | (go_at_call 25; (refine (ctxt_any _ _).mono ?_); rintro e w6 ⟨rfl, hb⟩; replace HB := zT HB hb; (try replace HL := HL.below hb); (try replace HX := HX.below hb); (try replace B1 := zI B1 hb); (try replace B10 := zI B10 hb); (try replace B6 := zI B6 hb); clear hb)
    | ((with_reducible refine is_slice ?_); refine wpl_slice_at 2 [(0, .agg (lfJ 2 false 1 ⟨#[]⟩).cells), (1, .agg JV.zero.cells)] (valL exL).toArray ie _ (by rw [hie3]; exact fill_l _ _) rfl 22 25 _ rfl rfl Tryz.underlying22 hie1 hie2 (by rw [hie3]; decide) (by rw [hie3]; decide) ?_; intro w5 hw; have hb := hid_grow hw; have B10 := (hid_alloc hw).1; have G10 := HB.size; replace HB := zT HB hb; (try replace HL := HL.below hb); (try replace HX := HX.below hb); (try replace B1 := zI B1 hb); (try replace B6 := zI B6 hb); clear hb hw)
    | ((with_reducible refine is_slice ?_); refine wpl_slice_at 2 [(0, .agg (fldA (exB, listJ (some ⟨w4.heap.size, 0, none⟩) 2 exL))), (1, .agg (fldA (exA, lfJ 3 false 0 exT)))] (fldL [(exB, listJ (some ⟨w4.heap.size, 0, none⟩) 2 exL), (exA, lfJ 3 false 0 exT)]).toArray ief _ (by rw [hif3]; exact fill_f _ _) rfl 23 52 _ rfl rfl Tryz.underlying23 hif1 hif2 (by rw [hif3]; decide) (by rw [hif3]; decide) ?_; intro w7 hw; have hb := hid_grow hw; have B15 := (hid_alloc hw).1; have G15 := HB.size; replace HB := zT HB hb; (try replace HL := HL.below hb); (try replace HX := HX.below hb); (try replace B1 := zI B1 hb); (try replace B10 := zI B10 hb); (try replace B6 := zI B6 hb); clear hb hw)
    | ((with_reducible refine is_alloc ?_); refine wpl_newbox 1 rfl rfl 25 rfl rfl (.tmp 16) rfl _ zeroV (exV w4.heap.size w6.heap.size).cells rfl rfl info_value rfl (jv_one _) ?_; intro w8 hw; have hb := hid_grow hw; have B1 := (hid_alloc hw).1; have B15b := zI B15 hb; replace HB := zT HB hb; (try replace HL := HL.below hb); (try replace HX := HX.below hb); (try replace B10 := zI B10 hb); (try replace B6 := zI B6 hb); clear hb hw B15)
    | ((with_reducible refine is_load ?_); refine wpl_load_box rfl 25 (.tmp 1) rfl _ rfl _ _ _ B1 Tryz.underlying25 rfl info_value ?_)
    | ((with_reducible refine is_build ?_); refine wpl_build_at (lst_build _ 2 2) rfl _ rfl rfl ?_)
    | ((with_reducible refine is_build ?_); refine wpl_build_at (obj_build _ 2 2) rfl _ rfl rfl ?_)
    | ((with_reducible refine is_build ?_); refine wpl_build_at (fld_build exB (listJ (some ⟨w4.heap.size, 0, none⟩) 2 exL)) rfl _ rfl rfl ?_)
    | ((with_reducible refine is_build ?_); refine wpl_build_at (fld_build exA (lfJ 3 false 0 exT)) rfl _ rfl rfl ?_)
    | ((with_reducible refine is_build ?_); refine wpl_build_at zero_build rfl _ rfl rfl ?_))
  have HL : IsJV w8 (listJ (some ⟨w4.heap.size, 0, none⟩) 2 exL) := by
    obtain ⟨A, c, hv, h1, _⟩ := own_vals (own_new (base := w.heap.size) (size := 6) (n := 2) B10 rfl G10 (by decide)) (l := exL) rfl (fun x hx => by
      rcases List.mem_cons.1 hx with rfl | hx
      · exact lf_is mi2 (by unfold I64; decide) mze
      · obtain rfl : x = JV.zero := by simpa using hx
        exact jv_zero _) (by decide)
    injection hv with e1 e2 e3
    subst e1 e3
    exact h1
  have HX : IsJV w8 (exV w4.heap.size w6.heap.size) := by
    obtain ⟨A, c, hv, h1, _⟩ := own_objA (own_new (base := w.heap.size) (size := 7) (n := 2) B15b rfl G15 (by decide)) (L := [(exB, listJ (some ⟨w4.heap.size, 0, none⟩) 2 exL), (exA, lfJ 3 false 0 exT)]) rfl (fun p hp => by
      rcases List.mem_cons.1 hp with rfl | hp
      · exact ⟨show exB.size ≤ reach by decide, HL⟩
      · obtain rfl : p = (exA, lfJ 3 false 0 exT) := by simpa using hp
        exact ⟨show exA.size ≤ reach by decide, lf_is mi3 mi0 (show exT.size ≤ reach by decide)⟩) (show 2 * 96 ≤ reach by decide)
    injection hv with e1 e2 e3
    subst e1 e3
    exact h1
  clear HL B10 B15b
  have HS : Hid (wrtS (er (exV w4.heap.size w6.heap.size)) = (0, [123, 34, 97, 34, 58, 34, 195, 169, 92, 110, 34, 44, 34, 98, 34, 58, 91, 49, 44, 110, 117, 108, 108, 93, 125])) := Lib.hid (by rw [ex_er]; exact ex_wrt)
  have HZ : Hid (SzT (er (exV w4.heap.size w6.heap.size)) ≤ 1048576) := Lib.hid (by rw [ex_er]; exact ex_size)
  refine (cwrite_any HX HZ.out (Wc.below HB HW.out)).mono ?_
  intro e wa hnm
  obtain ⟨he, hb⟩ := WrV.yes HS.out hnm
  subst he
  clear hnm
  replace HB := zT HB hb
  (try replace HL := HL.below hb)
  (try replace HX := HX.below hb)
  (try replace B1 := zI B1 hb)
  (try replace B10 := zI B10 hb)
  (try replace B6 := zI B6 hb)
  clear hb
  go_wp2_with (first
    | (go_at_call 24; (refine (cnum_any _ _).mono ?_); rintro e wb ⟨rfl, hb⟩; replace HB := zT HB hb; (try replace HL := HL.below hb); (try replace HX := HX.below hb); (try replace B1 := zI B1 hb); (try replace B10 := zI B10 hb); (try replace B6 := zI B6 hb); clear hb))
  have HS2 : Hid (wrtS (er (lfJ 2 false 9007199254740992 ⟨#[]⟩)) = (8, [])) := Lib.hid (by rw [lf_er]; exact ex_big)
  refine (cwrite_any (lf_is mi2 (by unfold I64; decide) mze) (by rw [lf_er, lf_sz]; decide) (Wc.below HB HW.out)).mono ?_
  intro e wc hnm
  obtain ⟨he, hb⟩ := WrV.not HS2.out (by decide) hnm
  subst he
  clear hnm
  replace HB := zT HB hb
  (try replace HL := HL.below hb)
  (try replace HX := HX.below hb)
  (try replace B1 := zI B1 hb)
  (try replace B10 := zI B10 hb)
  (try replace B6 := zI B6 hb)
  clear hb
  go_wp2_with (first
    | ((with_reducible refine is_load ?_); refine wpl_load_box rfl 25 (.tmp 1) rfl _ rfl _ _ _ B1 Tryz.underlying25 rfl info_value ?_)
    | ((with_reducible refine is_slice ?_); refine wpl_slice_at 2 [(0, .string exA), (1, .string ⟨#[99]⟩)] #[.string exA, .string ⟨#[99]⟩] ies _ (by rw [his3]; exact fill_s _ _) rfl 37 9 _ rfl rfl Tryz.underlying37 his1 his2 (by rw [his3]; decide) (by rw [his3]; decide) ?_; intro wd hw; have hb := hid_grow hw; have B29 := (hid_alloc hw).1; replace HB := zT HB hb; (try replace HL := HL.below hb); (try replace HX := HX.below hb); (try replace B1 := zI B1 hb); (try replace B10 := zI B10 hb); (try replace B6 := zI B6 hb); clear hb hw))
  have HNM : NamesAt wd (some ⟨wc.heap.size, 0, none⟩) 1 0 exN := by
    refine namesAt_of exN 0 (fun i n hi => ?_)
    match i, hi with
    | 0, hi =>
      obtain rfl : exA = n := by simpa [exN] using hi
      exact ⟨⟨_, _, rfl, (B29.cell 0).trans rfl⟩, by decide⟩
    | 1, hi =>
      obtain rfl : ⟨#[99]⟩ = n := by simpa [exN] using hi
      exact ⟨⟨_, _, rfl, (B29.cell 1).trans rfl⟩, by decide⟩
    | i + 2, hi => simp [exN] at hi
  clear B29
  refine (without_any (L := exN) HX HZ.out (Wc.below HB HW.out) HNM rfl (by decide)).mono ?_
  rintro e we ⟨hb, hp⟩
  rw [if_pos (show witC (exV w4.heap.size w6.heap.size) = 0 by unfold witC; rw [if_pos (show (exV w4.heap.size w6.heap.size).v.kind = 5 from rfl), HS.out])] at hp
  obtain ⟨x, hp, hxj, hxe, _⟩ := hp
  subst hp
  replace hxe : er x = .mk 5 false 0 ⟨#[]⟩ [] [exB] [.mk 4 false 0 ⟨#[]⟩ [.mk 2 false 1 ⟨#[]⟩ [] [] [], .mk 0 false 0 ⟨#[]⟩ [] [] []] [] []] := hxe.trans (by rw [ex_er]; exact ex_wit)
  clear HNM
  replace HB := zT HB hb
  (try replace HL := HL.below hb)
  (try replace HX := HX.below hb)
  (try replace B1 := zI B1 hb)
  (try replace B10 := zI B10 hb)
  (try replace B6 := zI B6 hb)
  clear hb
  have hxk : x.ns = [exB] ∧ x.v.Fn = 1 := by
    rw [er_mk] at hxe
    injection hxe with _ _ _ _ _ h1 h2
    obtain ⟨l1, l2, l3, _, _⟩ := jv_lens hxj
    exact ⟨h1, by rw [h1] at l3; rw [l2, ← l3]; rfl⟩
  have HXJ := Lib.hid hxj
  obtain ⟨bx, ox, nm, hxA, hxn, hxc⟩ := jv_nameR hxj (i := 0) (by have := (jv_lens hxj).2.1; omega)
  rw [hxk.1] at hxn
  obtain rfl : exB = nm := by simpa using hxn
  have HXF := Lib.hid hxk.2
  have HXA := Lib.hid hxA
  have HXC := Lib.hid hxc
  clear hxe hxk hxA hxn hxc hxj
  have he := eql_code
  go_wp2_with (first
    | ((with_reducible refine is_alloc ?_); refine wpl_newbox 6 rfl rfl 25 rfl rfl (.tmp 31) rfl _ zeroV x.cells rfl rfl info_value rfl (jv_one _) ?_; intro wf hw; have hb := hid_grow hw; have B6 := (hid_alloc hw).1; replace HB := zT HB hb; (try replace HL := HL.below hb); (try replace HX := HX.below hb); (try replace B1 := zI B1 hb); (try replace B10 := zI B10 hb); have hxc2 : wf.cell? ⟨bx, ox, none⟩ = some (.string ⟨#[98]⟩) := (by have h9 := cell_below hb HXC.out; rw [Nat.zero_mul, Nat.add_zero] at h9; exact h9); have c6 : wf.cell? ⟨_, 5, none⟩ = some (.slice (some ⟨bx, ox, none⟩) 1 x.v.Fc) := (B6.cell 5).trans (by rw [← HXA.out, ← HXF.out]; rfl); clear hb hw))
  clear c6 hxc2
  refine (cis_any (s := ⟨#[123, 34, 97, 34, 58, 49, 125]⟩) (Wc.below HB HW.out) (by decide)).mono ?_
  rintro e wg ⟨rfl, hb⟩
  rw [ex_is1]
  clear B6
  replace HB := zT HB hb
  clear hb
  go_wp2_with fail
  refine (cis_any (s := ⟨#[123, 34, 97, 34, 58, 32, 49, 125]⟩) (Wc.below HB HW.out) (by decide)).mono ?_
  rintro e wh ⟨rfl, hb⟩
  rw [ex_is2]
  replace HB := zT HB hb
  clear hb
  go_wp2
  go_ret
  exact ⟨rfl, HB⟩
end
end Go.Proofs.YtnjhmnolngdfaaaGreatDoor
