/- Layer 3: fields whose names are among some are taken out (slices.DeleteFunc at fields), walked. Layer 3: slices.DeleteFunc at fields, walked. Layer 3: an object without some names (canon.Without), -/
import Derived.Lib.SliceRun
import Derived.Test.YtnjhmnolngdfaaaGreatDoorQ12
import Derived.Test.YtnjhmnolngdfaaaGreatDoorQ17
import Derived.Test.YtnjhmnolngdfaaaGreatDoorQ00
import Derived.Test.YtnjhmnolngdfaaaGreatDoorQZip
set_option linter.unusedVariables false
set_option linter.unusedSimpArgs false
set_option maxHeartbeats 16000000
set_option maxRecDepth 100000
namespace Go.Proofs.YtnjhmnolngdfaaaGreatDoor
section
open Go.RowKit Go.PlainAid
theorem qIO {w : World} {A : Option Addr} {L : List ByteArray} (h : qBA w A 1 0 L) (hne : L ≠ []) : ∃ b off, A = some ⟨b, off, none⟩ ∧ ∀ j, j < L.length → w.cell? ⟨b, off + j, none⟩ = some (.string (L.getD j ByteArray.empty)) := by
  cases L with
  | nil => exact absurd rfl hne
  | cons x r =>
    obtain ⟨⟨b, off, e, _⟩, _⟩ := qBA.get h (j := 0) (n := x) rfl; refine ⟨b, off, e, fun j hj => ?_⟩; have hp : (x :: r)[j]? = some (x :: r)[j] := List.getElem?_eq_getElem hj; obtain ⟨⟨b2, off2, e2, hc⟩, _⟩ := qBA.get h hp; rw [e] at e2; injection e2 with e2; injection e2 with e3 e4; subst e3 e4; rw [Nat.zero_add, Nat.mul_one] at hc; rw [hc, List.getD_eq_getElem?_getD, hp]; rfl
theorem qL9 (L : List ByteArray) (x : ByteArray) : Lib.containsS L x = qCP L x := by
  rw [Bool.eq_iff_iff, Lib.containsS_iff, qJQ]
theorem qMG {w : World} {A : Option Addr} {n c : Nat} {L : List ByteArray} (h : qBA w A 1 0 L) (hn : n = L.length) (hbig : n ≤ 9223372036854775807) (x : ByteArray) : Calls Tryz.prog 34 #[.slice A n c, .string x] w fun e w' => e = .returned (.bool (qCP L x)) ∧ w = w' := by
  by_cases hne : L = []
  · subst hne hn; refine (Tryz.slices_Contains_string_empty A c x w).mono ?_; rintro e w' ⟨rfl, rfl⟩; exact ⟨rfl, rfl⟩
  · obtain ⟨b, off, rfl, hc⟩ := qIO h hne; refine (Tryz.slices_Contains_string b off n c L x w (by omega) hbig hc).mono ?_; rintro e w' ⟨rfl, rfl⟩; rw [List.take_of_length_le (by omega), qL9]; exact ⟨rfl, rfl⟩
def NmW (W : World) (B : Nat) (L : List ByteArray) : Prop := ∃ A n c, W.cell? ⟨B, 0, none⟩ = some (.slice A n c) ∧ n = L.length ∧ n ≤ 9223372036854775807 ∧ qBA W A 1 0 L
theorem qGd {W : World} {B : Nat} {L : List ByteArray} (h : NmW W B L) (p : ByteArray × JV) : Calls Tryz.prog 33 #[.agg (qBB p), .pointer (some ⟨B, 0, none⟩)] W fun e w' => e = .returned (.bool (qCP L p.1)) ∧ Below W.heap.size W w' := by
  obtain ⟨A, n, c, hc, hn, hbig, hN⟩ := h; have hlt : B < W.heap.size := World.block_lt_of_cell? W _ hc; have HN0 := Lib.hid hn; have HBI := Lib.hid hbig; clear hn hbig; go_enter Tryz.func33, Tryz.ntmps33
  go_wp2_with (first
    | (refine qAM rfl 52 (.tmp 0) rfl _ rfl ?_; intro w1 hw; have hb := qAD hw; have B2 := (qAC hw).1; have hc1 := qAB hb hc; have n2 := qCV (nm := p.1) (x := p.2) B2; have HN1 := hN.below hb; clear hw)
    | (go_at_call 34; (refine (qMG HN1 HN0.out HBI.out p.1).mono ?_); rintro e w2 ⟨rfl, rfl⟩))
  go_ret; exact ⟨rfl, hb⟩
def qM2 (L : List ByteArray) : List (ByteArray × JV) → Int
  | [] => -1
  | p :: r => if qCP L p.1 = true then 0 else if qM2 L r = -1 then -1 else qM2 L r + 1
theorem qFU {L : List ByteArray} : ∀ {M : List (ByteArray × JV)}, (∀ p ∈ M, qCP L p.1 = false) → qM2 L M = -1
  | [], _ => rfl
  | p :: r, h => by
    unfold qM2; rw [h p (by simp), if_neg (by decide), qFU (fun q hq => h q (by simp [hq])), if_pos rfl]
theorem qGy {L : List ByteArray} : ∀ {M : List (ByteArray × JV)} {q : Nat} {p : ByteArray × JV}, M[q]? = some p → qCP L p.1 = true → (∀ x ∈ M.take q, qCP L x.1 = false) → qM2 L M = q
  | [], q, p, h, _, _ => by simp at h
  | x :: r, 0, p, h, hp, _ => by
    (obtain rfl : x = p := by simpa using h); unfold qM2; rw [if_pos hp]; rfl
  | x :: r, q + 1, p, h, hp, hall => by
    have ih := qGy (M := r) (q := q) (by simpa using h) hp (fun y hy => hall y (by simp [hy])); unfold qM2; rw [hall x (by simp), if_neg (by decide), ih, if_neg (by omega)]; omega
theorem qNm {w : World} {base : Nat} {A : Option Addr} {n c B : Nat} {M : List (ByteArray × JV)} {L : List ByteArray} (hO : w.ownsRow base 52 7 (.slice A n c) n (qCB M)) (hn : n = M.length) (hn2 : n ≤ 1048576) (hb : base ≤ w.heap.size) (HN : ∀ W, Below base w W → NmW W B L) :
    Calls Tryz.prog 52 #[.slice A n c, .func (.func 33) #[] #[.pointer (some ⟨B, 0, none⟩)]] w fun e w' => e = .returned (.int .i64 (qM2 L M)) ∧ Below w.heap.size w w' := by
  have HO := Lib.hid hO; have HM := Lib.hid hn; have HNN := Lib.hid HN; clear hO hn HN; go_enter Tryz.func52, Tryz.ntmps52; go_wp2
  go_loopw [8] (fun i wr => ∃ q : Nat, q ≤ n ∧ i = .int .i64 q ∧ Hid (∀ x ∈ M.take q, qCP L x.1 = false) ∧ Below w.heap.size w wr) (fun i _ => n - (intOf i).toNat)
  case atStart => exact ⟨0, Nat.zero_le _, rfl, Lib.hid (fun x hx => by simp at hx), Below.refl _ _⟩
  case round =>
    obtain ⟨q, hq, rfl, HQ, HB⟩ := hrel
    by_cases hlt : q < n
    · obtain ⟨gr, p, hA, hp, FC⟩ := qDO (qBY HO.out HB) HM.out hlt; have HP := Lib.hid hp; (have hbd : 0 ≤ (q : Int) ∧ (q : Int) < n := by omega); (have hlt2 : (q : Int) < n := by omega); subst hA; clear hp; have HCL := Lib.hid (qGd (HNN.out wr (HB.mono hb)) p)
      cases hh : qCP L p.1 with
      | true =>
        have HF := Lib.hid (qGy HP.out hh HQ.out); have HH := Lib.hid hh; clear hh
        go_wp2_with (first
          | ((with_reducible refine qAR ?_); refine qAX rfl 52 (.tmp 14) rfl _ _ rfl (qBB p) _ FC Tryz.underlying52 rfl qAV ?_)
          | (go_at_call 33; (refine HCL.out.mono ?_); rintro e w2 ⟨rfl, hb2⟩; rw [HH.out]; replace HB := zT HB hb2; clear hb2))
        go_ret; exact ⟨qBD (by rw [HF.out]), HB⟩
      | false =>
        have HH := Lib.hid hh; clear hh
        go_wp2_with (first
          | ((with_reducible refine qAR ?_); refine qAX rfl 52 (.tmp 14) rfl _ _ rfl (qBB p) _ FC Tryz.underlying52 rfl qAV ?_)
          | (go_at_call 33; (refine HCL.out.mono ?_); rintro e w2 ⟨rfl, hb2⟩; rw [HH.out]; replace HB := zT HB hb2; clear hb2))
        go_roundw
        case rel =>
          refine ⟨q + 1, by omega, by go_num, Lib.hid (fun x hx => ?_), HB⟩; rw [qBe HP.out] at hx; rcases List.mem_append.1 hx with hx | hx
          · exact HQ.out x hx
          · (obtain rfl : x = p := by simpa using hx); exact HH.out
        case measure => simp [intOf]; omega
    · (obtain rfl : q = n := by omega); (have hlt2 : ¬ ((q : Nat) : Int) < q := by omega); have HF := Lib.hid (show qM2 L M = -1 from qFU (fun p hp => HQ.out p (by rw [List.take_of_length_le (by have := HM.out; omega)]; exact hp))); go_wp2; go_ret; exact ⟨qBD (by rw [HF.out]), HB⟩
theorem qLU {w : World} {base g n c : Nat} {R : List (ByteArray × JV)} (h : w.ownsRow base 52 7 (.slice (some ⟨g, 0, none⟩) n c) n (qCB R)) (hR : R.length = n) {i : Nat} (hi : i < n) (p : ByteArray × JV) :
    w.there g (i * 7) 7 ∧ (w.setCells g (i * 7) (qBB p).toList).ownsRow base 52 7 (.slice (some ⟨g, 0, none⟩) n c) n (qCB (R.set i p)) ∧ Bes (fun q => q = g) w (w.setCells g (i * 7) (qBB p).toList) := by
  rcases h.2 with ⟨hv, _⟩ | ⟨g', cap', cur, hv, hb, hg, hnc, hc, hsz, htake⟩
  · cases hv
  · injection hv with e1 e2 e3; injection e1 with e1; (have e4 : g = g' := by injection e1); subst e4 e3; have hI : qAW w g 52 cur := hg; have hcap : n * 7 ≤ c * 7 := Nat.mul_le_mul_right 7 hnc; have hlen : (qBB p).toList.length = 7 := rfl; refine ⟨fun j hj => ?_, ⟨by rw [qDG, List.length_set, hR], .inr ⟨g, c, qKE cur (i * 7) (qBB p).toList, rfl, hb, qCf _ _ _ _ hI, hnc, hc, by rw [qD3]; exact hsz, ?_⟩⟩, qCb (X := fun q => q = g) rfl _ _ _ _ hI⟩
    · refine ⟨?_, hI.frozen _⟩; rw [hI.cell, Array.getElem?_eq_getElem (by omega)]; rfl
    · apply List.ext_getElem?; intro k; rw [List.getElem?_take]
      by_cases hk : k < n * 7
      · rw [if_pos hk, Array.getElem?_toList, qE0 _ _ _ _ (by rw [hlen]; omega), hlen, qEc _ k (by rw [List.length_set, hR]; exact hk)]
        have hset : (R.set i p)[k / 7]! = if i = k / 7 then p else R[k / 7]! := by
          (have h1 : k / 7 < (R.set i p).length := by rw [List.length_set]; omega); (have h2 : k / 7 < R.length := by omega); have h3 := qC3 h1; rw [List.getElem?_set] at h3
          by_cases e : i = k / 7
          · rw [if_pos e] at h3 ⊢; rw [if_pos (show i < R.length by omega)] at h3; exact (Option.some.inj h3).symm
          · rw [if_neg e] at h3 ⊢; rw [qC3 h2] at h3; exact (Option.some.inj h3).symm
        rw [hset]
        by_cases hin : i * 7 ≤ k ∧ k < i * 7 + 7
        · (have e : i = k / 7 := by omega); rw [if_pos hin, if_pos e, show k - i * 7 = k % 7 by omega]; rfl
        · (have e : i ≠ k / 7 := by omega); rw [if_neg hin, if_neg e, ← qEc R k (by omega), ← htake, List.getElem?_take, if_pos hk, Array.getElem?_toList]
      · rw [if_neg hk, List.getElem?_eq_none (by rw [qDG, List.length_set, hR]; omega)]
theorem qNa {w : World} {base g n c i : Nat} {R : List (ByteArray × JV)} (h : w.ownsRow base 52 7 (.slice (some ⟨g, 0, none⟩) n c) n (qCB R)) (hR : R.length = n) (hi : i ≤ n) (vs : List Value) (hvs : i * 7 + vs.length ≤ n * 7) :
    (w.setCells g (i * 7) vs).ownsRow base 52 7 (.slice (some ⟨g, 0, none⟩) i c) i (qCB (R.take i)) ∧ Bes (fun q => q = g) w (w.setCells g (i * 7) vs) := by
  rcases h.2 with ⟨hv, _⟩ | ⟨g', cap', cur, hv, hb, hg, hnc, hc, hsz, htake⟩
  · cases hv
  · injection hv with e1 e2 e3; injection e1 with e1; (have e4 : g = g' := by injection e1); subst e4 e3; have hI : qAW w g 52 cur := hg; have hcap : n * 7 ≤ c * 7 := Nat.mul_le_mul_right 7 hnc; refine ⟨⟨by rw [qDG, List.length_take]; omega, .inr ⟨g, c, qKE cur (i * 7) vs, rfl, hb, qCf _ _ _ _ hI, by omega, hc, by rw [qD3]; exact hsz, ?_⟩⟩, qCb (X := fun q => q = g) rfl _ _ _ _ hI⟩; apply List.ext_getElem?; intro k; rw [List.getElem?_take]
    by_cases hk : k < i * 7
    · rw [if_pos hk, Array.getElem?_toList, qE0 _ _ _ _ (by omega), if_neg (by omega), qEc _ k (by rw [List.length_take]; omega)]; (have h1 : k / 7 < (R.take i).length := by rw [List.length_take]; omega); (have h2 : k / 7 < R.length := by omega); have h3 := qC3 h1; rw [List.getElem?_take, if_pos (by omega), qC3 h2] at h3; rw [← Option.some.inj h3, ← qEc R k (by omega), ← htake, List.getElem?_take, if_pos (by omega), Array.getElem?_toList]
    · rw [if_neg hk, List.getElem?_eq_none (by rw [qDG, List.length_take]; omega)]
theorem qHn {w : World} {base g n c : Nat} {R : List (ByteArray × JV)} (h : w.ownsRow base 52 7 (.slice (some ⟨g, 0, none⟩) n c) n (qCB R)) {k : Nat} (hk : k < n * 7) : (w.cell? ⟨g, k, none⟩).isSome = true ∧ w.frozen? ⟨g, k, none⟩ = false := by
  rcases h.2 with ⟨hv, _⟩ | ⟨g', cap', cur, hv, hb, hg, hnc, hc, hsz, htake⟩
  · cases hv
  · injection hv with e1 e2 e3; injection e1 with e1; (have e4 : g = g' := by injection e1); subst e4 e3; have hI : qAW w g 52 cur := hg; have hcap : n * 7 ≤ c * 7 := Nat.mul_le_mul_right 7 hnc; refine ⟨?_, hI.frozen _⟩; rw [hI.cell, Array.getElem?_eq_getElem (by omega)]; rfl
theorem qCM {w : World} {base g n c i : Nat} {R : List (ByteArray × JV)} (h : w.ownsRow base 52 7 (.slice (some ⟨g, 0, none⟩) n c) n (qCB R)) (hi : i < n) (ty : TypeId) (c' : Nat) :
    ∃ vs : List Value, i * 7 + vs.length ≤ n * 7 ∧ (Builtin.clear_ #[23] ty #[.slice (some ⟨g, i * 7, none⟩) (n - i) c']).run Tryz.prog w = .ok (.tuple #[]) (w.setCells g (i * 7) vs) := by
  have hz : ∀ w, (zeroValue 52).run Tryz.prog w = .ok (.agg (qBB (⟨#[]⟩, JV.zero))) w := qCh
  have hlen : (Builtin.zeroCells (Value.agg (qBB (⟨#[]⟩, JV.zero))).cells (n - i)).toList.length = (n - i) * 7 := by
    unfold Builtin.zeroCells; have e : (Value.agg (qBB (⟨#[]⟩, JV.zero))).cells.size = 7 := rfl; simp [e]
  have hone : ∀ v ∈ (Builtin.zeroCells (Value.agg (qBB (⟨#[]⟩, JV.zero))).cells (n - i)).toList, v.oneCell' = true := by
    intro v hv; unfold Builtin.zeroCells at hv; rw [Array.toList_map] at hv; obtain ⟨k, _, rfl⟩ := List.mem_map.1 hv; have e : (Value.agg (qBB (⟨#[]⟩, JV.zero))).cells.size = 7 := rfl; (have h7 : k % (Value.agg (qBB (⟨#[]⟩, JV.zero))).cells.size < (Value.agg (qBB (⟨#[]⟩, JV.zero))).cells.size := by rw [e]; omega); rw [getElem!_pos (Value.agg (qBB (⟨#[]⟩, JV.zero))).cells (k % (Value.agg (qBB (⟨#[]⟩, JV.zero))).cells.size) h7]; have := qAw (⟨#[]⟩, JV.zero); rw [Array.all_eq_true] at this; exact this _ h7
  refine ⟨(Builtin.zeroCells (Value.agg (qBB (⟨#[]⟩, JV.zero))).cells (n - i)).toList, by rw [hlen]; omega, ?_⟩; have hst := run_storeCells_cells (P := Tryz.prog) g (i * 7) (Builtin.zeroCells (Value.agg (qBB (⟨#[]⟩, JV.zero))).cells (n - i)).toList 0 w (fun j hj => by rw [Nat.add_zero]; exact (qHn h (by omega)).1) (fun j hj => by rw [Nat.add_zero]; exact (qHn h (by omega)).2) hone; rw [Nat.add_zero] at hst; obtain ⟨m, hm⟩ : ∃ m, n - i = m + 1 := ⟨n - i - 1, by omega⟩; rw [hm] at hst ⊢; simp only [Builtin.clear_, List.getElem?_toArray, List.getElem?_cons_zero, Sem.run_bind, run_underlying Tryz.underlying23, hz, hst, Result.andThen, Sem.run_pure]
end
end Go.Proofs.YtnjhmnolngdfaaaGreatDoor
namespace Go.Proofs.YtnjhmnolngdfaaaGreatDoor
section
open Go.RowKit Go.PlainAid
section
variable {ops : Array Oper} {rest : List Oper} {o : Oper} {a : Act} {w : World} {Q : Exit → Act → World → Prop}
theorem qEG (hgd : o.guard = none) (x y : Operand) (ho : o.op = .store 52 x y) {base g n c : Nat} {R : List (ByteArray × JV)} (h : w.ownsRow base 52 7 (.slice (some ⟨g, 0, none⟩) n c) n (qCB R)) (hR : R.length = n) {i : Nat} (hi : i < n) (p : ByteArray × JV)
    (hx : a.eval x = .pointer (some ⟨g, i * 7, none⟩)) (hy : a.eval y = .agg (qBB p)) (hQ : ∀ w', w'.ownsRow base 52 7 (.slice (some ⟨g, 0, none⟩) n c) n (qCB (R.set i p)) → Bes (fun q => q = g) w w' → wpList Tryz.prog ops Q rest (a.put o.dst undef) w') : wpList Tryz.prog ops Q (o :: rest) a w :=
  wpList_plain hgd fun _ hK => by
    obtain ⟨h1, h2, h3⟩ := qLU h hR hi p; exact wp_store_mid 52 x y ho g (i * 7) (qBB p) hx hy h1 qAV (qAw p) (hK _ _ (hQ _ h2 h3))
end
def kept (L : List ByteArray) (p : ByteArray × JV) : Bool := !qCP L p.1
theorem qF4 {L : List ByteArray} : ∀ {M : List (ByteArray × JV)}, (∀ p ∈ M, qCP L p.1 = false) ∨ ∃ q p, M[q]? = some p ∧ qCP L p.1 = true ∧ ∀ x ∈ M.take q, qCP L x.1 = false
 | [] => .inl (fun _ h => nomatch h)
 | p :: r => by
  cases hp : qCP L p.1 with
  | true => exact .inr ⟨0, p, rfl, hp, fun x hx => by simp at hx⟩
  | false =>
   rcases qF4 (L := L) (M := r) with h | ⟨q, x, h1, h2, h3⟩
   ·(refine .inl fun y hy => ?_); rcases List.mem_cons.1 hy with rfl | hy
    ·exact hp
    ·exact h y hy
   ·refine .inr ⟨q + 1, x, by simpa using h1, h2, fun y hy => ?_⟩; rw [List.take_succ_cons] at hy; rcases List.mem_cons.1 hy with rfl | hy
    ·exact hp
    ·exact h3 y hy
theorem qI4 {L : List ByteArray} {M : List (ByteArray × JV)} (h : ∀ p ∈ M, qCP L p.1 = false) : M.filter (kept L) = M := List.filter_eq_self.2 fun p hp => by unfold kept; rw [h p hp]; rfl
theorem qFY {L : List ByteArray} {M : List (ByteArray × JV)} {q : Nat} {p : ByteArray × JV} (hp : M[q]? = some p) : (M.take (q + 1)).filter (kept L) = (M.take q).filter (kept L) ++ if kept L p = true then [p] else [] := by
  rw [qBe hp, List.filter_append]
  congr 1
  by_cases h : kept L p = true
  · rw [if_pos h, List.filter_cons_of_pos h, List.filter_nil]
  · rw [if_neg h, List.filter_cons_of_neg h, List.filter_nil]
theorem qM4 {α : Type} {R : List α} {i : Nat} {p : α} (hi : i < R.length) : (R.set i p).take (i + 1) = R.take i ++ [p] := by
  (have h1 : (R.set i p)[i]? = some p := by rw [List.getElem?_set, if_pos rfl, if_pos hi]); rw [qBe h1]
  congr 1
  apply List.ext_getElem?; intro k; rw [List.getElem?_take, List.getElem?_take]
  by_cases hk : k < i
  · rw [if_pos hk, if_pos hk, List.getElem?_set, if_neg (by omega)]
  · rw [if_neg hk, if_neg hk]
theorem qMY {α : Type} {R : List α} {i j : Nat} {p : α} (hi : i < j) : (R.set i p).drop j = R.drop j := by
  apply List.ext_getElem?; intro k; rw [List.getElem?_drop, List.getElem?_drop, List.getElem?_set, if_neg (by omega)]
theorem qJs {w w' : World} {a : Array TypeId} {v : Array Value} {t t' : TypeId} (h : (Builtin.clear_ a t v).run Tryz.prog w = .ok (.tuple #[]) w') : (Builtin.clear_ a t' v).run Tryz.prog w = .ok (.tuple #[]) w' := h
def DfV (base : Nat) (A : Option Addr) (n c : Nat) (M : List (ByteArray × JV)) (L : List ByteArray) (w : World) (e : Ending) (w' : World) : Prop :=
  (∃ m, e = .returned (.slice A m c) ∧ m = (M.filter (kept L)).length ∧ w'.ownsRow base 52 7 (.slice A m c) m (qCB (M.filter (kept L)))) ∧ Bes (fun q => (Value.slice A n c).ownBlock = some q) w w'
theorem qOZ {w : World} {base : Nat} {A : Option Addr} {n c B : Nat} {M : List (ByteArray × JV)} {L : List ByteArray} (hO : w.ownsRow base 52 7 (.slice A n c) n (qCB M)) (hn : n = M.length) (hn2 : n ≤ 1048576) (hb : base ≤ w.heap.size) (HN : ∀ W, Below base w W → NmW W B L) :
    Calls Tryz.prog 32 #[.slice A n c, .func (.func 33) #[] #[.pointer (some ⟨B, 0, none⟩)]] w (DfV base A n c M L w) := by
  have HIX := Lib.hid (qNm hO hn hn2 hb HN); have HM := Lib.hid hn; have HNN := Lib.hid HN; clear hn HN; rcases qF4 (L := L) (M := M) with hall | ⟨i0, p0, hp0, hh0, hall⟩
  · have HF := Lib.hid (qFU hall); have HK := Lib.hid (qI4 hall); have HO := Lib.hid hO; clear hall hO; go_enter Tryz.func32, Tryz.ntmps32
    go_wp2_with (go_at_call 52; (refine HIX.out.mono ?_); rintro e w2 ⟨rfl, hb2⟩; rw [HF.out])
    go_ret; exact ⟨⟨n, rfl, by rw [HK.out]; exact HM.out, by rw [HK.out]; exact qBY HO.out hb2⟩, Bes.of_below hb2⟩
  · have HBZ := Lib.hid hb; (have hi0 : i0 < n := by have := (List.getElem?_eq_some_iff.1 hp0).1; have := HM.out; omega); have HF := Lib.hid (qGy hp0 hh0 hall); have HI0 : Hid (M.take i0 = (M.take (i0 + 1)).filter (kept L)) := Lib.hid (by rw [qFY hp0, if_neg (by unfold kept; rw [hh0]; decide), List.append_nil, qI4 hall]); obtain ⟨gr, _, hA, _, _⟩ := qDO hO HM.out hi0; subst hA
    have hcn : n ≤ c := by
      rcases hO.2 with ⟨hv, _⟩ | ⟨g', cap', cur, hv, _, _, hnc, _⟩
      · cases hv
      · injection hv with _ _ e3; omega
    have hcm : c ≤ 9223372036854775807 := by
      rcases hO.2 with ⟨hv, _⟩ | ⟨g', cap', cur, hv, _, _, _, hc, _⟩
      · cases hv
      · injection hv with _ _ e3; unfold maxLen at hc; omega
    have hgb := (qAh hO (k := gr) rfl).1; have HO := Lib.hid hO; (have h1i : ((i0 : Nat) : Int) ≠ -1 := by omega); have h1b : (((i0 : Nat) : Int) == -1) = false := beq_eq_false_iff_ne.2 h1i; (have hi64 : (i0 : Int) + 1 ≤ 9223372036854775807 := by omega); clear hp0 hh0 hall hO h1i; go_enter Tryz.func32, Tryz.ntmps32
    go_wp2_with (go_at_call 52; (refine HIX.out.mono ?_); rintro e w2 ⟨rfl, hb2⟩; rw [HF.out])
    have HO2 := qBY HO.out hb2; have HBE0 : Bes (fun q => (Value.slice (some ⟨gr, 0, none⟩) n c).ownBlock = some q) w w2 := Bes.of_below hb2
    go_loopw [5, 6] (fun s5 s6 wr => ∃ (i j : Nat) (R : List (ByteArray × JV)), s5 = .int .i64 i ∧ s6 = .int .i64 j ∧ i < j ∧ j ≤ n ∧ Hid (R.length = n) ∧ Hid (R.take i = (M.take j).filter (kept L)) ∧ Hid (R.drop j = M.drop j) ∧ wr.ownsRow base 52 7 (.slice (some ⟨gr, 0, none⟩) n c) n (qCB R) ∧ Bes (fun q => (Value.slice (some ⟨gr, 0, none⟩) n c).ownBlock = some q) w wr) (fun _ s6 _ => n - (intOf s6).toNat)
    case atStart => exact ⟨i0, i0 + 1, M, rfl, by go_num, Nat.lt_succ_self _, hi0, Lib.hid HM.out.symm, HI0, Lib.hid rfl, HO2, HBE0⟩
    case round =>
      clear HO2 HBE0; obtain ⟨i, j, R, rfl, rfl, hij, hj, HR, HT, HD, HO, HBE⟩ := hrel
      by_cases hlt : j < n
      · obtain ⟨gq, p, hA, hp, FC⟩ := qDO HO HR.out.symm hlt; (obtain rfl : gr = gq := by injection hA with h1; injection h1); have HPM : Hid (M[j]? = some p) := Lib.hid (by have h1 := congrArg (fun l => l[0]?) HD.out; simp only [List.getElem?_drop, Nat.add_zero] at h1; rw [← h1]; exact hp); (have hbd : 0 ≤ (j : Int) ∧ (j : Int) < n := by omega); (have hlt2 : (j : Int) < n := by omega); (have hbi : 0 ≤ (i : Int) ∧ (i : Int) < n := by omega); have hBB : Below base w wr := HBE.below (fun k e => by have e2 : gr = k := Option.some.inj e; omega) hb; have HBBH := Lib.hid hBB; clear hA hp hBB; cases hh : qCP L p.1
        · have HH := Lib.hid hh; clear hh
          go_wp2_with (first
            | ((with_reducible refine qAR ?_); refine qAX rfl 52 (.tmp 24) rfl _ _ rfl (qBB p) _ FC Tryz.underlying52 rfl qAV ?_)
            | ((with_reducible refine qAG ?_); refine qAO 7 rfl rfl 52 rfl rfl (.tmp 25) rfl _ qCh (qBB p) rfl rfl qAV rfl (qAw _) ?_; intro w5 hw; have hb := qAD hw; have B7 := (qAC hw).1; replace HBBH := Lib.hid (HBBH.out.trans (hb.mono (Nat.le_trans HBZ.out HBBH.out.size))); clear FC; have hbe9 : Bes (fun q => (Value.slice (some ⟨gr, 0, none⟩) n c).ownBlock = some q) w _ := Bes.trans HBE (Bes.of_below (X := fun _ => False) hb) (fun _ x => x) (fun _ _ x => x.elim); replace HBE := hbe9; clear hbe9; replace HO := qBY HO hb; clear hb hw)
            | ((with_reducible refine qAR ?_); refine qAL rfl 52 (.tmp 7) rfl _ rfl _ _ _ B7 Tryz.underlying52 rfl qAV ?_)
            | (go_at_call 33; (refine (qGd (HNN.out _ HBBH.out) p).mono ?_); rintro e w6 ⟨rfl, hb⟩; rw [HH.out]; have hbe9 : Bes (fun q => (Value.slice (some ⟨gr, 0, none⟩) n c).ownBlock = some q) w _ := Bes.trans HBE (Bes.of_below (X := fun _ => False) hb) (fun _ x => x) (fun _ _ x => x.elim); replace HBE := hbe9; clear hbe9; replace HO := qBY HO hb; (try replace B7 := zI B7 hb); clear hb)
            | ((with_reducible refine qAF ?_); refine qEG rfl (.tmp 33) (.tmp 32) rfl HO HR.out (show i < n by omega) p rfl rfl ?_; intro w8 HO8 hbe; replace HO := HO8; have hbe9 : Bes (fun q => (Value.slice (some ⟨gr, 0, none⟩) n c).ownBlock = some q) w w8 := Bes.trans HBE hbe (fun _ x => x) (fun _ _ x => by rw [x]; rfl); replace HBE := hbe9; clear hbe9 HO8 hbe B7))
          go_roundw
          case rel =>
            refine ⟨i + 1, j + 1, R.set i p, by go_num, by go_num, by omega, by omega, Lib.hid (by rw [List.length_set]; exact HR.out), Lib.hid ?_, Lib.hid ?_, HO, HBE⟩
            · rw [qM4 (by have := HR.out; omega), HT.out, qFY HPM.out, if_pos (by unfold kept; rw [HH.out]; rfl)]
            · rw [qMY (by omega)]; have h1 := congrArg (List.drop 1) HD.out; rw [List.drop_drop, List.drop_drop] at h1; exact h1
          case measure => simp [intOf]; omega
        · have HH := Lib.hid hh; clear hh
          go_wp2_with (first
            | ((with_reducible refine qAR ?_); refine qAX rfl 52 (.tmp 24) rfl _ _ rfl (qBB p) _ FC Tryz.underlying52 rfl qAV ?_)
            | ((with_reducible refine qAG ?_); refine qAO 7 rfl rfl 52 rfl rfl (.tmp 25) rfl _ qCh (qBB p) rfl rfl qAV rfl (qAw _) ?_; intro w5 hw; have hb := qAD hw; have B7 := (qAC hw).1; replace HBBH := Lib.hid (HBBH.out.trans (hb.mono (Nat.le_trans HBZ.out HBBH.out.size))); clear FC; have hbe9 : Bes (fun q => (Value.slice (some ⟨gr, 0, none⟩) n c).ownBlock = some q) w _ := Bes.trans HBE (Bes.of_below (X := fun _ => False) hb) (fun _ x => x) (fun _ _ x => x.elim); replace HBE := hbe9; clear hbe9; replace HO := qBY HO hb; clear hb hw)
            | ((with_reducible refine qAR ?_); refine qAL rfl 52 (.tmp 7) rfl _ rfl _ _ _ B7 Tryz.underlying52 rfl qAV ?_)
            | (go_at_call 33; (refine (qGd (HNN.out _ HBBH.out) p).mono ?_); rintro e w6 ⟨rfl, hb⟩; rw [HH.out]; have hbe9 : Bes (fun q => (Value.slice (some ⟨gr, 0, none⟩) n c).ownBlock = some q) w _ := Bes.trans HBE (Bes.of_below (X := fun _ => False) hb) (fun _ x => x) (fun _ _ x => x.elim); replace HBE := hbe9; clear hbe9; replace HO := qBY HO hb; (try replace B7 := zI B7 hb); clear hb))
          go_roundw
          case rel =>
            refine ⟨i, j + 1, R, rfl, by go_num, by omega, by omega, HR, Lib.hid ?_, Lib.hid ?_, HO, HBE⟩
            · rw [HT.out, qFY HPM.out, if_neg (by unfold kept; rw [HH.out]; decide), List.append_nil]
            · have h1 := congrArg (List.drop 1) HD.out; rw [List.drop_drop, List.drop_drop] at h1; exact h1
          case measure => simp [intOf]; omega
      · (obtain rfl : j = n := by omega); (have hlt2 : ¬ ((j : Nat) : Int) < j := by omega); have HFIN := Lib.hid (show R.take i = M.filter (kept L) by rw [HT.out, List.take_of_length_le (by have := HM.out; omega)]); have HLEN := Lib.hid (show i = (M.filter (kept L)).length by rw [← HFIN.out, List.length_take]; have := HR.out; omega)
        obtain ⟨vs, hvs, hcl⟩ : ∃ vs : List Value, i * 7 + vs.length ≤ j * 7 ∧ ∀ ty, (Builtin.clear_ #[23] ty #[.slice (some ⟨gr, i * 7, none⟩) (j - i) (c - i)]).run Tryz.prog wr = .ok (.tuple #[]) (wr.setCells gr (i * 7) vs) := by
          obtain ⟨vs, h1, _⟩ := qCM HO hij 0 (c - i); exact ⟨_, (qCM HO hij 0 (c - i)).choose_spec.1, fun ty => qJs (qCM HO hij 0 (c - i)).choose_spec.2⟩
        obtain ⟨HC1, HC2⟩ := qNa HO HR.out (show i ≤ j by omega) vs hvs; have HCC := Lib.hid HC1; have HCB := Lib.hid HC2; obtain ⟨wz, hwz⟩ : ∃ wz, wz = wr.setCells gr (i * 7) vs := ⟨_, rfl⟩; have HWZ := Lib.hid hwz; rw [← hwz] at hcl; (have hib : 0 ≤ (i : Int) ∧ (i : Int) ≤ j := by omega); (have hic : (i : Int) ≤ c := by omega); (have hjc : (j : Int) ≤ c := by omega); clear HC1 HC2 hwz hvs; go_wp2; go_ret; refine ⟨⟨i, rfl, HLEN.out, ?_⟩, ?_⟩
        · rw [HWZ.out, ← HFIN.out]; exact HCC.out
        · rw [HWZ.out]; exact Bes.trans HBE HCB.out (fun _ x => x) (fun k _ x => by have e : k = gr := x; rw [e]; rfl)
end
end Go.Proofs.YtnjhmnolngdfaaaGreatDoor
namespace Go.Proofs.YtnjhmnolngdfaaaGreatDoor
section
open Go.RowKit Go.PlainAid
def qOp (L : List ByteArray) (ns : List ByteArray) (vs : List JT) : List (ByteArray × JT) := (ns.zip vs).filter fun p => !qCP L p.1
def qPo (L : List ByteArray) : JT → JT
  | .mk k b i t l ns vs => .mk k b i t l ((qOp L ns vs).map (·.1)) ((qOp L ns vs).map (·.2))
def qJ8 (j : JV) : Int := if j.v.kind = 5 then (qBz (er j)).1 else 8
def WoV (j : JV) (L : List ByteArray) (w : World) (e : Ending) (w' : World) : Prop := Below w.heap.size w w' ∧
  if qJ8 j = 0 then ∃ x, e = .returned (.tuple #[.agg x.cells, .nilIface]) ∧ qAi w' x ∧ er x = qPo L (qBP (er j)) ∧ Off (fun q => q < w.heap.size) x
  else e = .returned (.tuple #[.agg JV.zero.cells, .iface 31 (.int .i64 (qJ8 j))])
theorem WoV.bad {j : JV} {L : List ByteArray} {w w' : World} {c : Int} (h : qJ8 j = c) (hc : c ≠ 0) (hb : Below w.heap.size w w') : WoV j L w (.returned (.tuple #[.agg JV.zero.cells, .iface 31 (.int .i64 c)])) w' := ⟨hb, by rw [h, if_neg hc]⟩
theorem WoV.ok {j : JV} {L : List ByteArray} {w w' : World} (h : qJ8 j = 0) (hb : Below w.heap.size w w') {x : JV} (hx : qAi w' x) (he : er x = qPo L (qBP (er j))) (ho : Off (fun q => q < w.heap.size) x) : WoV j L w (.returned (.tuple #[.agg x.cells, .nilIface])) w' := ⟨hb, by rw [if_pos h]; exact ⟨x, rfl, hx, he, ho⟩⟩
theorem qC8 {P : Program} {ops : Array Oper} {rest : List Oper} {o : Oper} {a : Act} {w : World} {Q : Exit → Act → World → Prop} (hgd : o.guard = none) (ty : TypeId) (x : Operand) (ho : o.op = .box ty x) (A : Option Addr) (n c : Nat) (hx : a.eval x = .slice A n c)
    (h : ∀ w', Hid (w' = w.alloc (.cells #[.slice A n c] ty)) → wpList P ops Q rest (a.put o.dst (.pointer (some ⟨w.heap.size, 0, none⟩))) w') : wpList P ops Q (o :: rest) a w :=
  wpList_plain hgd fun _ hK => by
    unfold Oper.wp execOp; simp [ho, hx]; exact hK _ _ (h _ rfl)
theorem NmW.below {W W' : World} {B : Nat} {L : List ByteArray} (h : NmW W B L) (hb : Below W.heap.size W W') : NmW W' B L := by
  obtain ⟨A, n, c, h1, h2, h3, h4⟩ := h; exact ⟨A, n, c, qAB hb h1, h2, h3, h4.below hb⟩
theorem qMO {t : JT} : (match qBP t with | .mk k _ _ _ _ _ _ => k) = (match t with | .mk k _ _ _ _ _ _ => k) := by
  obtain ⟨k, b, i, x, l, ns, vs⟩ := t; rcases qDb k with rfl | rfl | rfl | rfl | rfl | rfl | ⟨k0, k1, k2, k3, k4, k5⟩
  · rw [qJ1]
  · rw [qHw]
  · rw [qH0]
  · rw [qIB]
  · rw [qHy]
  · rw [qIT]
  · rw [qDf k1 k2 k3 k4 k5]
theorem qMy {j y : JV} (hk : j.v.kind = 5) (he : er y = qBP (er j)) : y.v.kind = 5 := by
  have h1 := qMO (t := er j); rw [← he, qBs, qBs] at h1; exact h1.trans hk
theorem qLE : ∀ M : List (ByteArray × JV), (M.map (·.1)).zip (M.map fun p => er p.2) = M.map fun p => (p.1, er p.2)
  | [] => rfl
  | x :: r => by rw [List.map_cons, List.map_cons, List.map_cons, List.zip_cons_cons, qLE r]
theorem qNw {j : JV} {A : Option Addr} {c : Nat} {M : List (ByteArray × JV)} {L : List ByteArray} (hk : j.v.kind = 5) (he : er (qDD A c M) = qBP (er j)) : er (qDD A c (M.filter (kept L))) = qPo L (qBP (er j)) := by
  rw [← he, qGD, qGD]; show _ = JT.mk 5 false 0 ⟨#[]⟩ [] ((qOp L (M.map (·.1)) (M.map fun p => er p.2)).map (·.1)) ((qOp L (M.map (·.1)) (M.map fun p => er p.2)).map (·.2)); unfold qOp; rw [qLE M]
  have e2 : (M.map fun p => (p.1, er p.2)).filter (fun p => !qCP L p.1) = (M.filter (kept L)).map fun p => (p.1, er p.2) := by
    rw [List.filter_map]; rfl
  rw [e2, List.map_map, List.map_map]; rfl
theorem qIM {j : JV} {w : World} {nA : Option Addr} {nn nc : Nat} {L : List ByteArray} (HJ : qAi w j) (hz : SzT (er j) ≤ 1048576) (hW : Wc w) (HNM : qBA w nA 1 0 L) (hnn : nn = L.length) (hnb : nn ≤ 9223372036854775807) : Calls Tryz.prog 15 #[.agg j.cells, .slice nA nn nc] w (WoV j L w) := by
 have HZ := Lib.hid hz; have HW := Lib.hid hW; have HNN := Lib.hid hnn; have HNB0 := Lib.hid hnb; have HB := Below.refl w.heap.size w; clear hz hW hnn hnb
 by_cases hk5 : j.v.kind = 5
 ·have HKD := Lib.hid hk5; clear hk5; rcases qE1 (er j) with ⟨l, hs⟩ | ⟨c, hs, hc⟩
  ·have HS := Lib.hid hs; have HC := Lib.hid (show qJ8 j = 0 by unfold qJ8; rw [if_pos HKD.out, hs]); clear hs; go_enter Tryz.func15, Tryz.ntmps15
   go_wp2_with (first
    | ((with_reducible refine qAG ?_); refine qAO 6 rfl rfl 25 rfl rfl (.tmp 16) rfl _ qAY (qDD A c M).cells rfl rfl qAA rfl (qAP _) ?_; intro w5 hw; have hb := qAD hw; have B6 := (qAC hw).1; have H45 := Lib.hid hb; have L64 := qAW.lt B4; have c6 : w5.cell? ⟨w4.heap.size, 5, none⟩ = some (.slice A M.length c) := (B6.cell 5).trans rfl; replace HB := zT HB hb; (try replace HJ := HJ.below hb); (try replace B2 := zI B2 hb); (try replace B3 := zI B3 hb); (try replace B4 := zI B4 hb); (try replace HNM := HNM.below hb); (try replace c2_0 := qAB hb c2_0); clear hb hw)
    | (refine qAM rfl 25 (.tmp 0) rfl _ rfl ?_; intro w1 hw; have hb := qAD hw; have B2 := (qAC hw).1; replace HB := zT HB hb; (try replace HJ := HJ.below hb); (try replace B3 := zI B3 hb); (try replace B4 := zI B4 hb); (try replace B6 := zI B6 hb); (try replace HNM := HNM.below hb); (try replace c2_0 := qAB hb c2_0); clear hb hw; have c2_0 : w1.cell? ⟨_, 0, none⟩ = some (.int .i64 5) := (B2.cell 0).trans (by rw [← HKD.out]; rfl))
    | (refine qC8 rfl 37 (.tmp 1) rfl nA nn nc rfl ?_; intro w2 hw; have hb := qAD hw; have B3 := (qAC hw).1; replace HB := zT HB hb; (try replace HJ := HJ.below hb); (try replace B2 := zI B2 hb); (try replace B4 := zI B4 hb); (try replace B6 := zI B6 hb); (try replace HNM := HNM.below hb); (try replace c2_0 := qAB hb c2_0); clear hb hw)
    | ((with_reducible refine qAG ?_); refine qAE (o := ⟨some 4, _, _, _, _, _⟩) rfl 25 rfl _ qAY ?_; intro w3 hw; have hb := qAD hw; have B4 := qAI hw; have G24 := HB.size; replace HB := zT HB hb; (try replace HJ := HJ.below hb); (try replace B2 := zI B2 hb); (try replace B3 := zI B3 hb); (try replace B6 := zI B6 hb); (try replace HNM := HNM.below hb); (try replace c2_0 := qAB hb c2_0); clear hb hw; have L34 := qAW.lt B4; have L13 := qAW.lt B3; have B33 := Lib.hid B3)
    | ((with_reducible refine qAR ?_); refine qAL rfl 25 (.tmp 2) rfl _ rfl _ _ _ B2 Tryz.underlying25 rfl qAA ?_)
    | (go_at_call 20; (refine (qHP HJ HZ.out (Wc.below HB HW.out)).mono ?_); intro e w4 hnm; obtain ⟨y, he, hy, hey, hoy, how, hb⟩ := NoV.yes HS.out hnm; subst he; clear hnm; obtain ⟨A, c, M, hyo, hown, hels, hnsz, hMl⟩ := how (qMy HKD.out hey); subst hyo; have HEY := Lib.hid hey; have HOWN := Lib.hid hown; have HELS := Lib.hid hels; have HNSZ := Lib.hid hnsz; have HML := Lib.hid hMl; have HNB := Lib.hid HNM; have HBQ := Lib.hid hb; have HGB := Lib.hid HB.size; clear hy hey hoy how hown hels hnsz hMl; replace HB := zT HB hb; (try replace HJ := HJ.below hb); (try replace B2 := zI B2 hb); (try replace B3 := zI B3 hb); (try replace B4 := zI B4 hb); (try replace B6 := zI B6 hb); (try replace HNM := HNM.below hb); (try replace c2_0 := qAB hb c2_0); clear hb))
   have HO5 := Lib.hid (qBY HOWN.out H45.out); have HNMW : Hid (NmW w3 w1.heap.size L) := Lib.hid ⟨nA, nn, nc, (B33.out.cell 0).trans rfl, HNN.out, HNB0.out, HNB.out⟩; have HB35 := Lib.hid (HBQ.out.trans (H45.out.mono HBQ.out.size))
   go_wp2_with (first
    | (go_at_call 32; (refine (qOZ HO5.out rfl (HML.out) HB35.out.size (fun W hW => HNMW.out.below (HB35.out.trans hW))).mono ?_); rintro e w6 ⟨⟨m, rfl, hm, hown6⟩, hbe⟩; have hne6 : ∀ q, (Value.slice A M.length c).ownBlock = some q → w3.heap.size ≤ q ∧ q < w4.heap.size := fun q e => qAh HOWN.out e; replace B6 := Bes.box hbe B6 (fun e => by have := hne6 _ e; omega); replace B4 := Bes.box hbe B4 (fun e => by have := hne6 _ e; omega); replace HB := HB.trans (hbe.below (B := w.heap.size) (fun k e => by have := hne6 _ e; have := HGB.out; omega) HB.size); have HO6 := Lib.hid hown6; have HM6 := Lib.hid hm; have HEL6 : Hid (∀ p ∈ M.filter (kept L), qAi w6 p.2 ∧ Off (fun q => q < w3.heap.size ∨ (Value.slice A M.length c).ownBlock = some q) p.2 ∧ Off (fun q => q = w4.heap.size) p.2) := Lib.hid (fun p hp => by have h1 := HELS.out p (List.mem_filter.1 hp).1; exact ⟨qAi.bes hbe (h1.1.below H45.out) (Off.mono (fun q e => Or.inr e) h1.2), h1.2, Off.mono (fun q e => by have e2 : q = w4.heap.size := e; show w4.heap.size ≤ q; omega) (qCD h1.1)⟩); clear hown6 hm hbe hne6 c6)
    | ((with_reducible refine qAF ?_); refine qAs rfl 23 (.tmp 26) (.tmp 25) rfl _ 5 rfl (.slice A m c) rfl _ _ B6 (show 5 < 6 by decide) qHC rfl ?_; intro w7 hw; have hbe := Bes.row (X := fun q => q = w4.heap.size) hw rfl; have hq := qAN hw (show w.heap.size ≤ w4.heap.size by have := HGB.out; have := HBQ.out.size; omega) HB; replace HB := hq.1; replace B4 := qAu hw (show w2.heap.size ≠ w4.heap.size by omega) B4; replace B6 : qAW w7 w4.heap.size 25 (VC (.slice A m c)) := qAQ hw B6; have HBE7 := Lib.hid hbe; clear hq hw hbe)
    | ((with_reducible refine qAF ?_); refine qAH rfl 25 (.tmp 4) (.tmp 27) rfl _ (VC (.slice A m c)) rfl rfl _ _ B4 qAA rfl (qM5 _ _ _) ?_; intro w9 hw; have hbe := Bes.row (X := fun q => q = w2.heap.size) hw rfl; have hq := qAN hw G24 HB; replace HB := hq.1; replace B4 := qAQ hw B4; have HBE9 := Lib.hid hbe; clear hq hw hbe)
    | ((with_reducible refine qAR ?_); refine qAL rfl 25 (.tmp 6) rfl _ rfl _ _ _ B6 Tryz.underlying25 rfl qAA ?_))
   have h67 : ∀ k, (Value.slice A m c).ownBlock = some k → ¬ k = w4.heap.size := fun k e e2 => by
    cases A with
    | none => cases e
    | some a =>
     have h1 := (qAh HOWN.out (k := a.block) rfl).2; have e3 : a.block = k := Option.some.inj e; omega
   have h69 : ∀ k, (Value.slice A m c).ownBlock = some k → ¬ k = w2.heap.size := fun k e e2 => by
    have h1 := (qAh HO6.out e).1; omega
   have HO9 := HBE9.out.own (HBE7.out.own HO6.out h67) h69; obtain ⟨mm, hmm⟩ : ∃ mm, mm = m := ⟨_, rfl⟩; have HMM := HM6.out; rw [HMM] at HO9 B4
   have HEL9 : ∀ p ∈ M.filter (kept L), qAi w9 p.2 ∧ Off (fun q => q < w3.heap.size ∨ (Value.slice A M.length c).ownBlock = some q) p.2 := fun p hp => by
    have h1 := HEL6.out p hp; exact ⟨qAi.bes HBE9.out (qAi.bes HBE7.out h1.1 h1.2.2) (Off.mono (fun q e => Or.inl (by have e2 : q = w2.heap.size := e; omega)) h1.2.1), h1.2.1⟩
   have hlen : (M.filter (kept L)).length ≤ 1048576 := Nat.le_trans (List.length_filter_le _ _) HML.out; obtain ⟨A', c', hv, hj9, ha9⟩ := qGl HO9 rfl (fun p hp => ⟨HNSZ.out p (List.mem_filter.1 hp).1, (HEL9 p hp).1⟩) (by unfold qAy; omega); injection hv with e1 e2 e3; subst e1 e3
   have hoff : Off (fun q => q < w.heap.size) (qDD A c (M.filter (kept L))) := by
    unfold qDD Off; refine ⟨fun h => absurd rfl h, fun _ a e hlt => ?_, by unfold qCd; exact True.intro, qCi fun x hx => ?_⟩
    ·have := ha9 a e; have hlt2 : a.block < w.heap.size := hlt; have := HGB.out; omega
    ·obtain ⟨p, hp, rfl⟩ := List.mem_map.1 hx; exact Off.mono (fun q e => Or.inl (Nat.lt_of_lt_of_le e HGB.out)) (HEL9 p hp).2
   exact bodyPost_ret (qA6 rfl _ _ w2.heap.size (qDD A c (M.filter (kept L))).cells .nilIface rfl rfl B4 qAA) rfl (WoV.ok HC.out HB hj9 (qNw HKD.out HEY.out) hoff)
  ·have HS := Lib.hid hs; have HC := Lib.hid (show qJ8 j = c by unfold qJ8; rw [if_pos HKD.out, hs]); clear hs; go_enter Tryz.func15, Tryz.ntmps15
   go_wp2_with (first
    | ((with_reducible refine qAG ?_); refine qAO 6 rfl rfl 25 rfl rfl (.tmp 16) rfl _ qAY JV.zero.cells rfl rfl qAA rfl (qAP _) ?_; intro w5 hw; have hb := qAD hw; have B6 := (qAC hw).1; replace HB := zT HB hb; (try replace HJ := HJ.below hb); (try replace B2 := zI B2 hb); (try replace B3 := zI B3 hb); (try replace B4 := zI B4 hb); (try replace HNM := HNM.below hb); (try replace c2_0 := qAB hb c2_0); clear hb hw)
    | (refine qAM rfl 25 (.tmp 0) rfl _ rfl ?_; intro w1 hw; have hb := qAD hw; have B2 := (qAC hw).1; replace HB := zT HB hb; (try replace HJ := HJ.below hb); (try replace B3 := zI B3 hb); (try replace B4 := zI B4 hb); (try replace B6 := zI B6 hb); (try replace HNM := HNM.below hb); (try replace c2_0 := qAB hb c2_0); clear hb hw; have c2_0 : w1.cell? ⟨_, 0, none⟩ = some (.int .i64 5) := (B2.cell 0).trans (by rw [← HKD.out]; rfl))
    | (refine qC8 rfl 37 (.tmp 1) rfl nA nn nc rfl ?_; intro w2 hw; have hb := qAD hw; have B3 := (qAC hw).1; replace HB := zT HB hb; (try replace HJ := HJ.below hb); (try replace B2 := zI B2 hb); (try replace B4 := zI B4 hb); (try replace B6 := zI B6 hb); (try replace HNM := HNM.below hb); (try replace c2_0 := qAB hb c2_0); clear hb hw)
    | ((with_reducible refine qAG ?_); refine qAE (o := ⟨some 4, _, _, _, _, _⟩) rfl 25 rfl _ qAY ?_; intro w3 hw; have hb := qAD hw; have B4 := qAI hw; have G24 := HB.size; replace HB := zT HB hb; (try replace HJ := HJ.below hb); (try replace B2 := zI B2 hb); (try replace B3 := zI B3 hb); (try replace B6 := zI B6 hb); (try replace HNM := HNM.below hb); (try replace c2_0 := qAB hb c2_0); clear hb hw; have L34 := qAW.lt B4; have L13 := qAW.lt B3; have B33 := Lib.hid B3)
    | ((with_reducible refine qAR ?_); refine qAL rfl 25 (.tmp 2) rfl _ rfl _ _ _ B2 Tryz.underlying25 rfl qAA ?_)
    | (go_at_call 20; (refine (qHP HJ HZ.out (Wc.below HB HW.out)).mono ?_); intro e w4 hnm; obtain ⟨he, hb⟩ := NoV.not HS.out hc hnm; subst he; clear hnm; replace HB := zT HB hb; (try replace HJ := HJ.below hb); (try replace B2 := zI B2 hb); (try replace B3 := zI B3 hb); (try replace B4 := zI B4 hb); (try replace B6 := zI B6 hb); (try replace HNM := HNM.below hb); (try replace c2_0 := qAB hb c2_0); clear hb)
    | ((with_reducible refine qAT ?_); refine qAK qBH rfl _ rfl rfl ?_)
    | ((with_reducible refine qAF ?_); refine qAH rfl 25 (.tmp 4) (.tmp 20) rfl _ JV.zero.cells rfl rfl _ _ B4 qAA rfl (qAP _) ?_; intro w9 hw; have hq := qAN hw G24 HB; replace HB := hq.1; replace B4 := qAQ hw B4; clear hq hw))
   exact bodyPost_ret (qA6 rfl _ _ w2.heap.size JV.zero.cells (.iface 31 (.int .i64 c)) rfl rfl B4 qAA) rfl (WoV.bad HC.out hc HB)
 ·have HC := Lib.hid (show qJ8 j = 8 by unfold qJ8; rw [if_neg hk5]); (have q5 : (j.v.kind == 5) = false := by simpa using hk5); (have q5b : (j.v.kind != 5) = true := by simpa using hk5); clear hk5; go_enter Tryz.func15, Tryz.ntmps15
  go_wp2_with (first
   | (refine qAM rfl 25 (.tmp 0) rfl _ rfl ?_; intro w1 hw; have hb := qAD hw; have B2 := (qAC hw).1; replace HB := zT HB hb; (try replace HJ := HJ.below hb); (try replace B3 := zI B3 hb); (try replace B4 := zI B4 hb); (try replace B6 := zI B6 hb); (try replace HNM := HNM.below hb); (try replace c2_0 := qAB hb c2_0); clear hb hw; have c2_0 : w1.cell? ⟨_, 0, none⟩ = some (.int .i64 j.v.kind) := (B2.cell 0).trans (by rfl))
   | (refine qC8 rfl 37 (.tmp 1) rfl nA nn nc rfl ?_; intro w2 hw; have hb := qAD hw; have B3 := (qAC hw).1; replace HB := zT HB hb; (try replace HJ := HJ.below hb); (try replace B2 := zI B2 hb); (try replace B4 := zI B4 hb); (try replace B6 := zI B6 hb); (try replace HNM := HNM.below hb); (try replace c2_0 := qAB hb c2_0); clear hb hw)
   | ((with_reducible refine qAG ?_); refine qAE (o := ⟨some 4, _, _, _, _, _⟩) rfl 25 rfl _ qAY ?_; intro w3 hw; have hb := qAD hw; have B4 := qAI hw; have G24 := HB.size; replace HB := zT HB hb; (try replace HJ := HJ.below hb); (try replace B2 := zI B2 hb); (try replace B3 := zI B3 hb); (try replace B6 := zI B6 hb); (try replace HNM := HNM.below hb); (try replace c2_0 := qAB hb c2_0); clear hb hw; have L34 := qAW.lt B4; have L13 := qAW.lt B3; have B33 := Lib.hid B3)
   | ((with_reducible refine qAT ?_); refine qAK qBH rfl _ rfl rfl ?_)
   | ((with_reducible refine qAF ?_); refine qAH rfl 25 (.tmp 4) (.tmp 11) rfl _ JV.zero.cells rfl rfl _ _ B4 qAA rfl (qAP _) ?_; intro w9 hw; have hq := qAN hw G24 HB; replace HB := hq.1; replace B4 := qAQ hw B4; clear hq hw))
  exact bodyPost_ret (qA6 rfl _ _ w2.heap.size JV.zero.cells (.iface 31 (.int .i64 8)) rfl rfl B4 qAA) rfl (WoV.bad HC.out (by decide) HB)
end
end Go.Proofs.YtnjhmnolngdfaaaGreatDoor
namespace Go.Proofs.YtnjhmnolngdfaaaGreatDoor
section
open Go.RowKit
theorem qLm : (Tryz.prog.info? 31).map (fun i => i.comparable) = some true := by kernel_rfl
theorem qM1 (a b : Int) (w : World) : (binOp .eql 28 (.iface 31 (.int .i64 a)) (.iface 31 (.int .i64 b))).run Tryz.prog w = .ok (.bool (a == b)) w := by
  obtain ⟨i, hi, hc⟩ := Option.map_eq_some_iff.1 qLm; exact qEX w a b Tryz.underlying28 Tryz.underlying31 hi hc
end
end Go.Proofs.YtnjhmnolngdfaaaGreatDoor
namespace Go.Proofs.YtnjhmnolngdfaaaGreatDoor
section
open Go.RowKit Go.PlainAid
theorem qMa {w : World} {j : JV} (h : qAi w j) {i : Nat} (hi : i < j.vs.length) : ∃ bl off n, j.v.FA = some ⟨bl, off, none⟩ ∧ j.ns[i]? = some n ∧ w.cell? ⟨bl, off + i * 7, none⟩ = some (.string n) := by
  obtain ⟨bl, off, nm, x, hA, hx, hnx, n1, RX, HX⟩ := qEI h hi; exact ⟨bl, off, nm, hA, hnx, n1⟩
theorem qKH (n : Int) (w : World) : (Instr.build 25 #[(0, .int .i64 2), (2, .int .i64 n)]).run Tryz.prog w = .ok (.agg (lfJ 2 false n ⟨#[]⟩).cells) w := by kernel_rfl
theorem qLc (s : ByteArray) (w : World) : (Instr.build 25 #[(0, .int .i64 3), (3, .string s)]).run Tryz.prog w = .ok (.agg (lfJ 3 false 0 s).cells) w := by kernel_rfl
theorem qKK (A : Option Addr) (n c : Nat) (w : World) : (Instr.build 25 #[(0, .int .i64 4), (4, .slice A n c)]).run Tryz.prog w = .ok (.agg (LC (.slice A n c))) w := by kernel_rfl
theorem qKa (A : Option Addr) (n c : Nat) (w : World) : (Instr.build 25 #[(0, .int .i64 5), (5, .slice A n c)]).run Tryz.prog w = .ok (.agg (VC (.slice A n c))) w := by kernel_rfl
theorem qIh (n : Int) (w : World) : Calls Tryz.prog 24 #[.int .i64 n] w fun e w' => e = .returned (.agg (lfJ 2 false n ⟨#[]⟩).cells) ∧ Below w.heap.size w w' := by
  have HB := Below.refl w.heap.size w; go_enter Tryz.func24, Tryz.ntmps24
  go_wp2_with (first
    | ((with_reducible refine qAG ?_); refine qAE rfl 25 rfl _ qAY ?_; intro w2 hw; have hb := qAD hw; have B2 := qAI hw; replace HB := zT HB hb; clear hb hw)
    | ((with_reducible refine qAT ?_); refine qAK (qKH n) rfl _ rfl rfl ?_)
    | ((with_reducible refine qAF ?_); refine qAH rfl 25 (.tmp 2) (.tmp 4) rfl _ (lfJ 2 false n ⟨#[]⟩).cells rfl rfl _ _ B2 qAA rfl (qAP _) ?_; intro w9 hw; have hq := qAN hw (Nat.le_refl _) HB; replace HB := hq.1; replace B2 := qAQ hw B2; clear hq hw))
  exact bodyPost_ret (qAb rfl _ _ w.heap.size 25 (lfJ 2 false n ⟨#[]⟩).cells _ rfl B2 Tryz.underlying25 rfl qAA) rfl ⟨rfl, HB⟩
theorem qMn (s : ByteArray) (w : World) : Calls Tryz.prog 25 #[.string s] w fun e w' => e = .returned (.agg (lfJ 3 false 0 s).cells) ∧ Below w.heap.size w w' := by
  have HB := Below.refl w.heap.size w; go_enter Tryz.func25, Tryz.ntmps25
  go_wp2_with (first
    | ((with_reducible refine qAG ?_); refine qAE rfl 25 rfl _ qAY ?_; intro w2 hw; have hb := qAD hw; have B2 := qAI hw; replace HB := zT HB hb; clear hb hw)
    | ((with_reducible refine qAT ?_); refine qAK (qLc s) rfl _ rfl rfl ?_)
    | ((with_reducible refine qAF ?_); refine qAH rfl 25 (.tmp 2) (.tmp 4) rfl _ (lfJ 3 false 0 s).cells rfl rfl _ _ B2 qAA rfl (qAP _) ?_; intro w9 hw; have hq := qAN hw (Nat.le_refl _) HB; replace HB := hq.1; replace B2 := qAQ hw B2; clear hq hw))
  exact bodyPost_ret (qAb rfl _ _ w.heap.size 25 (lfJ 3 false 0 s).cells _ rfl B2 Tryz.underlying25 rfl qAA) rfl ⟨rfl, HB⟩
theorem qLN {w : World} {g base n size : Nat} {E : TypeId} {arr : Array Value} (h : qAW w g E arr) (hs : arr.size = n * size) (hb : base ≤ g) (hn : n ≤ maxLen) : w.ownsRow base E size (.slice (some ⟨g, 0, none⟩) n n) n arr.toList :=
  ⟨by simpa using hs, .inr ⟨g, n, arr, rfl, hb, h, Nat.le_refl _, hn, hs, List.take_of_length_le (by simpa using Nat.le_of_eq hs)⟩⟩
def exB : ByteArray := ⟨#[98]⟩
def exA : ByteArray := ⟨#[97]⟩
def exT : ByteArray := ⟨#[195, 169, 10]⟩
def exL : List JV := [lfJ 2 false 1 ⟨#[]⟩, JV.zero]
def exV (g h : Nat) : JV := qDD (some ⟨h, 0, none⟩) 2 [(exB, qBy (some ⟨g, 0, none⟩) 2 exL), (exA, lfJ 3 false 0 exT)]
def qJZ : JT := .mk 5 false 0 ⟨#[]⟩ [] [exB, exA] [.mk 4 false 0 ⟨#[]⟩ [.mk 2 false 1 ⟨#[]⟩ [] [] [], .mk 0 false 0 ⟨#[]⟩ [] [] []] [] [], .mk 3 false 0 exT [] [] []]
theorem qN5 (g h : Nat) : er (exV g h) = qJZ := by kernel_rfl
theorem qPC : qBz qJZ = (0, [123, 34, 97, 34, 58, 34, 195, 169, 92, 110, 34, 44, 34, 98, 34, 58, 91, 49, 44, 110, 117, 108, 108, 93, 125]) := by kernel_rfl
theorem qPT : qBz (.mk 2 false 9007199254740992 ⟨#[]⟩ [] [] []) = (8, []) := by kernel_rfl
def exN : List ByteArray := [exA, ⟨#[99]⟩]
theorem qPI : qPo exN (qBP qJZ) = .mk 5 false 0 ⟨#[]⟩ [] [exB] [.mk 4 false 0 ⟨#[]⟩ [.mk 2 false 1 ⟨#[]⟩ [] [] [], .mk 0 false 0 ⟨#[]⟩ [] [] []] [] []] := by kernel_rfl
theorem qPA : isS ⟨#[123, 34, 97, 34, 58, 49, 125]⟩ = true := by kernel_rfl
theorem qPQ : isS ⟨#[123, 34, 97, 34, 58, 32, 49, 125]⟩ = false := by kernel_rfl
theorem qPP (a b : JV) : Instr.fill (fun i => some (i * 6, 6)) ((Array.range (2 * 6)).map ((Value.agg JV.zero.cells).cells[· % (Value.agg JV.zero.cells).cells.size]!)) [(0, .agg a.cells), (1, .agg b.cells)] = some (qDK [a, b]).toArray := by kernel_rfl
theorem qPg (a b : ByteArray × JV) : Instr.fill (fun i => some (i * 7, 7)) ((Array.range (2 * 7)).map ((Value.agg (qBB (⟨#[]⟩, JV.zero))).cells[· % (Value.agg (qBB (⟨#[]⟩, JV.zero))).cells.size]!)) [(0, .agg (qBB a)), (1, .agg (qBB b))] = some (qCB [a, b]).toArray := by kernel_rfl
theorem qO9 : (Tryz.prog.info? 9).map (fun i => (i.zero, i.size, i.bytes)) = some (some (.string ⟨#[]⟩), 1, 16) := by kernel_rfl
theorem qQB : ∃ ie, Tryz.prog.info? 9 = some ie ∧ ie.zero = some (.string ⟨#[]⟩) ∧ ie.size = 1 := by
  have h := qO9
  cases hq : Tryz.prog.info? 9 with
  | none => rw [hq] at h; cases h
  | some ie =>
    rw [hq] at h; simp only [Option.map_some, Option.some.injEq, Prod.mk.injEq] at h; exact ⟨ie, rfl, h.1, h.2.1⟩
theorem qPZ (a b : ByteArray) : Instr.fill (fun i => some (i * 1, 1)) ((Array.range (2 * 1)).map ((Value.string ⟨#[]⟩).cells[· % (Value.string ⟨#[]⟩).cells.size]!)) [(0, .string a), (1, .string b)] = some #[.string a, .string b] := by kernel_rfl
theorem qOE : SzT qJZ ≤ 1048576 := of_decide_eq_true (by kernel_rfl)
theorem qKi {w : World} (hW : Wc w) : Calls Tryz.prog 9 #[] w fun e w' => e = .returned (.bool true) ∧ Below w.heap.size w w' := by
 have HW := Lib.hid hW; have HB := Below.refl w.heap.size w; obtain ⟨ie, z, hie1, hie2, hie3, hie4, hzz⟩ := qFJ; subst hzz; obtain ⟨ief, zf, hif1, hif2, hif3, hif4, hzf⟩ := qCo; subst hzf; obtain ⟨ies, his1, his2, his3⟩ := qQB; clear hW; go_enter Tryz.func9, Tryz.ntmps9
 go_wp2_with (first
  | (go_at_call 24; (refine (qIh _ _).mono ?_); rintro e w4 ⟨rfl, hb⟩; replace HB := zT HB hb; (try replace HL := HL.below hb); (try replace HX := HX.below hb); (try replace B1 := zI B1 hb); (try replace B10 := zI B10 hb); (try replace B6 := zI B6 hb); clear hb)
  | (go_at_call 25; (refine (qMn _ _).mono ?_); rintro e w6 ⟨rfl, hb⟩; replace HB := zT HB hb; (try replace HL := HL.below hb); (try replace HX := HX.below hb); (try replace B1 := zI B1 hb); (try replace B10 := zI B10 hb); (try replace B6 := zI B6 hb); clear hb)
  | ((with_reducible refine qAm ?_); refine qAU 2 [(0, .agg (lfJ 2 false 1 ⟨#[]⟩).cells), (1, .agg JV.zero.cells)] (qDK exL).toArray ie _ (by rw [hie3]; exact qPP _ _) rfl 22 25 _ rfl rfl Tryz.underlying22 hie1 hie2 (by rw [hie3]; decide) (by rw [hie3]; decide) ?_; intro w5 hw; have hb := qAD hw; have B10 := (qAC hw).1; have G10 := HB.size; replace HB := zT HB hb; (try replace HL := HL.below hb); (try replace HX := HX.below hb); (try replace B1 := zI B1 hb); (try replace B6 := zI B6 hb); clear hb hw)
  | ((with_reducible refine qAm ?_); refine qAU 2 [(0, .agg (qBB (exB, qBy (some ⟨w4.heap.size, 0, none⟩) 2 exL))), (1, .agg (qBB (exA, lfJ 3 false 0 exT)))] (qCB [(exB, qBy (some ⟨w4.heap.size, 0, none⟩) 2 exL), (exA, lfJ 3 false 0 exT)]).toArray ief _ (by rw [hif3]; exact qPg _ _) rfl 23 52 _ rfl rfl Tryz.underlying23 hif1 hif2 (by rw [hif3]; decide) (by rw [hif3]; decide) ?_; intro w7 hw; have hb := qAD hw; have B15 := (qAC hw).1; have G15 := HB.size; replace HB := zT HB hb; (try replace HL := HL.below hb); (try replace HX := HX.below hb); (try replace B1 := zI B1 hb); (try replace B10 := zI B10 hb); (try replace B6 := zI B6 hb); clear hb hw)
  | ((with_reducible refine qAG ?_); refine qAO 1 rfl rfl 25 rfl rfl (.tmp 16) rfl _ qAY (exV w4.heap.size w6.heap.size).cells rfl rfl qAA rfl (qAP _) ?_; intro w8 hw; have hb := qAD hw; have B1 := (qAC hw).1; have B15b := zI B15 hb; replace HB := zT HB hb; (try replace HL := HL.below hb); (try replace HX := HX.below hb); (try replace B10 := zI B10 hb); (try replace B6 := zI B6 hb); clear hb hw B15)
  | ((with_reducible refine qAR ?_); refine qAL rfl 25 (.tmp 1) rfl _ rfl _ _ _ B1 Tryz.underlying25 rfl qAA ?_)
  | ((with_reducible refine qAT ?_); refine qAK (qKK _ 2 2) rfl _ rfl rfl ?_)
  | ((with_reducible refine qAT ?_); refine qAK (qKa _ 2 2) rfl _ rfl rfl ?_)
  | ((with_reducible refine qAT ?_); refine qAK (qBQ exB (qBy (some ⟨w4.heap.size, 0, none⟩) 2 exL)) rfl _ rfl rfl ?_)
  | ((with_reducible refine qAT ?_); refine qAK (qBQ exA (lfJ 3 false 0 exT)) rfl _ rfl rfl ?_)
  | ((with_reducible refine qAT ?_); refine qAK qBH rfl _ rfl rfl ?_))
 have HL : qAi w8 (qBy (some ⟨w4.heap.size, 0, none⟩) 2 exL) := by
  obtain ⟨A, c, hv, h1, _⟩ := qD7 (qLN (base := w.heap.size) (size := 6) (n := 2) B10 rfl G10 (by decide)) (l := exL) rfl (fun x hx => by
   rcases List.mem_cons.1 hx with rfl | hx
   ·exact qIF mi2 (by unfold I64; decide) mze
   ·obtain rfl : x = JV.zero := by simpa using hx
    exact qNe _) (by decide)
  injection hv with e1 e2 e3; subst e1 e3; exact h1
 have HX : qAi w8 (exV w4.heap.size w6.heap.size) := by
  obtain ⟨A, c, hv, h1, _⟩ := qGl (qLN (base := w.heap.size) (size := 7) (n := 2) B15b rfl G15 (by decide)) (L := [(exB, qBy (some ⟨w4.heap.size, 0, none⟩) 2 exL), (exA, lfJ 3 false 0 exT)]) rfl (fun p hp => by
   rcases List.mem_cons.1 hp with rfl | hp
   ·exact ⟨show exB.size ≤ qAy by decide, HL⟩
   ·obtain rfl : p = (exA, lfJ 3 false 0 exT) := by simpa using hp
    exact ⟨show exA.size ≤ qAy by decide, qIF mi3 mi0 (show exT.size ≤ qAy by decide)⟩) (show 2 * 96 ≤ qAy by decide)
  injection hv with e1 e2 e3; subst e1 e3; exact h1
 clear HL B10 B15b; have HS : Hid (qBz (er (exV w4.heap.size w6.heap.size)) = (0, [123, 34, 97, 34, 58, 34, 195, 169, 92, 110, 34, 44, 34, 98, 34, 58, 91, 49, 44, 110, 117, 108, 108, 93, 125])) := Lib.hid (by rw [qN5]; exact qPC); have HZ : Hid (SzT (er (exV w4.heap.size w6.heap.size)) ≤ 1048576) := Lib.hid (by rw [qN5]; exact qOE); refine (qDg HX HZ.out (Wc.below HB HW.out)).mono ?_; intro e wa hnm; obtain ⟨he, hb⟩ := WrV.yes HS.out hnm; subst he; clear hnm; replace HB := zT HB hb
 (try replace HL := HL.below hb)
 (try replace HX := HX.below hb)
 (try replace B1 := zI B1 hb)
 (try replace B10 := zI B10 hb)
 (try replace B6 := zI B6 hb)
 clear hb
 go_wp2_with (first
  | (go_at_call 24; (refine (qIh _ _).mono ?_); rintro e wb ⟨rfl, hb⟩; replace HB := zT HB hb; (try replace HL := HL.below hb); (try replace HX := HX.below hb); (try replace B1 := zI B1 hb); (try replace B10 := zI B10 hb); (try replace B6 := zI B6 hb); clear hb))
 have HS2 : Hid (qBz (er (lfJ 2 false 9007199254740992 ⟨#[]⟩)) = (8, [])) := Lib.hid (by rw [qJ5]; exact qPT); refine (qDg (qIF mi2 (by unfold I64; decide) mze) (by rw [qJ5, qJ4]; decide) (Wc.below HB HW.out)).mono ?_; intro e wc hnm; obtain ⟨he, hb⟩ := WrV.not HS2.out (by decide) hnm; subst he; clear hnm; replace HB := zT HB hb
 (try replace HL := HL.below hb)
 (try replace HX := HX.below hb)
 (try replace B1 := zI B1 hb)
 (try replace B10 := zI B10 hb)
 (try replace B6 := zI B6 hb)
 clear hb
 go_wp2_with (first
  | ((with_reducible refine qAR ?_); refine qAL rfl 25 (.tmp 1) rfl _ rfl _ _ _ B1 Tryz.underlying25 rfl qAA ?_)
  | ((with_reducible refine qAm ?_); refine qAU 2 [(0, .string exA), (1, .string ⟨#[99]⟩)] #[.string exA, .string ⟨#[99]⟩] ies _ (by rw [his3]; exact qPZ _ _) rfl 37 9 _ rfl rfl Tryz.underlying37 his1 his2 (by rw [his3]; decide) (by rw [his3]; decide) ?_; intro wd hw; have hb := qAD hw; have B29 := (qAC hw).1; replace HB := zT HB hb; (try replace HL := HL.below hb); (try replace HX := HX.below hb); (try replace B1 := zI B1 hb); (try replace B10 := zI B10 hb); (try replace B6 := zI B6 hb); clear hb hw))
 have HNM : qBA wd (some ⟨wc.heap.size, 0, none⟩) 1 0 exN := by
  refine qEd exN 0 (fun i n hi => ?_)
  match i, hi with
  | 0, hi =>
   (obtain rfl : exA = n := by simpa [exN] using hi); exact ⟨⟨_, _, rfl, (B29.cell 0).trans rfl⟩, by decide⟩
  | 1, hi =>
   (obtain rfl : ⟨#[99]⟩ = n := by simpa [exN] using hi); exact ⟨⟨_, _, rfl, (B29.cell 1).trans rfl⟩, by decide⟩
  | i + 2, hi => simp [exN] at hi
 clear B29; refine (qIM (L := exN) HX HZ.out (Wc.below HB HW.out) HNM rfl (by decide)).mono ?_; rintro e we ⟨hb, hp⟩; rw [if_pos (show qJ8 (exV w4.heap.size w6.heap.size) = 0 by unfold qJ8; rw [if_pos (show (exV w4.heap.size w6.heap.size).v.kind = 5 from rfl), HS.out])] at hp; obtain ⟨x, hp, hxj, hxe, _⟩ := hp; subst hp; replace hxe : er x = .mk 5 false 0 ⟨#[]⟩ [] [exB] [.mk 4 false 0 ⟨#[]⟩ [.mk 2 false 1 ⟨#[]⟩ [] [] [], .mk 0 false 0 ⟨#[]⟩ [] [] []] [] []] := hxe.trans (by rw [qN5]; exact qPI); clear HNM; replace HB := zT HB hb
 (try replace HL := HL.below hb)
 (try replace HX := HX.below hb)
 (try replace B1 := zI B1 hb)
 (try replace B10 := zI B10 hb)
 (try replace B6 := zI B6 hb)
 clear hb
 have hxk : x.ns = [exB] ∧ x.v.Fn = 1 := by
  rw [qBs] at hxe; injection hxe with _ _ _ _ _ h1 h2; obtain ⟨l1, l2, l3, _, _⟩ := qCI hxj; exact ⟨h1, by rw [h1] at l3; rw [l2, ← l3]; rfl⟩
 have HXJ := Lib.hid hxj; obtain ⟨bx, ox, nm, hxA, hxn, hxc⟩ := qMa hxj (i := 0) (by have := (qCI hxj).2.1; omega); rw [hxk.1] at hxn; (obtain rfl : exB = nm := by simpa using hxn); have HXF := Lib.hid hxk.2; have HXA := Lib.hid hxA; have HXC := Lib.hid hxc; clear hxe hxk hxA hxn hxc hxj; have he := qM1
 go_wp2_with (first
  | ((with_reducible refine qAG ?_); refine qAO 6 rfl rfl 25 rfl rfl (.tmp 31) rfl _ qAY x.cells rfl rfl qAA rfl (qAP _) ?_; intro wf hw; have hb := qAD hw; have B6 := (qAC hw).1; replace HB := zT HB hb; (try replace HL := HL.below hb); (try replace HX := HX.below hb); (try replace B1 := zI B1 hb); (try replace B10 := zI B10 hb); have hxc2 : wf.cell? ⟨bx, ox, none⟩ = some (.string ⟨#[98]⟩) := (by have h9 := qAB hb HXC.out; rw [Nat.zero_mul, Nat.add_zero] at h9; exact h9); have c6 : wf.cell? ⟨_, 5, none⟩ = some (.slice (some ⟨bx, ox, none⟩) 1 x.v.Fc) := (B6.cell 5).trans (by rw [← HXA.out, ← HXF.out]; rfl); clear hb hw))
 clear c6 hxc2; refine (qIR (s := ⟨#[123, 34, 97, 34, 58, 49, 125]⟩) (Wc.below HB HW.out) (by decide)).mono ?_; rintro e wg ⟨rfl, hb⟩; rw [qPA]; clear B6; replace HB := zT HB hb; clear hb
 go_wp2_with fail
 refine (qIR (s := ⟨#[123, 34, 97, 34, 58, 32, 49, 125]⟩) (Wc.below HB HW.out) (by decide)).mono ?_; rintro e wh ⟨rfl, hb⟩; rw [qPQ]; replace HB := zT HB hb; clear hb; go_wp2; go_ret; exact ⟨rfl, HB⟩
end
end Go.Proofs.YtnjhmnolngdfaaaGreatDoor
