/- Layer 2, the document's reader (coveyref02): four, low. Layer 2, the document's reader (coveyref02): escape. -/
import Derived.Test.YtnjhmnolngdfaaaGreatDoorQ24
import Derived.Test.YtnjhmnolngdfaaaGreatDoorQ02
set_option linter.unusedVariables false
set_option linter.unusedSimpArgs false
set_option maxHeartbeats 16000000
set_option maxRecDepth 100000
namespace Go.Proofs.YtnjhmnolngdfaaaGreatDoor
open Go.RowKit Go.PlainAid
theorem qKp {c : Int} (h0 : 0 ≤ c) (h1 : c ≤ 255) : -1 ≤ qCZ c ∧ qCZ c ≤ 15 := by
  (have HH : qCZ c = if 48 ≤ c ∧ c ≤ 57 then c - 48 else if 97 ≤ c ∧ c ≤ 102 then c - 87 else if 65 ≤ c ∧ c ≤ 70 then c - 55 else -1 := by unfold qCZ qBa; simp); rw [HH]
  repeat' split
  all_goals omega
theorem qIo {s : ByteArray} {n i : Nat} {v : Int} (h : ¬ qCZ (pk s i) < 0) : qAv s (n + 1) i v = qAv s n (i + 1) (16 * v + qCZ (pk s i)) := by
  conv => lhs; unfold qAv
  rw [if_neg h]
theorem qFP {s : ByteArray} {n i : Nat} {v : Int} (h : qCZ (pk s i) < 0) : qAv s (n + 1) i v = .bad 3 i := by
  unfold qAv; rw [if_pos h]
theorem qFK {s : ByteArray} : ∀ (n i : Nat) (v x : Int) (k : Nat), qAv s n i v = .ok x k → k = i + n
  | 0, i, v, x, k, h => by unfold qAv at h; injection h with h1 h2; omega
  | n + 1, i, v, x, k, h => by
    unfold qAv at h
    split at h
    · cases h
    · have := qFK n _ _ _ _ h; omega
theorem qCy {w : World} {r : Nat} {s : ByteArray} {i : Nat} (h : RR w r s i 0 0) (hi : i ≤ s.size) (hs : s.size ≤ 65536) :
    Calls Tryz.prog 114 #[At r] w (qBL (qAv s 4 i 0) r s w qQL qQP) := by
  go_enter Tryz.func114, Tryz.ntmps114; go_wp2
  go_loopw [3, 4] (fun nv iv wr => ∃ (j k : Nat) (n : Int), iv = .int .i64 j ∧ nv = .int .i64 n ∧ j ≤ 4 ∧ k ≤ s.size ∧ 0 ≤ n ∧ n ≤ 65535 ∧ Hid (n < 16 ^ j) ∧ RR wr r s k 0 0 ∧ Hid (qAv s (4 - j) k n = qAv s 4 i 0) ∧ Mv r w wr) (fun _ iv _ => 4 - (intOf iv).toNat)
  case atStart => exact ⟨0, i, 0, rfl, rfl, by decide, hi, by decide, by decide, Lib.hid (by decide), h, Lib.hid rfl, Mv.refl _ _⟩
  case round =>
    obtain ⟨j, k, n, rfl, rfl, hj, hk, hn0, hn1, HN, HR, HS, HM⟩ := hrel; have c0 := HR.c0; have c1 := HR.c1; have f1 := HR.f1; have c2 := HR.c2
    by_cases hj4 : j < 4
    · (have hj5 : (j : Int) < 4 := by omega); have hjj : 4 - j = (4 - (j + 1)) + 1 := by omega
      by_cases hlt : k < s.size
      · have b0 := bt_nonneg s k; have b1 := bt_le s k; have hxb := qKp b0 b1; obtain ⟨x, hx⟩ : ∃ x, x = qCZ (bt s k) := ⟨_, rfl⟩; rw [← hx] at hxb; obtain ⟨hx0, hx1⟩ := hxb; have HX := Lib.hid hx; (have hpx : qCZ (pk s k) = x := by rw [qBh hlt, hx]); clear hx
        by_cases hneg : x < 0
        · have HK : Hid (qAv s 4 i 0 = .bad 3 k) := Lib.hid (by rw [← HS.out, hjj]; exact qFP (by rw [hpx]; exact hneg)); clear hpx hjj
          go_wp2_with (first
            | (go_at_call 72; (with_reducible refine (qAS HR hlt).mono ?_); rintro e w2 ⟨rfl, hr, hm⟩; replace HR := hr; replace HM := HM.trans hm; clear c0 c1 f1 c2 hr hm; have c0 := HR.c0; have c1 := HR.c1; have f1 := HR.f1; have c2 := HR.c2)
            | (go_at_call 137; (with_reducible refine (qE6 _ b0 b1 _).mono ?_); rintro e w5 ⟨rfl, rfl⟩; rw [← HX.out])
            | (go_at_call 73; (with_reducible refine (qAj _ _ HR).mono ?_); rintro e w3 ⟨rfl, hr, hm⟩; clear c0 c1 f1 c2; replace HR := hr; replace HM := HM.trans hm; have c0 := HR.c0; have c1 := HR.c1; have f1 := HR.f1; have c2 := HR.c2))
          go_ret; exact qBL.bad HK.out HM rfl (by decide) HR
        · have HK : Hid (qAv s (4 - (j + 1)) (k + 1) (16 * n + x) = qAv s 4 i 0) := Lib.hid (by rw [← HS.out, hjj, qIo (by rw [hpx]; exact hneg), hpx])
          have hn2 : 16 * n + x ≤ 65535 := by
            have := HN.out; (have : j = 0 ∨ j = 1 ∨ j = 2 ∨ j = 3 := by omega); rcases this with rfl | rfl | rfl | rfl <;> omega
          have HN2 : Hid (16 * n + x < 16 ^ (j + 1)) := Lib.hid (by
            have := HN.out; have : j = 0 ∨ j = 1 ∨ j = 2 ∨ j = 3 := by omega
            rcases this with rfl | rfl | rfl | rfl <;> omega)
          clear hpx hjj
          go_wp2_with (first
            | (go_at_call 72; (with_reducible refine (qAS HR hlt).mono ?_); rintro e w2 ⟨rfl, hr, hm⟩; replace HR := hr; replace HM := HM.trans hm; clear c0 c1 f1 c2 hr hm; have c0 := HR.c0; have c1 := HR.c1; have f1 := HR.f1; have c2 := HR.c2)
            | (go_at_call 137; (with_reducible refine (qE6 _ b0 b1 _).mono ?_); rintro e w5 ⟨rfl, rfl⟩; rw [← HX.out])
            | ((with_reducible refine qAF ?_); refine qAl rfl (.tmp 40) (.tmp 38) rfl rfl (k + 1) (by rfl) HR ?_; intro w4 hr hm; clear c0 c1 f1 c2; replace HR := hr; replace HM := HM.trans hm; clear hr hm; have c0 := HR.c0; have c1 := HR.c1; have f1 := HR.f1; have c2 := HR.c2))
          exact ⟨⟨j + 1, k + 1, 16 * n + x, by go_num, rfl, by omega, by omega, by omega, hn2, HN2, HR, HK, HM⟩, by simp [intOf]; omega⟩
      · have HK : Hid (qAv s 4 i 0 = .bad 3 k) := Lib.hid (by rw [← HS.out, hjj]; exact qFP (by rw [qBb (by omega)]; decide)); clear hjj
        go_wp2_with (first
          | (go_at_call 72; (with_reducible refine (qBT HR hlt).mono ?_); rintro e w2 ⟨rfl, hr, hm⟩; replace HR := hr; replace HM := HM.trans hm; clear c0 c1 f1 c2 hr hm; have c0 := HR.c0; have c1 := HR.c1; have f1 := HR.f1; have c2 := HR.c2)
          | (go_at_call 73; (with_reducible refine (qAj _ _ HR).mono ?_); rintro e w3 ⟨rfl, hr, hm⟩; clear c0 c1 f1 c2; replace HR := hr; replace HM := HM.trans hm; have c0 := HR.c0; have c1 := HR.c1; have f1 := HR.f1; have c2 := HR.c2))
        go_ret; exact qBL.bad HK.out HM rfl (by decide) HR
    · (obtain rfl : j = 4 := by omega); have HK : Hid (qAv s 4 i 0 = .ok n k) := Lib.hid HS.out.symm; go_wp2; go_ret; exact qBL.ok HK.out HM rfl HR
def qGm (s : ByteArray) (k : Nat) : Option Int :=
  if pk s k = 92 ∧ pk s (k + 1) = 117 then match qAv s 4 (k + 2) 0 with
    | .ok m _ => if 56320 ≤ m ∧ m ≤ 57343 then some m else none
    | .bad _ _ => none
  else none
def qJ9 (o : Option Int) (w : World) (e : Ending) (w' : World) : Prop := (match o with
  | some m => e = .returned (.tuple #[.int .i64 m, .bool true])
  | none => ∃ x, e = .returned (.tuple #[.int .i64 x, .bool false])) ∧ Below w.heap.size w w'
theorem qJ9.no {o : Option Int} {w w' : World} {x : Int} (h : o = none) (hb : Below w.heap.size w w') : qJ9 o w (.returned (.tuple #[.int .i64 x, .bool false])) w' := by subst h; exact ⟨⟨x, rfl⟩, hb⟩
theorem qJ9.yes {o : Option Int} {w w' : World} {x : Int} (h : o = some x) (hb : Below w.heap.size w w') : qJ9 o w (.returned (.tuple #[.int .i64 x, .bool true])) w' := by subst h; exact ⟨rfl, hb⟩
theorem qK1 {s : ByteArray} {k : Nat} (h : s.size < k + 6) : qGm s k = none := by
  unfold qGm
  split
  · split
    · rename_i m k2 hm; have h1 := qCc 4 (k + 2) 0 (by omega) m k2 hm; have h2 := qFK 4 (k + 2) 0 m k2 hm; omega
    · rfl
  · rfl
theorem qL2 {s : ByteArray} {k : Nat} (h : ¬ (pk s k = 92 ∧ pk s (k + 1) = 117)) : qGm s k = none := if_neg h
theorem qOV {s : ByteArray} {k : Nat} {c : Int} {p : Nat} (h : qAv s 4 (k + 2) 0 = .bad c p) : qGm s k = none := by
  unfold qGm; rw [h]
  split <;> rfl
theorem qNH {s : ByteArray} {k k2 : Nat} {m : Int} (h : pk s k = 92 ∧ pk s (k + 1) = 117) (hm : qAv s 4 (k + 2) 0 = .ok m k2) : qGm s k = if 56320 ≤ m ∧ m ≤ 57343 then some m else none := by
  unfold qGm; rw [if_pos h, hm]
theorem qEZ {w w' : World} {B n : Nat} (h : Below B w w') : Below B w (w'.drewN n) := ⟨h.os, h.tape, h.output, h.size, h.block⟩
theorem qJI {w : World} {r : Nat} {s : ByteArray} {k : Nat} (h : RR w r s k 0 0) (hk : k ≤ s.size) (hs : s.size ≤ 65536) :
    Calls Tryz.prog 115 #[At r] w (qJ9 (qGm s k) w) := by
  have hbs := get_bt s; have HR := h; have c0 := HR.c0; have c1 := HR.c1; have f1 := HR.f1; have c2 := HR.c2
  by_cases hsh : s.size < k + 6
  · have HK := Lib.hid (qK1 hsh); have g1 : decide ((s.size : Int) < (k : Int) + 6) = true := decide_eq_true (by omega); (have g2 : (s.size : Int) < (k : Int) + 6 := by omega); go_enter Tryz.func115, Tryz.ntmps115; go_wp2
    go_quiet (fail)
    go_wp2; go_ret2; exact qJ9.no HK.out (qEZ (Below.refl _ _))
  · have g1 : decide ((s.size : Int) < (k : Int) + 6) = false := decide_eq_false (by omega); (have g2 : ¬ (s.size : Int) < (k : Int) + 6 := by omega); (have g3 : (k : Int) < (s.size : Int) := by omega); (have g4 : (k : Int) + 1 < (s.size : Int) := by omega); (have g5 : ¬ (k : Int) < 0 := by omega); (have g6 : ((k : Int) + 1).toNat = k + 1 := by omega); (have g7 : 0 ≤ (k : Int) + 1 := by omega); have a0 := bt_nonneg s k; have a1 := bt_le s k; have a2 := bt_nonneg s (k + 1); have a3 := bt_le s (k + 1); have e1 := qBh (s := s) (i := k) (by omega); have e2 := qBh (s := s) (i := k + 1) (by omega); have HM0 := Lib.hid (qL2 (s := s) (k := k)); have HM1 := Lib.hid (fun hh => qNH (s := s) (k := k) (m := 0) (k2 := 0) hh)
    by_cases m1 : bt s k = 92
    · (have q1 : (bt s k == 92) = true := by rw [m1]; rfl); have p1 : (bt s k != 92) = false := by rw [m1]; rfl
      by_cases m2 : bt s (k + 1) = 117
      · (have q2 : (bt s (k + 1) == 117) = true := by rw [m2]; rfl); (have p2 : (bt s (k + 1) != 117) = false := by rw [m2]; rfl); have HMK : Hid (pk s k = 92 ∧ pk s (k + 1) = 117) := Lib.hid ⟨e1.trans m1, e2.trans m2⟩; clear m1 m2 e1 e2 HM0 HM1; go_enter Tryz.func115, Tryz.ntmps115; go_wp2
        go_quiet (fail)
        replace HR := HR.drewN nq; have HB : Below w.heap.size w (w.drewN nq) := qEZ (Below.refl _ _); generalize hwq : World.drewN _ nq = wq at *; clear c0 c1 f1 c2 hwq; go_wp2
        go_loopw [4, 5] (fun nv iv wr => ∃ (j : Nat) (n : Int), iv = .int .i64 j ∧ nv = .int .i64 n ∧ 2 ≤ j ∧ j ≤ 6 ∧ 0 ≤ n ∧ n ≤ 65535 ∧ Hid (n < 16 ^ (j - 2)) ∧ RR wr r s k 0 0 ∧ Hid (qAv s (6 - j) (k + j) n = qAv s 4 (k + 2) 0) ∧ Below w.heap.size w wr) (fun _ iv _ => 6 - (intOf iv).toNat)
        case atStart => exact ⟨2, 0, rfl, rfl, by decide, by decide, by decide, by decide, Lib.hid (by decide), HR, Lib.hid rfl, HB⟩
        case round =>
          clear HR HB g3 g4 g5 g6 g7 g1 g2 a0 a1 a2 a3 q1 q2 p1 p2; obtain ⟨j, n, rfl, rfl, hj2, hj, hn0, hn1, HN, HR, HS, HB⟩ := hrel; have c0 := HR.c0; have c1 := HR.c1; have f1 := HR.f1; have c2 := HR.c2
          by_cases hj4 : j < 6
          · (have hj5 : (j : Int) < 6 := by omega); (have g3 : (k : Int) + (j : Int) < (s.size : Int) := by omega); (have g5 : 0 ≤ (k : Int) + (j : Int) := by omega); (have g6 : ((k : Int) + (j : Int)).toNat = k + j := by omega); have gw : IntKind.i64.wrap ((k : Int) + (j : Int)) = (k : Int) + (j : Int) := IntWalk.i64_in _ ⟨by omega, by omega⟩; (have hjj : 6 - j = (6 - (j + 1)) + 1 := by omega); have b0 := bt_nonneg s (k + j); have b1 := bt_le s (k + j); have hxb := qKp b0 b1; (have hpx : qCZ (pk s (k + j)) = qCZ (bt s (k + j)) := by rw [qBh (by omega)]); have HX : Hid (qCZ (bt s (k + j)) = qCZ (bt s (k + j))) := Lib.hid rfl; obtain ⟨hx0, hx1⟩ := hxb
            by_cases hneg : qCZ (bt s (k + j)) < 0
            · have HK : Hid (qGm s k = none) := Lib.hid (qOV (HS.out.symm.trans (by rw [hjj]; exact qFP (by rw [hpx]; exact hneg)))); clear hpx hjj; go_wp2
              go_quiet ((go_at_call 137; exact Calls.quiet_of_same (qE6 _ b0 b1 _)))
              clear gw; replace HR := HR.drewN nq; replace HB := qEZ (n := nq) HB; generalize hwq : World.drewN _ nq = wq at *; clear c0 c1 f1 c2 hwq; go_wp2; go_ret2; exact qJ9.no HK.out HB
            · have HK : Hid (qAv s (6 - (j + 1)) (k + (j + 1)) (16 * n + qCZ (bt s (k + j))) = qAv s 4 (k + 2) 0) := Lib.hid (by rw [← HS.out, hjj, qIo (by rw [hpx]; exact hneg), hpx]; rfl)
              have hn2 : 16 * n + qCZ (bt s (k + j)) ≤ 65535 := by
                have := HN.out; (have : j = 2 ∨ j = 3 ∨ j = 4 ∨ j = 5 := by omega); rcases this with rfl | rfl | rfl | rfl <;> simp at this <;> omega
              have HN2 : Hid (16 * n + qCZ (bt s (k + j)) < 16 ^ (j + 1 - 2)) := Lib.hid (by
                have := HN.out; have : j = 2 ∨ j = 3 ∨ j = 4 ∨ j = 5 := by omega
                rcases this with rfl | rfl | rfl | rfl <;> simp at * <;> omega)
              clear hpx hjj; go_wp2
              go_quiet ((go_at_call 137; exact Calls.quiet_of_same (qE6 _ b0 b1 _)))
              clear gw; replace HR := HR.drewN nq; replace HB := qEZ (n := nq) HB; generalize hwq : World.drewN _ nq = wq at *; clear c0 c1 f1 c2 hwq; go_wp2; exact ⟨⟨j + 1, 16 * n + qCZ (bt s (k + j)), by go_num, rfl, by omega, by omega, by omega, hn2, HN2, HR, HK, HB⟩, by simp [intOf]; omega⟩
          · (obtain rfl : j = 6 := by omega); have HL := Lib.hid (qNH HMK.out HS.out.symm)
            by_cases l1 : 56320 ≤ n
            · by_cases l2 : n ≤ 57343
              · have HK : Hid (qGm s k = some n) := Lib.hid (by rw [HL.out, if_pos ⟨l1, l2⟩]); clear HL; go_wp2; go_ret2; exact qJ9.yes HK.out HB
              · have HK : Hid (qGm s k = none) := Lib.hid (by rw [HL.out, if_neg (fun hh => l2 hh.2)]); clear HL; go_wp2; go_ret2; exact qJ9.no HK.out HB
            · have HK : Hid (qGm s k = none) := Lib.hid (by rw [HL.out, if_neg (fun hh => l1 hh.1)]); clear HL; go_wp2; go_ret2; exact qJ9.no HK.out HB
      · (have q2 : (bt s (k + 1) == 117) = false := by simpa using m2); (have p2 : (bt s (k + 1) != 117) = true := by simpa using m2); have HK : Hid (qGm s k = none) := Lib.hid (HM0.out (fun hh => m2 (e2.symm.trans hh.2))); clear e1 e2 HM0 HM1; go_enter Tryz.func115, Tryz.ntmps115; go_wp2
        go_quiet (fail)
        go_wp2; go_ret2; exact qJ9.no HK.out (qEZ (Below.refl _ _))
    · (have q1 : (bt s k == 92) = false := by simpa using m1); (have p1 : (bt s k != 92) = true := by simpa using m1); have HK : Hid (qGm s k = none) := Lib.hid (HM0.out (fun hh => m1 (e1.symm.trans hh.1))); clear e1 e2 HM0 HM1; go_enter Tryz.func115, Tryz.ntmps115; go_wp2
      go_quiet (fail)
      go_wp2; go_ret2; exact qJ9.no HK.out (qEZ (Below.refl _ _))
end Go.Proofs.YtnjhmnolngdfaaaGreatDoor
namespace Go.Proofs.YtnjhmnolngdfaaaGreatDoor
open Go.RowKit Go.PlainAid
theorem qJP {s : ByteArray} : ∀ (n i : Nat) (v x : Int) (k : Nat), qAv s n i v = .ok x k → 0 ≤ v → 0 ≤ x ∧ x < (v + 1) * 16 ^ n
 | 0, i, v, x, k, h, h0 => by unfold qAv at h; injection h with h1 h2; subst h1; omega
 | n + 1, i, v, x, k, h, h0 => by
  unfold qAv at h
  split at h
  ·cases h
  ·rename_i hneg
   have hb : qCZ (pk s i) ≤ 15 := by
    have hlt : i < s.size := by
     rcases Nat.lt_or_ge i s.size with h1 | h1
     ·exact h1
     ·rw [qBb h1] at hneg; exact absurd (by decide) hneg
    rw [qBh hlt]; exact (qKp (bt_nonneg s i) (bt_le s i)).2
   have h2 := qJP n _ _ _ _ h (by omega); refine ⟨h2.1, Int.lt_of_lt_of_le h2.2 ?_⟩; rw [Int.pow_succ, Int.mul_comm (16 ^ n) 16, ← Int.mul_assoc]; exact Int.mul_le_mul_of_nonneg_right (by omega) (by have : (0 : Int) < 16 ^ n := Int.pow_pos (by omega); omega)
theorem qEi {s : ByteArray} {i : Nat} {v x : Int} (h : pk s i = v) (hx : qEu v = x) (h0 : 0 ≤ x) : qA0 s i = .ok x (i + 1) := by
  unfold qA0; rw [h, hx, if_pos h0]
theorem qPM {s : ByteArray} {i : Nat} (h : qEu (pk s i) < 0) (h2 : pk s i ≠ 117) : qA0 s i = .bad 3 i := by
  unfold qA0; rw [if_neg (by omega), if_pos h2]
theorem qPp {s : ByteArray} {i : Nat} (h : pk s i = 117) : qA0 s i = match qAv s 4 (i + 1) 0 with
    | .bad c p => .bad c p
    | .ok n k =>
      if n < 55296 ∨ 57343 < n then .ok n k
      else if pk s k = 92 ∧ pk s (k + 1) = 117 then
        match qAv s 4 (k + 2) 0 with
        | .bad _ _ => .bad 7 (i - 1)
        | .ok m k2 => if n ≤ 56319 ∧ 56320 ≤ m ∧ m ≤ 57343 then .ok (65536 + 1024 * (n - 55296) + (m - 56320)) k2 else .bad 7 (i - 1)
      else .bad 7 (i - 1) := by
  conv => lhs; unfold qA0
  rw [h, if_neg (by decide), if_neg (by decide)]; rfl
theorem qJc {s : ByteArray} {i : Nat} (h : pk s i = 117) {c : Int} {p : Nat} (hx : qAv s 4 (i + 1) 0 = .bad c p) : qA0 s i = .bad c p := by rw [qPp h, hx]
theorem qJG {s : ByteArray} {i : Nat} (h : pk s i = 117) {n : Int} {k : Nat} (hx : qAv s 4 (i + 1) 0 = .ok n k) (hn : n < 55296 ∨ 57343 < n) : qA0 s i = .ok n k := by rw [qPp h, hx]; exact if_pos hn
theorem qOC {s : ByteArray} {i : Nat} (h : pk s i = 117) {n m : Int} {k : Nat} (hx : qAv s 4 (i + 1) 0 = .ok n k) (hn : ¬ (n < 55296 ∨ 57343 < n)) (h1 : n ≤ 56319) (hl : qGm s k = some m) : qA0 s i = .ok (65536 + 1024 * (n - 55296) + m - 56320) (k + 6) ∧ 56320 ≤ m ∧ m ≤ 57343 ∧ k + 6 ≤ s.size := by
 unfold qGm at hl
 split at hl
 ·rename_i hm
  split at hl
  ·rename_i m' k2 hm2
   split at hl
   ·rename_i hb; injection hl with hl; subst hl; have he := qFK _ _ _ _ _ hm2; have hg := (qCc 4 (k + 2) 0 (by omega) m' k2 hm2).2; refine ⟨?_, hb.1, hb.2, by omega⟩; rw [qPp h, hx]; show (if n < 55296 ∨ 57343 < n then _ else _) = _; rw [if_neg hn, if_pos hm, hm2]; show (if n ≤ 56319 ∧ 56320 ≤ m' ∧ m' ≤ 57343 then _ else _) = _; rw [if_pos ⟨h1, hb⟩]
    congr 1
    ·omega
   ·cases hl
  ·cases hl
 ·cases hl
theorem qKF {s : ByteArray} {i : Nat} (h : pk s i = 117) {n : Int} {k : Nat} (hx : qAv s 4 (i + 1) 0 = .ok n k) (hn : ¬ (n < 55296 ∨ 57343 < n)) (hl : 56319 < n ∨ qGm s k = none) : qA0 s i = .bad 7 (i - 1) := by
  rw [qPp h, hx]; show (if n < 55296 ∨ 57343 < n then _ else _) = _; rw [if_neg hn]
  split
  · rename_i hm
    split
    · rfl
    · rename_i m k2 hm2; rw [if_neg]; rintro ⟨h1, h2⟩; rcases hl with hl | hl
      · omega
      · unfold qGm at hl; rw [if_pos hm, hm2] at hl; simp [h2] at hl
  · rfl
def qNF (w : World) (x : Int) (e : Ending) (w' : World) : Prop := ∃ g, w.heap.size ≤ g ∧ e = .returned (.slice (some ⟨g, 0, none⟩) (Lib.runeCells x).length (Lib.runeCells x).length) ∧ qAW w' g 5 (Lib.runeCells x).toArray
abbrev qQc (e : Ending) : Prop := e = .returned (.slice none 0 0)
theorem qNF.of {w w1 w' : World} {x : Int} {e : Ending} (h : qMD (Lib.runeCells x) w1 e w') (hm : w.heap.size ≤ w1.heap.size) : qNF w x e w' := by
  obtain ⟨g, hg, he, hI, _⟩ := h; exact ⟨g, Nat.le_trans hm hg, he, hI⟩
theorem qDU {w w1 : World} {x : Int} {arr : Array Value} (hx : 0 ≤ x ∧ x < 128) (ha : arr = #[.int .u8 x]) (hm : w.heap.size ≤ w1.heap.size) : qNF w x (.returned (.slice (some ⟨w1.heap.size, 0, none⟩) 1 1)) (w1.alloc (.cells arr 5)) := by
  (have hr : Lib.runeCells x = [.int .u8 x] := by unfold Lib.runeCells; rw [Lib.encodeRuneZ_one (by omega) (by omega)]; rfl); exact qNF.of (qMD.mk (by rw [hr]; rfl) (by rw [hr, ha])) hm
theorem qBd {w : World} {r : Nat} {s : ByteArray} {i : Nat} {c p : Int} (h : RR w r s i c p) (o : Obj) : RR (w.alloc o) r s i c p ∧ Mv r w (w.alloc o) := ⟨qAW.alloc h o, Mv.of ((Below.refl _ _).alloc (Nat.le_refl _) _)⟩
theorem qJB {w : World} {r : Nat} {s : ByteArray} {i f : Nat} {x : Int} (h : RR w r s i 0 0) (hi : i ≤ s.size) (hs : s.size ≤ 65536) (hf : f + 1 = i) (hx : x = f) :
    Calls Tryz.prog 92 #[At r, .int .i64 x] w (qBL (qA0 s i) r s w (qNF w) qQc) := by
  subst hx; have HR := h; have HM := Mv.refl r w; have c0 := HR.c0; have c1 := HR.c1; have f1 := HR.f1; have c2 := HR.c2; have HF : Hid (i - 1 = f) := Lib.hid (by omega); clear hf
  by_cases hlt : i < s.size
  · have a0 := bt_nonneg s i; have a1 := bt_le s i; have hpk := qBh hlt; obtain ⟨k, hk⟩ : ∃ k, k = i + 1 := ⟨_, rfl⟩; (have hks : k ≤ s.size := by omega); (have hk1 : 1 ≤ k := by omega); have HK1 := Lib.hid hk
    by_cases v34 : bt s i = 34
    · have HK : Hid (qA0 s i = .ok 34 k) := Lib.hid (by rw [hk]; exact qEi (hpk.trans v34) (by decide) (by decide)); have HV := Lib.hid v34; clear v34 hpk hk a0 a1; go_enter Tryz.func92, Tryz.ntmps92
      go_wp2_with (first
        | (go_at_call 72; (with_reducible refine (qAS HR hlt).mono ?_); rintro e w2 ⟨rfl, hr, hm⟩; replace HR := hr; replace HM := HM.trans hm; clear c0 c1 f1 c2 hr hm; have c0 := HR.c0; have c1 := HR.c1; have f1 := HR.f1; have c2 := HR.c2; rw [HV.out])
        | ((with_reducible refine qAF ?_); refine qAl rfl (.tmp 29) (.tmp 27) rfl rfl k (by rw [HK1.out]; rfl) HR ?_; intro w4 hr hm; clear c0 c1 f1 c2; replace HR := hr; replace HM := HM.trans hm; clear hr hm; have c0 := HR.c0; have c1 := HR.c1; have f1 := HR.f1; have c2 := HR.c2))
      go_ret; exact qBL.ok HK.out (HM.trans (qBd HR _).2) (qDU (by decide) rfl HM.size) (qBd HR _).1
    · by_cases v92 : bt s i = 92
      · have HK : Hid (qA0 s i = .ok 92 k) := Lib.hid (by rw [hk]; exact qEi (hpk.trans v92) (by decide) (by decide)); have HV := Lib.hid v92; clear v92 hpk hk a0 a1; go_enter Tryz.func92, Tryz.ntmps92
        go_wp2_with (first
          | (go_at_call 72; (with_reducible refine (qAS HR hlt).mono ?_); rintro e w2 ⟨rfl, hr, hm⟩; replace HR := hr; replace HM := HM.trans hm; clear c0 c1 f1 c2 hr hm; have c0 := HR.c0; have c1 := HR.c1; have f1 := HR.f1; have c2 := HR.c2; rw [HV.out])
          | ((with_reducible refine qAF ?_); refine qAl rfl (.tmp 29) (.tmp 27) rfl rfl k (by rw [HK1.out]; rfl) HR ?_; intro w4 hr hm; clear c0 c1 f1 c2; replace HR := hr; replace HM := HM.trans hm; clear hr hm; have c0 := HR.c0; have c1 := HR.c1; have f1 := HR.f1; have c2 := HR.c2))
        go_ret; exact qBL.ok HK.out (HM.trans (qBd HR _).2) (qDU (by decide) rfl HM.size) (qBd HR _).1
      · by_cases v47 : bt s i = 47
        · have HK : Hid (qA0 s i = .ok 47 k) := Lib.hid (by rw [hk]; exact qEi (hpk.trans v47) (by decide) (by decide)); have HV := Lib.hid v47; clear v47 hpk hk a0 a1; go_enter Tryz.func92, Tryz.ntmps92
          go_wp2_with (first
            | (go_at_call 72; (with_reducible refine (qAS HR hlt).mono ?_); rintro e w2 ⟨rfl, hr, hm⟩; replace HR := hr; replace HM := HM.trans hm; clear c0 c1 f1 c2 hr hm; have c0 := HR.c0; have c1 := HR.c1; have f1 := HR.f1; have c2 := HR.c2; rw [HV.out])
            | ((with_reducible refine qAF ?_); refine qAl rfl (.tmp 29) (.tmp 27) rfl rfl k (by rw [HK1.out]; rfl) HR ?_; intro w4 hr hm; clear c0 c1 f1 c2; replace HR := hr; replace HM := HM.trans hm; clear hr hm; have c0 := HR.c0; have c1 := HR.c1; have f1 := HR.f1; have c2 := HR.c2))
          go_ret; exact qBL.ok HK.out (HM.trans (qBd HR _).2) (qDU (by decide) rfl HM.size) (qBd HR _).1
        · by_cases v98 : bt s i = 98
          · have HK : Hid (qA0 s i = .ok 8 k) := Lib.hid (by rw [hk]; exact qEi (hpk.trans v98) (by decide) (by decide)); have HV := Lib.hid v98; clear v98 hpk hk a0 a1; go_enter Tryz.func92, Tryz.ntmps92
            go_wp2_with (first
              | (go_at_call 72; (with_reducible refine (qAS HR hlt).mono ?_); rintro e w2 ⟨rfl, hr, hm⟩; replace HR := hr; replace HM := HM.trans hm; clear c0 c1 f1 c2 hr hm; have c0 := HR.c0; have c1 := HR.c1; have f1 := HR.f1; have c2 := HR.c2; rw [HV.out])
              | ((with_reducible refine qAF ?_); refine qAl rfl (.tmp 29) (.tmp 27) rfl rfl k (by rw [HK1.out]; rfl) HR ?_; intro w4 hr hm; clear c0 c1 f1 c2; replace HR := hr; replace HM := HM.trans hm; clear hr hm; have c0 := HR.c0; have c1 := HR.c1; have f1 := HR.f1; have c2 := HR.c2))
            go_ret; exact qBL.ok HK.out (HM.trans (qBd HR _).2) (qDU (by decide) rfl HM.size) (qBd HR _).1
          · by_cases v102 : bt s i = 102
            · have HK : Hid (qA0 s i = .ok 12 k) := Lib.hid (by rw [hk]; exact qEi (hpk.trans v102) (by decide) (by decide)); have HV := Lib.hid v102; clear v102 hpk hk a0 a1; go_enter Tryz.func92, Tryz.ntmps92
              go_wp2_with (first
                | (go_at_call 72; (with_reducible refine (qAS HR hlt).mono ?_); rintro e w2 ⟨rfl, hr, hm⟩; replace HR := hr; replace HM := HM.trans hm; clear c0 c1 f1 c2 hr hm; have c0 := HR.c0; have c1 := HR.c1; have f1 := HR.f1; have c2 := HR.c2; rw [HV.out])
                | ((with_reducible refine qAF ?_); refine qAl rfl (.tmp 29) (.tmp 27) rfl rfl k (by rw [HK1.out]; rfl) HR ?_; intro w4 hr hm; clear c0 c1 f1 c2; replace HR := hr; replace HM := HM.trans hm; clear hr hm; have c0 := HR.c0; have c1 := HR.c1; have f1 := HR.f1; have c2 := HR.c2))
              go_ret; exact qBL.ok HK.out (HM.trans (qBd HR _).2) (qDU (by decide) rfl HM.size) (qBd HR _).1
            · by_cases v110 : bt s i = 110
              · have HK : Hid (qA0 s i = .ok 10 k) := Lib.hid (by rw [hk]; exact qEi (hpk.trans v110) (by decide) (by decide)); have HV := Lib.hid v110; clear v110 hpk hk a0 a1; go_enter Tryz.func92, Tryz.ntmps92
                go_wp2_with (first
                  | (go_at_call 72; (with_reducible refine (qAS HR hlt).mono ?_); rintro e w2 ⟨rfl, hr, hm⟩; replace HR := hr; replace HM := HM.trans hm; clear c0 c1 f1 c2 hr hm; have c0 := HR.c0; have c1 := HR.c1; have f1 := HR.f1; have c2 := HR.c2; rw [HV.out])
                  | ((with_reducible refine qAF ?_); refine qAl rfl (.tmp 29) (.tmp 27) rfl rfl k (by rw [HK1.out]; rfl) HR ?_; intro w4 hr hm; clear c0 c1 f1 c2; replace HR := hr; replace HM := HM.trans hm; clear hr hm; have c0 := HR.c0; have c1 := HR.c1; have f1 := HR.f1; have c2 := HR.c2))
                go_ret; exact qBL.ok HK.out (HM.trans (qBd HR _).2) (qDU (by decide) rfl HM.size) (qBd HR _).1
              · by_cases v114 : bt s i = 114
                · have HK : Hid (qA0 s i = .ok 13 k) := Lib.hid (by rw [hk]; exact qEi (hpk.trans v114) (by decide) (by decide)); have HV := Lib.hid v114; clear v114 hpk hk a0 a1; go_enter Tryz.func92, Tryz.ntmps92
                  go_wp2_with (first
                    | (go_at_call 72; (with_reducible refine (qAS HR hlt).mono ?_); rintro e w2 ⟨rfl, hr, hm⟩; replace HR := hr; replace HM := HM.trans hm; clear c0 c1 f1 c2 hr hm; have c0 := HR.c0; have c1 := HR.c1; have f1 := HR.f1; have c2 := HR.c2; rw [HV.out])
                    | ((with_reducible refine qAF ?_); refine qAl rfl (.tmp 29) (.tmp 27) rfl rfl k (by rw [HK1.out]; rfl) HR ?_; intro w4 hr hm; clear c0 c1 f1 c2; replace HR := hr; replace HM := HM.trans hm; clear hr hm; have c0 := HR.c0; have c1 := HR.c1; have f1 := HR.f1; have c2 := HR.c2))
                  go_ret; exact qBL.ok HK.out (HM.trans (qBd HR _).2) (qDU (by decide) rfl HM.size) (qBd HR _).1
                · by_cases v116 : bt s i = 116
                  · have HK : Hid (qA0 s i = .ok 9 k) := Lib.hid (by rw [hk]; exact qEi (hpk.trans v116) (by decide) (by decide)); have HV := Lib.hid v116; clear v116 hpk hk a0 a1; go_enter Tryz.func92, Tryz.ntmps92
                    go_wp2_with (first
                      | (go_at_call 72; (with_reducible refine (qAS HR hlt).mono ?_); rintro e w2 ⟨rfl, hr, hm⟩; replace HR := hr; replace HM := HM.trans hm; clear c0 c1 f1 c2 hr hm; have c0 := HR.c0; have c1 := HR.c1; have f1 := HR.f1; have c2 := HR.c2; rw [HV.out])
                      | ((with_reducible refine qAF ?_); refine qAl rfl (.tmp 29) (.tmp 27) rfl rfl k (by rw [HK1.out]; rfl) HR ?_; intro w4 hr hm; clear c0 c1 f1 c2; replace HR := hr; replace HM := HM.trans hm; clear hr hm; have c0 := HR.c0; have c1 := HR.c1; have f1 := HR.f1; have c2 := HR.c2))
                    go_ret; exact qBL.ok HK.out (HM.trans (qBd HR _).2) (qDU (by decide) rfl HM.size) (qBd HR _).1
                  · by_cases v117 : bt s i = 117
                    · have HP : Hid (pk s i = 117) := Lib.hid (hpk.trans v117); have HV := Lib.hid v117; clear v117 hpk hk a0 a1
                      cases ho : qAv s 4 k 0 with
                      | bad c p =>
                        have HK : Hid (qA0 s i = .bad c p) := Lib.hid (qJc HP.out (by rw [← HK1.out]; exact ho)); have HO := Lib.hid ho; clear ho; go_enter Tryz.func92, Tryz.ntmps92
                        go_wp2_with (first
                          | (go_at_call 72; (with_reducible refine (qAS HR hlt).mono ?_); rintro e w2 ⟨rfl, hr, hm⟩; replace HR := hr; replace HM := HM.trans hm; clear c0 c1 f1 c2 hr hm; have c0 := HR.c0; have c1 := HR.c1; have f1 := HR.f1; have c2 := HR.c2; rw [HV.out])
                          | ((with_reducible refine qAF ?_); refine qAl rfl (.tmp 29) (.tmp 27) rfl rfl k (by rw [HK1.out]; rfl) HR ?_; intro w4 hr hm; clear c0 c1 f1 c2; replace HR := hr; replace HM := HM.trans hm; clear hr hm; have c0 := HR.c0; have c1 := HR.c1; have f1 := HR.f1; have c2 := HR.c2)
                          | (go_at_call 114; (with_reducible refine (qCy HR hks hs).mono ?_); rw [HO.out]; rintro e w5 ⟨hm, rfl, hc, i2, hr⟩; have hc2 : (c == 0) = false := (by simpa using hc); have hc3 : (c != 0) = true := (by simpa using hc); have HC := Lib.hid hc; clear hc; clear c0 c1 f1 c2; replace HR := hr; replace HM := HM.trans hm; clear hr hm; have c0 := HR.c0; have c1 := HR.c1; have f1 := HR.f1; have c2 := HR.c2))
                        go_ret; exact qBL.bad HK.out HM rfl HC.out HR
                      | ok n k2 =>
                        have hg := qCc 4 k 0 (by decide) n k2 ho; have hnb := qJP 4 k 0 n k2 ho (Int.le_refl _); have hn0 : 0 ≤ n := hnb.1; (have hn1 : n ≤ 65535 := by have := hnb.2; simp at this; omega); have hk2s : k2 ≤ s.size := hg.2; have HO := Lib.hid ho; (have ho2 : qAv s 4 (i + 1) 0 = .ok n k2 := by rw [← HK1.out]; exact ho); have HO2 := Lib.hid ho2; clear ho hg hnb ho2
                        by_cases n1 : n < 55296
                        · have HK : Hid (qA0 s i = .ok n k2) := Lib.hid (qJG HP.out HO2.out (by omega)); go_enter Tryz.func92, Tryz.ntmps92
                          go_wp2_with (first
                            | (go_at_call 72; (with_reducible refine (qAS HR hlt).mono ?_); rintro e w2 ⟨rfl, hr, hm⟩; replace HR := hr; replace HM := HM.trans hm; clear c0 c1 f1 c2 hr hm; have c0 := HR.c0; have c1 := HR.c1; have f1 := HR.f1; have c2 := HR.c2; rw [HV.out])
                            | ((with_reducible refine qAF ?_); refine qAl rfl (.tmp 29) (.tmp 27) rfl rfl k (by rw [HK1.out]; rfl) HR ?_; intro w4 hr hm; clear c0 c1 f1 c2; replace HR := hr; replace HM := HM.trans hm; clear hr hm; have c0 := HR.c0; have c1 := HR.c1; have f1 := HR.f1; have c2 := HR.c2)
                            | (go_at_call 114; (with_reducible refine (qCy HR hks hs).mono ?_); rw [HO.out]; rintro e w5 ⟨hm, rfl, hr⟩; clear c0 c1 f1 c2; replace HR := hr; replace HM := HM.trans hm; clear hr hm; have c0 := HR.c0; have c1 := HR.c1; have f1 := HR.f1; have c2 := HR.c2)
                            | (go_at_call 93; (refine (qBn (p := n) (by unfold qDp; omega) _).mono ?_); rintro e w6 hn; have hms := HM.size; obtain ⟨g, hg, rfl, hI, hb⟩ := hn; have hes : qNF w (n) (.returned (.slice (some ⟨g, 0, none⟩) (Lib.runeCells (n)).length (Lib.runeCells (n)).length)) w6 := ⟨g, Nat.le_trans hms hg, rfl, hI⟩; have HES := Lib.hid hes; clear hes hI hg; replace HR := HR.below hb; replace HM := HM.trans (Mv.of hb); clear hb c0 c1 f1 c2))
                          go_ret; exact qBL.ok HK.out HM HES.out HR
                        · by_cases n2 : 57343 < n
                          · have HK : Hid (qA0 s i = .ok n k2) := Lib.hid (qJG HP.out HO2.out (by omega)); go_enter Tryz.func92, Tryz.ntmps92
                            go_wp2_with (first
                              | (go_at_call 72; (with_reducible refine (qAS HR hlt).mono ?_); rintro e w2 ⟨rfl, hr, hm⟩; replace HR := hr; replace HM := HM.trans hm; clear c0 c1 f1 c2 hr hm; have c0 := HR.c0; have c1 := HR.c1; have f1 := HR.f1; have c2 := HR.c2; rw [HV.out])
                              | ((with_reducible refine qAF ?_); refine qAl rfl (.tmp 29) (.tmp 27) rfl rfl k (by rw [HK1.out]; rfl) HR ?_; intro w4 hr hm; clear c0 c1 f1 c2; replace HR := hr; replace HM := HM.trans hm; clear hr hm; have c0 := HR.c0; have c1 := HR.c1; have f1 := HR.f1; have c2 := HR.c2)
                              | (go_at_call 114; (with_reducible refine (qCy HR hks hs).mono ?_); rw [HO.out]; rintro e w5 ⟨hm, rfl, hr⟩; clear c0 c1 f1 c2; replace HR := hr; replace HM := HM.trans hm; clear hr hm; have c0 := HR.c0; have c1 := HR.c1; have f1 := HR.f1; have c2 := HR.c2)
                              | (go_at_call 93; (refine (qBn (p := n) (by unfold qDp; omega) _).mono ?_); rintro e w6 hn; have hms := HM.size; obtain ⟨g, hg, rfl, hI, hb⟩ := hn; have hes : qNF w (n) (.returned (.slice (some ⟨g, 0, none⟩) (Lib.runeCells (n)).length (Lib.runeCells (n)).length)) w6 := ⟨g, Nat.le_trans hms hg, rfl, hI⟩; have HES := Lib.hid hes; clear hes hI hg; replace HR := HR.below hb; replace HM := HM.trans (Mv.of hb); clear hb c0 c1 f1 c2))
                            go_ret; exact qBL.ok HK.out HM HES.out HR
                          · by_cases n3 : n ≤ 56319
                            · cases hl : qGm s k2 with
                              | none =>
                                have HK : Hid (qA0 s i = .bad 7 f) := Lib.hid (by rw [qKF HP.out HO2.out (by omega) (.inr hl), HF.out]); have HL := Lib.hid hl; clear hl; go_enter Tryz.func92, Tryz.ntmps92
                                go_wp2_with (first
                                  | (go_at_call 72; (with_reducible refine (qAS HR hlt).mono ?_); rintro e w2 ⟨rfl, hr, hm⟩; replace HR := hr; replace HM := HM.trans hm; clear c0 c1 f1 c2 hr hm; have c0 := HR.c0; have c1 := HR.c1; have f1 := HR.f1; have c2 := HR.c2; rw [HV.out])
                                  | ((with_reducible refine qAF ?_); refine qAl rfl (.tmp 29) (.tmp 27) rfl rfl k (by rw [HK1.out]; rfl) HR ?_; intro w4 hr hm; clear c0 c1 f1 c2; replace HR := hr; replace HM := HM.trans hm; clear hr hm; have c0 := HR.c0; have c1 := HR.c1; have f1 := HR.f1; have c2 := HR.c2)
                                  | (go_at_call 114; (with_reducible refine (qCy HR hks hs).mono ?_); rw [HO.out]; rintro e w5 ⟨hm, rfl, hr⟩; clear c0 c1 f1 c2; replace HR := hr; replace HM := HM.trans hm; clear hr hm; have c0 := HR.c0; have c1 := HR.c1; have f1 := HR.f1; have c2 := HR.c2)
                                  | (go_at_call 115; (with_reducible refine (qJI HR hk2s hs).mono ?_); rw [HL.out]; rintro e w7 ⟨⟨x, rfl⟩, hb⟩; replace HR := HR.below hb; replace HM := HM.trans (Mv.of hb); clear hb c0 c1 f1 c2; have c0 := HR.c0; have c1 := HR.c1; have f1 := HR.f1; have c2 := HR.c2)
                                  | (go_at_call 73; (with_reducible refine (qAj _ _ HR).mono ?_); rintro e w3 ⟨rfl, hr, hm⟩; clear c0 c1 f1 c2; replace HR := hr; replace HM := HM.trans hm; have c0 := HR.c0; have c1 := HR.c1; have f1 := HR.f1; have c2 := HR.c2))
                                go_ret; exact qBL.bad HK.out HM rfl (by decide) HR
                              | some m =>
                                obtain ⟨hp1, hp2, hp3, hp4⟩ := qOC HP.out HO2.out (by omega) n3 hl; have HK := Lib.hid hp1; have HL := Lib.hid hl; clear hl hp1; go_enter Tryz.func92, Tryz.ntmps92
                                go_wp2_with (first
                                  | (go_at_call 72; (with_reducible refine (qAS HR hlt).mono ?_); rintro e w2 ⟨rfl, hr, hm⟩; replace HR := hr; replace HM := HM.trans hm; clear c0 c1 f1 c2 hr hm; have c0 := HR.c0; have c1 := HR.c1; have f1 := HR.f1; have c2 := HR.c2; rw [HV.out])
                                  | ((with_reducible refine qAF ?_); refine qAl rfl (.tmp 29) (.tmp 27) rfl rfl k (by rw [HK1.out]; rfl) HR ?_; intro w4 hr hm; clear c0 c1 f1 c2; replace HR := hr; replace HM := HM.trans hm; clear hr hm; have c0 := HR.c0; have c1 := HR.c1; have f1 := HR.f1; have c2 := HR.c2)
                                  | (go_at_call 114; (with_reducible refine (qCy HR hks hs).mono ?_); rw [HO.out]; rintro e w5 ⟨hm, rfl, hr⟩; clear c0 c1 f1 c2; replace HR := hr; replace HM := HM.trans hm; clear hr hm; have c0 := HR.c0; have c1 := HR.c1; have f1 := HR.f1; have c2 := HR.c2)
                                  | (go_at_call 115; (with_reducible refine (qJI HR hk2s hs).mono ?_); rw [HL.out]; rintro e w7 ⟨rfl, hb⟩; replace HR := HR.below hb; replace HM := HM.trans (Mv.of hb); clear hb c0 c1 f1 c2; have c0 := HR.c0; have c1 := HR.c1; have f1 := HR.f1; have c2 := HR.c2)
                                  | ((with_reducible refine qAF ?_); refine qAl rfl (.tmp 81) (.tmp 79) rfl rfl (k2 + 6) (by rfl) HR ?_; intro w4 hr hm; clear c0 c1 f1 c2; replace HR := hr; replace HM := HM.trans hm; clear hr hm; have c0 := HR.c0; have c1 := HR.c1; have f1 := HR.f1; have c2 := HR.c2)
                                  | (go_at_call 93; (refine (qBn (p := 65536 + 1024 * (n - 55296) + m - 56320) (by unfold qDp; omega) _).mono ?_); rintro e w6 hn; have hms := HM.size; obtain ⟨g, hg, rfl, hI, hb⟩ := hn; have hes : qNF w (65536 + 1024 * (n - 55296) + m - 56320) (.returned (.slice (some ⟨g, 0, none⟩) (Lib.runeCells (65536 + 1024 * (n - 55296) + m - 56320)).length (Lib.runeCells (65536 + 1024 * (n - 55296) + m - 56320)).length)) w6 := ⟨g, Nat.le_trans hms hg, rfl, hI⟩; have HES := Lib.hid hes; clear hes hI hg; replace HR := HR.below hb; replace HM := HM.trans (Mv.of hb); clear hb c0 c1 f1 c2))
                                go_ret; exact qBL.ok HK.out HM HES.out HR
                            · have HK : Hid (qA0 s i = .bad 7 f) := Lib.hid (by rw [qKF HP.out HO2.out (by omega) (.inl (by omega)), HF.out]); go_enter Tryz.func92, Tryz.ntmps92
                              go_wp2_with (first
                                | (go_at_call 72; (with_reducible refine (qAS HR hlt).mono ?_); rintro e w2 ⟨rfl, hr, hm⟩; replace HR := hr; replace HM := HM.trans hm; clear c0 c1 f1 c2 hr hm; have c0 := HR.c0; have c1 := HR.c1; have f1 := HR.f1; have c2 := HR.c2; rw [HV.out])
                                | ((with_reducible refine qAF ?_); refine qAl rfl (.tmp 29) (.tmp 27) rfl rfl k (by rw [HK1.out]; rfl) HR ?_; intro w4 hr hm; clear c0 c1 f1 c2; replace HR := hr; replace HM := HM.trans hm; clear hr hm; have c0 := HR.c0; have c1 := HR.c1; have f1 := HR.f1; have c2 := HR.c2)
                                | (go_at_call 114; (with_reducible refine (qCy HR hks hs).mono ?_); rw [HO.out]; rintro e w5 ⟨hm, rfl, hr⟩; clear c0 c1 f1 c2; replace HR := hr; replace HM := HM.trans hm; clear hr hm; have c0 := HR.c0; have c1 := HR.c1; have f1 := HR.f1; have c2 := HR.c2)
                                | (go_at_call 73; (with_reducible refine (qAj _ _ HR).mono ?_); rintro e w3 ⟨rfl, hr, hm⟩; clear c0 c1 f1 c2; replace HR := hr; replace HM := HM.trans hm; have c0 := HR.c0; have c1 := HR.c1; have f1 := HR.f1; have c2 := HR.c2))
                              go_ret; exact qBL.bad HK.out HM rfl (by decide) HR
                    · (have q34 : (bt s i == 34) = false := by simpa using v34); (have q92 : (bt s i == 92) = false := by simpa using v92); (have q47 : (bt s i == 47) = false := by simpa using v47); (have q98 : (bt s i == 98) = false := by simpa using v98); (have q102 : (bt s i == 102) = false := by simpa using v102); (have q110 : (bt s i == 110) = false := by simpa using v110); (have q114 : (bt s i == 114) = false := by simpa using v114); (have q116 : (bt s i == 116) = false := by simpa using v116); (have q117 : (bt s i == 117) = false := by simpa using v117); have HK : Hid (qA0 s i = .bad 3 i) := Lib.hid (qPM (by rw [hpk]; unfold qEu; simp [v34, v92, v47, v98, v102, v110, v114, v116]) (by rw [hpk]; exact v117)); (have hi0 : (k : Int) - 1 = i := by omega); have HI0 := Lib.hid hi0; clear hk hpk hi0 v34 v92 v47 v98 v102 v110 v114 v116 v117; go_enter Tryz.func92, Tryz.ntmps92
                      go_wp2_with (first
                        | (go_at_call 72; (with_reducible refine (qAS HR hlt).mono ?_); rintro e w2 ⟨rfl, hr, hm⟩; replace HR := hr; replace HM := HM.trans hm; clear c0 c1 f1 c2 hr hm; have c0 := HR.c0; have c1 := HR.c1; have f1 := HR.f1; have c2 := HR.c2)
                        | ((with_reducible refine qAF ?_); refine qAl rfl (.tmp 29) (.tmp 27) rfl rfl k (by rw [HK1.out]; rfl) HR ?_; intro w4 hr hm; clear c0 c1 f1 c2; replace HR := hr; replace HM := HM.trans hm; clear hr hm; have c0 := HR.c0; have c1 := HR.c1; have f1 := HR.f1; have c2 := HR.c2)
                        | (go_at_call 73; (with_reducible refine (qAj _ _ HR).mono ?_); rw [HI0.out]; rintro e w3 ⟨rfl, hr, hm⟩; clear c0 c1 f1 c2; replace HR := hr; replace HM := HM.trans hm; have c0 := HR.c0; have c1 := HR.c1; have f1 := HR.f1; have c2 := HR.c2))
                      go_ret; exact qBL.bad HK.out HM rfl (by decide) HR
  · have HK : Hid (qA0 s i = .bad 3 i) := Lib.hid (qPM (by rw [qBb (by omega)]; decide) (by rw [qBb (by omega)]; decide)); go_enter Tryz.func92, Tryz.ntmps92
    go_wp2_with (first
      | (go_at_call 72; (with_reducible refine (qBT HR hlt).mono ?_); rintro e w2 ⟨rfl, hr, hm⟩; replace HR := hr; replace HM := HM.trans hm; clear c0 c1 f1 c2 hr hm; have c0 := HR.c0; have c1 := HR.c1; have f1 := HR.f1; have c2 := HR.c2)
      | (go_at_call 73; (with_reducible refine (qAj _ _ HR).mono ?_); rintro e w3 ⟨rfl, hr, hm⟩; clear c0 c1 f1 c2; replace HR := hr; replace HM := HM.trans hm; have c0 := HR.c0; have c1 := HR.c1; have f1 := HR.f1; have c2 := HR.c2))
    go_ret; exact qBL.bad HK.out HM rfl (by decide) HR
end Go.Proofs.YtnjhmnolngdfaaaGreatDoor
