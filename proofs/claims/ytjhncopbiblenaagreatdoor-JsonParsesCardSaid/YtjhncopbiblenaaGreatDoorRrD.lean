/- Layer 2, the document's reader (coveyref02): four, low. -/
import Derived.Test.YtjhncopbiblenaaGreatDoorRrC
namespace Go.Proofs.YtjhncopbiblenaaGreatDoor
open Go.RowKit Go.PlainAid
set_option linter.unusedVariables false
set_option linter.unusedSimpArgs false
theorem hex_bd {c : Int} (h0 : 0 ≤ c) (h1 : c ≤ 255) : -1 ≤ hexI c ∧ hexI c ≤ 15 := by
  have HH : hexI c = if 48 ≤ c ∧ c ≤ 57 then c - 48 else if 97 ≤ c ∧ c ≤ 102 then c - 87 else if 65 ≤ c ∧ c ≤ 70 then c - 55 else -1 := by unfold hexI digI; simp
  rw [HH]
  repeat' split
  all_goals omega
theorem hexTo_go {s : ByteArray} {n i : Nat} {v : Int} (h : ¬ hexI (pk s i) < 0) : hexTo s (n + 1) i v = hexTo s n (i + 1) (16 * v + hexI (pk s i)) := by
  conv => lhs; unfold hexTo
  rw [if_neg h]
theorem hexTo_bad {s : ByteArray} {n i : Nat} {v : Int} (h : hexI (pk s i) < 0) : hexTo s (n + 1) i v = .bad 3 i := by
  unfold hexTo
  rw [if_pos h]
theorem hexTo_end {s : ByteArray} : ∀ (n i : Nat) (v x : Int) (k : Nat), hexTo s n i v = .ok x k → k = i + n
  | 0, i, v, x, k, h => by unfold hexTo at h; injection h with h1 h2; omega
  | n + 1, i, v, x, k, h => by
    unfold hexTo at h
    split at h
    · cases h
    · have := hexTo_end n _ _ _ _ h; omega
set_option maxRecDepth 10000 in
set_option maxHeartbeats 8000000 in
theorem rfour_any {w : World} {r : Nat} {s : ByteArray} {i : Nat} (h : RR w r s i 0 0) (hi : i ≤ s.size) (hs : s.size ≤ 65536) :
    Calls Tryz.prog 70 #[At r] w (RGot (hexTo s 4 i 0) r s w I64V I64N) := by
  go_enter Tryz.func70, Tryz.ntmps70
  go_wp2
  go_loopw [3, 4] (fun nv iv wr => ∃ (j k : Nat) (n : Int), iv = .int .i64 j ∧ nv = .int .i64 n ∧ j ≤ 4 ∧ k ≤ s.size ∧ 0 ≤ n ∧ n ≤ 65535 ∧ Hid (n < 16 ^ j) ∧ RR wr r s k 0 0 ∧ Hid (hexTo s (4 - j) k n = hexTo s 4 i 0) ∧ Mv r w wr) (fun _ iv _ => 4 - (intOf iv).toNat)
  case atStart => exact ⟨0, i, 0, rfl, rfl, by decide, hi, by decide, by decide, Lib.hid (by decide), h, Lib.hid rfl, Mv.refl _ _⟩
  case round =>
    obtain ⟨j, k, n, rfl, rfl, hj, hk, hn0, hn1, HN, HR, HS, HM⟩ := hrel
    have c0 := HR.c0
    have c1 := HR.c1
    have f1 := HR.f1
    have c2 := HR.c2
    by_cases hj4 : j < 4
    · have hj5 : (j : Int) < 4 := by omega
      have hjj : 4 - j = (4 - (j + 1)) + 1 := by omega
      by_cases hlt : k < s.size
      · have b0 := bt_nonneg s k
        have b1 := bt_le s k
        have hxb := hex_bd b0 b1
        obtain ⟨x, hx⟩ : ∃ x, x = hexI (bt s k) := ⟨_, rfl⟩
        rw [← hx] at hxb
        obtain ⟨hx0, hx1⟩ := hxb
        have HX := Lib.hid hx
        have hpx : hexI (pk s k) = x := by rw [pk_in hlt, hx]
        clear hx
        by_cases hneg : x < 0
        · have HK : Hid (hexTo s 4 i 0 = .bad 3 k) := Lib.hid (by rw [← HS.out, hjj]; exact hexTo_bad (by rw [hpx]; exact hneg))
          clear hpx hjj
          go_wp2_with (first
            | (go_at_call 35; (with_reducible refine (rnextB_in HR hlt).mono ?_); rintro e w2 ⟨rfl, hr, hm⟩; replace HR := hr; replace HM := HM.trans hm; clear c0 c1 f1 c2 hr hm; have c0 := HR.c0; have c1 := HR.c1; have f1 := HR.f1; have c2 := HR.c2)
            | (go_at_call 81; (with_reducible refine (rhex_any _ b0 b1 _).mono ?_); rintro e w5 ⟨rfl, rfl⟩; rw [← HX.out])
            | (go_at_call 36; (with_reducible refine (rfail_any _ _ HR).mono ?_); rintro e w3 ⟨rfl, hr, hm⟩; clear c0 c1 f1 c2; replace HR := hr; replace HM := HM.trans hm; have c0 := HR.c0; have c1 := HR.c1; have f1 := HR.f1; have c2 := HR.c2))
          go_ret
          exact RGot.bad HK.out HM rfl (by decide) HR
        · have HK : Hid (hexTo s (4 - (j + 1)) (k + 1) (16 * n + x) = hexTo s 4 i 0) := Lib.hid (by rw [← HS.out, hjj, hexTo_go (by rw [hpx]; exact hneg), hpx])
          have hn2 : 16 * n + x ≤ 65535 := by
            have := HN.out
            have : j = 0 ∨ j = 1 ∨ j = 2 ∨ j = 3 := by omega
            rcases this with rfl | rfl | rfl | rfl <;> omega
          have HN2 : Hid (16 * n + x < 16 ^ (j + 1)) := Lib.hid (by
            have := HN.out
            have : j = 0 ∨ j = 1 ∨ j = 2 ∨ j = 3 := by omega
            rcases this with rfl | rfl | rfl | rfl <;> omega)
          clear hpx hjj
          go_wp2_with (first
            | (go_at_call 35; (with_reducible refine (rnextB_in HR hlt).mono ?_); rintro e w2 ⟨rfl, hr, hm⟩; replace HR := hr; replace HM := HM.trans hm; clear c0 c1 f1 c2 hr hm; have c0 := HR.c0; have c1 := HR.c1; have f1 := HR.f1; have c2 := HR.c2)
            | (go_at_call 81; (with_reducible refine (rhex_any _ b0 b1 _).mono ?_); rintro e w5 ⟨rfl, rfl⟩; rw [← HX.out])
            | ((with_reducible refine is_store ?_); refine wpl_rat rfl (.tmp 40) (.tmp 38) rfl rfl (k + 1) (by rfl) HR ?_; intro w4 hr hm; clear c0 c1 f1 c2; replace HR := hr; replace HM := HM.trans hm; clear hr hm; have c0 := HR.c0; have c1 := HR.c1; have f1 := HR.f1; have c2 := HR.c2))
          exact ⟨⟨j + 1, k + 1, 16 * n + x, by go_num, rfl, by omega, by omega, by omega, hn2, HN2, HR, HK, HM⟩, by simp [intOf]; omega⟩
      · have HK : Hid (hexTo s 4 i 0 = .bad 3 k) := Lib.hid (by rw [← HS.out, hjj]; exact hexTo_bad (by rw [pk_end (by omega)]; decide))
        clear hjj
        go_wp2_with (first
          | (go_at_call 35; (with_reducible refine (rnextB_out HR hlt).mono ?_); rintro e w2 ⟨rfl, hr, hm⟩; replace HR := hr; replace HM := HM.trans hm; clear c0 c1 f1 c2 hr hm; have c0 := HR.c0; have c1 := HR.c1; have f1 := HR.f1; have c2 := HR.c2)
          | (go_at_call 36; (with_reducible refine (rfail_any _ _ HR).mono ?_); rintro e w3 ⟨rfl, hr, hm⟩; clear c0 c1 f1 c2; replace HR := hr; replace HM := HM.trans hm; have c0 := HR.c0; have c1 := HR.c1; have f1 := HR.f1; have c2 := HR.c2))
        go_ret
        exact RGot.bad HK.out HM rfl (by decide) HR
    · obtain rfl : j = 4 := by omega
      have HK : Hid (hexTo s 4 i 0 = .ok n k) := Lib.hid HS.out.symm
      go_wp2
      go_ret
      exact RGot.ok HK.out HM rfl HR
/-- The low half that stands here, if one does. -/
def lowS (s : ByteArray) (k : Nat) : Option Int :=
  if pk s k = 92 ∧ pk s (k + 1) = 117 then match hexTo s 4 (k + 2) 0 with
    | .ok m _ => if 56320 ≤ m ∧ m ≤ 57343 then some m else none
    | .bad _ _ => none
  else none
/-- What the call of low answers. -/
def LowP (o : Option Int) (w : World) (e : Ending) (w' : World) : Prop := (match o with
  | some m => e = .returned (.tuple #[.int .i64 m, .bool true])
  | none => ∃ x, e = .returned (.tuple #[.int .i64 x, .bool false])) ∧ Below w.heap.size w w'
theorem LowP.no {o : Option Int} {w w' : World} {x : Int} (h : o = none) (hb : Below w.heap.size w w') : LowP o w (.returned (.tuple #[.int .i64 x, .bool false])) w' := by subst h; exact ⟨⟨x, rfl⟩, hb⟩
theorem LowP.yes {o : Option Int} {w w' : World} {x : Int} (h : o = some x) (hb : Below w.heap.size w w') : LowP o w (.returned (.tuple #[.int .i64 x, .bool true])) w' := by subst h; exact ⟨rfl, hb⟩
theorem low_short {s : ByteArray} {k : Nat} (h : s.size < k + 6) : lowS s k = none := by
  unfold lowS
  split
  · split
    · rename_i m k2 hm
      have h1 := hex_goes 4 (k + 2) 0 (by omega) m k2 hm
      have h2 := hexTo_end 4 (k + 2) 0 m k2 hm
      omega
    · rfl
  · rfl
theorem low_mark {s : ByteArray} {k : Nat} (h : ¬ (pk s k = 92 ∧ pk s (k + 1) = 117)) : lowS s k = none := if_neg h
theorem low_bad {s : ByteArray} {k : Nat} {c : Int} {p : Nat} (h : hexTo s 4 (k + 2) 0 = .bad c p) : lowS s k = none := by
  unfold lowS
  rw [h]
  split <;> rfl
theorem low_ok {s : ByteArray} {k k2 : Nat} {m : Int} (h : pk s k = 92 ∧ pk s (k + 1) = 117) (hm : hexTo s 4 (k + 2) 0 = .ok m k2) : lowS s k = if 56320 ≤ m ∧ m ≤ 57343 then some m else none := by
  unfold lowS
  rw [if_pos h, hm]
theorem below_q {w w' : World} {B n : Nat} (h : Below B w w') : Below B w (w'.drewN n) := ⟨h.os, h.tape, h.output, h.size, h.block⟩
set_option maxRecDepth 10000 in
set_option maxHeartbeats 8000000 in
theorem rlow_any {w : World} {r : Nat} {s : ByteArray} {k : Nat} (h : RR w r s k 0 0) (hk : k ≤ s.size) (hs : s.size ≤ 65536) :
    Calls Tryz.prog 71 #[At r] w (LowP (lowS s k) w) := by
  have hbs := get_bt s
  have HR := h
  have c0 := HR.c0
  have c1 := HR.c1
  have f1 := HR.f1
  have c2 := HR.c2
  by_cases hsh : s.size < k + 6
  · have HK := Lib.hid (low_short hsh)
    have g1 : decide ((s.size : Int) < (k : Int) + 6) = true := decide_eq_true (by omega)
    have g2 : (s.size : Int) < (k : Int) + 6 := by omega
    go_enter Tryz.func71, Tryz.ntmps71
    go_wp2
    go_quiet (fail)
    go_wp2
    go_ret2
    exact LowP.no HK.out (below_q (Below.refl _ _))
  · have g1 : decide ((s.size : Int) < (k : Int) + 6) = false := decide_eq_false (by omega)
    have g2 : ¬ (s.size : Int) < (k : Int) + 6 := by omega
    have g3 : (k : Int) < (s.size : Int) := by omega
    have g4 : (k : Int) + 1 < (s.size : Int) := by omega
    have g5 : ¬ (k : Int) < 0 := by omega
    have g6 : ((k : Int) + 1).toNat = k + 1 := by omega
    have g7 : 0 ≤ (k : Int) + 1 := by omega
    have a0 := bt_nonneg s k
    have a1 := bt_le s k
    have a2 := bt_nonneg s (k + 1)
    have a3 := bt_le s (k + 1)
    have e1 := pk_in (s := s) (i := k) (by omega)
    have e2 := pk_in (s := s) (i := k + 1) (by omega)
    have HM0 := Lib.hid (low_mark (s := s) (k := k))
    have HM1 := Lib.hid (fun hh => low_ok (s := s) (k := k) (m := 0) (k2 := 0) hh)
    by_cases m1 : bt s k = 92
    · have q1 : (bt s k == 92) = true := by rw [m1]; rfl
      have p1 : (bt s k != 92) = false := by rw [m1]; rfl
      by_cases m2 : bt s (k + 1) = 117
      · have q2 : (bt s (k + 1) == 117) = true := by rw [m2]; rfl
        have p2 : (bt s (k + 1) != 117) = false := by rw [m2]; rfl
        have HMK : Hid (pk s k = 92 ∧ pk s (k + 1) = 117) := Lib.hid ⟨e1.trans m1, e2.trans m2⟩
        clear m1 m2 e1 e2 HM0 HM1
        go_enter Tryz.func71, Tryz.ntmps71
        go_wp2
        go_quiet (fail)
        replace HR := HR.drewN nq
        have HB : Below w.heap.size w (w.drewN nq) := below_q (Below.refl _ _)
        generalize hwq : World.drewN _ nq = wq at *
        clear c0 c1 f1 c2 hwq
        go_wp2
        go_loopw [4, 5] (fun nv iv wr => ∃ (j : Nat) (n : Int), iv = .int .i64 j ∧ nv = .int .i64 n ∧ 2 ≤ j ∧ j ≤ 6 ∧ 0 ≤ n ∧ n ≤ 65535 ∧ Hid (n < 16 ^ (j - 2)) ∧ RR wr r s k 0 0 ∧ Hid (hexTo s (6 - j) (k + j) n = hexTo s 4 (k + 2) 0) ∧ Below w.heap.size w wr) (fun _ iv _ => 6 - (intOf iv).toNat)
        case atStart => exact ⟨2, 0, rfl, rfl, by decide, by decide, by decide, by decide, Lib.hid (by decide), HR, Lib.hid rfl, HB⟩
        case round =>
          clear HR HB g3 g4 g5 g6 g7 g1 g2 a0 a1 a2 a3 q1 q2 p1 p2
          obtain ⟨j, n, rfl, rfl, hj2, hj, hn0, hn1, HN, HR, HS, HB⟩ := hrel
          have c0 := HR.c0
          have c1 := HR.c1
          have f1 := HR.f1
          have c2 := HR.c2
          by_cases hj4 : j < 6
          · have hj5 : (j : Int) < 6 := by omega
            have g3 : (k : Int) + (j : Int) < (s.size : Int) := by omega
            have g5 : 0 ≤ (k : Int) + (j : Int) := by omega
            have g6 : ((k : Int) + (j : Int)).toNat = k + j := by omega
            have gw : IntKind.i64.wrap ((k : Int) + (j : Int)) = (k : Int) + (j : Int) := IntWalk.i64_in _ ⟨by omega, by omega⟩
            have hjj : 6 - j = (6 - (j + 1)) + 1 := by omega
            have b0 := bt_nonneg s (k + j)
            have b1 := bt_le s (k + j)
            have hxb := hex_bd b0 b1
            have hpx : hexI (pk s (k + j)) = hexI (bt s (k + j)) := by rw [pk_in (by omega)]
            have HX : Hid (hexI (bt s (k + j)) = hexI (bt s (k + j))) := Lib.hid rfl
            obtain ⟨hx0, hx1⟩ := hxb
            by_cases hneg : hexI (bt s (k + j)) < 0
            · have HK : Hid (lowS s k = none) := Lib.hid (low_bad (HS.out.symm.trans (by rw [hjj]; exact hexTo_bad (by rw [hpx]; exact hneg))))
              clear hpx hjj
              go_wp2
              go_quiet ((go_at_call 81; exact Calls.quiet_of_same (rhex_any _ b0 b1 _)))
              clear gw
              replace HR := HR.drewN nq
              replace HB := below_q (n := nq) HB
              generalize hwq : World.drewN _ nq = wq at *
              clear c0 c1 f1 c2 hwq
              go_wp2
              go_ret2
              exact LowP.no HK.out HB
            · have HK : Hid (hexTo s (6 - (j + 1)) (k + (j + 1)) (16 * n + hexI (bt s (k + j))) = hexTo s 4 (k + 2) 0) := Lib.hid (by rw [← HS.out, hjj, hexTo_go (by rw [hpx]; exact hneg), hpx]; rfl)
              have hn2 : 16 * n + hexI (bt s (k + j)) ≤ 65535 := by
                have := HN.out
                have : j = 2 ∨ j = 3 ∨ j = 4 ∨ j = 5 := by omega
                rcases this with rfl | rfl | rfl | rfl <;> simp at this <;> omega
              have HN2 : Hid (16 * n + hexI (bt s (k + j)) < 16 ^ (j + 1 - 2)) := Lib.hid (by
                have := HN.out
                have : j = 2 ∨ j = 3 ∨ j = 4 ∨ j = 5 := by omega
                rcases this with rfl | rfl | rfl | rfl <;> simp at * <;> omega)
              clear hpx hjj
              go_wp2
              go_quiet ((go_at_call 81; exact Calls.quiet_of_same (rhex_any _ b0 b1 _)))
              clear gw
              replace HR := HR.drewN nq
              replace HB := below_q (n := nq) HB
              generalize hwq : World.drewN _ nq = wq at *
              clear c0 c1 f1 c2 hwq
              go_wp2
              exact ⟨⟨j + 1, 16 * n + hexI (bt s (k + j)), by go_num, rfl, by omega, by omega, by omega, hn2, HN2, HR, HK, HB⟩, by simp [intOf]; omega⟩
          · obtain rfl : j = 6 := by omega
            have HL := Lib.hid (low_ok HMK.out HS.out.symm)
            by_cases l1 : 56320 ≤ n
            · by_cases l2 : n ≤ 57343
              · have HK : Hid (lowS s k = some n) := Lib.hid (by rw [HL.out, if_pos ⟨l1, l2⟩])
                clear HL
                go_wp2
                go_ret2
                exact LowP.yes HK.out HB
              · have HK : Hid (lowS s k = none) := Lib.hid (by rw [HL.out, if_neg (fun hh => l2 hh.2)])
                clear HL
                go_wp2
                go_ret2
                exact LowP.no HK.out HB
            · have HK : Hid (lowS s k = none) := Lib.hid (by rw [HL.out, if_neg (fun hh => l1 hh.1)])
              clear HL
              go_wp2
              go_ret2
              exact LowP.no HK.out HB
      · have q2 : (bt s (k + 1) == 117) = false := by simpa using m2
        have p2 : (bt s (k + 1) != 117) = true := by simpa using m2
        have HK : Hid (lowS s k = none) := Lib.hid (HM0.out (fun hh => m2 (e2.symm.trans hh.2)))
        clear e1 e2 HM0 HM1
        go_enter Tryz.func71, Tryz.ntmps71
        go_wp2
        go_quiet (fail)
        go_wp2
        go_ret2
        exact LowP.no HK.out (below_q (Below.refl _ _))
    · have q1 : (bt s k == 92) = false := by simpa using m1
      have p1 : (bt s k != 92) = true := by simpa using m1
      have HK : Hid (lowS s k = none) := Lib.hid (HM0.out (fun hh => m1 (e1.symm.trans hh.1)))
      clear e1 e2 HM0 HM1
      go_enter Tryz.func71, Tryz.ntmps71
      go_wp2
      go_quiet (fail)
      go_wp2
      go_ret2
      exact LowP.no HK.out (below_q (Below.refl _ _))
end Go.Proofs.YtjhncopbiblenaaGreatDoor
