/- Layer 13: the walks of the reference's colon, User, Room, Event, Key. -/
import Derived.Test.YtmpoejgclalmfaaGreatNamesF
namespace Go.Proofs.YtmpoejgclalmfaaGreat
open Go.RowKit Go.PlainAid
set_option linter.unusedVariables false

theorem colon_at (s : ByteArray) (k : Nat) (hk : k < s.size) (hb : ∀ j, j < k → bt s j ≠ 58) (he : bt s k = 58) : colonI s = k := by
  unfold colonI
  rcases indexByte_cases s.data.toList 58 with h | ⟨i, h, hi⟩
  · exact absurd (bt_is s k 58 hk he) (Lib.indexByte_none h k)
  · obtain ⟨h1, h2⟩ := Lib.indexByte_some h
    have hi' := bt_some s i 58 h1
    rcases Nat.lt_trichotomy i k with h3 | h3 | h3
    · exact absurd hi'.2 (hb i h3)
    · rw [h, h3]
    · exact absurd (bt_is s k 58 hk he) (h2 k h3)
theorem colon_end (s : ByteArray) (hb : ∀ j, j < s.size → bt s j ≠ 58) : colonI s = -1 := by
  unfold colonI
  rcases indexByte_cases s.data.toList 58 with h | ⟨i, h, hi⟩
  · exact h
  · have h1 := (Lib.indexByte_some h).1
    have := bt_some s i 58 h1
    exact absurd this.2 (hb i this.1)
theorem colon_cases (s : ByteArray) : colonI s = -1 ∨ ∃ i : Nat, colonI s = i ∧ i < s.size ∧ bt s i = 58 ∧ ∀ j, j < i → bt s j ≠ 58 := by
  unfold colonI
  rcases indexByte_cases s.data.toList 58 with h | ⟨i, h, hi⟩
  · exact .inl h
  · obtain ⟨h1, h2⟩ := Lib.indexByte_some h
    have hi' := bt_some s i 58 h1
    exact .inr ⟨i, h, hi'.1, hi'.2, fun j hj e => h2 j hj (bt_is s j 58 (by omega) e)⟩

theorem rcolon_any (s : ByteArray) (w : World) (hs : s.size ≤ maxLen) :
    Calls Tryz.prog 36 #[.string s] w fun e w' => e = .returned (.int .i64 (colonI s)) ∧ w = w' := by
  have hb := get_bt s
  unfold maxLen at hs
  go_enter Tryz.func36, Tryz.ntmps36
  go_wp2
  go_loop [3] (fun i => ∃ k : Nat, k ≤ s.size ∧ i = .int .i64 k ∧ Hid (∀ j, j < k → bt s j ≠ 58)) (fun i => s.size - (intOf i).toNat)
  case atStart => exact ⟨0, Nat.zero_le _, rfl, fun j hj => absurd hj (Nat.not_lt_zero _)⟩
  case round =>
    obtain ⟨k, hk, rfl, HR⟩ := hrel
    by_cases hlt : k < s.size
    · by_cases hc : bt s k = 58
      · have e1 : (bt s k == 58) = true := by rw [beq_iff_eq]; exact hc
        have HC := Lib.hid hc
        clear hc
        go_wp2
        go_ret
        exact ⟨ret_int (colon_at s k hlt HR.out HC.out).symm, rfl⟩
      · have e1 : (bt s k == 58) = false := by rw [beq_eq_false_iff_ne]; exact hc
        have HC := Lib.hid hc
        clear hc
        go_wp2
        go_round
        case rel =>
          refine ⟨k + 1, by omega, by go_num, fun j hj => ?_⟩
          rcases Nat.lt_or_eq_of_le (Nat.le_of_lt_succ hj) with h | h
          · exact HR.out j h
          · rw [h]; exact HC.out
        case measure => simp [intOf]; omega
    · go_wp2
      go_ret
      obtain rfl : k = s.size := by omega
      exact ⟨ret_int (colon_end s HR.out).symm, rfl⟩

theorem between (s : ByteArray) (a b : Nat) (hb : b ≤ s.size) (p : Int → Bool) : allB ((s.data.toList.take b).drop a) p = true ↔ ∀ j, a ≤ j → j < b → p (bt s j) = true := by
  rw [allB_iff]
  constructor
  · intro h j h1 h2
    have hl : j < s.data.toList.length := by rw [← Lib.size_eq]; omega
    rw [bt_get s j hl]
    apply h
    rw [List.mem_iff_getElem?]
    refine ⟨j - a, ?_⟩
    rw [List.getElem?_drop, show a + (j - a) = j from by omega, List.getElem?_take, if_pos h2, List.getElem?_eq_getElem hl]
  · intro h x hx
    obtain ⟨i, hi⟩ := List.mem_iff_getElem?.1 hx
    rw [List.getElem?_drop, List.getElem?_take] at hi
    by_cases hlt : a + i < b
    · rw [if_pos hlt] at hi
      obtain ⟨hl, he⟩ := List.getElem?_eq_some_iff.1 hi
      rw [← he, ← bt_get s (a + i) hl]
      exact h _ (by omega) hlt
    · rw [if_neg hlt] at hi; cases hi
theorem between_no (s : ByteArray) (a b : Nat) (hb : b ≤ s.size) (p : Int → Bool) (j : Nat) (h1 : a ≤ j) (h2 : j < b) (h : p (bt s j) = false) : allB ((s.data.toList.take b).drop a) p = false := by
  rw [Bool.eq_false_iff]
  intro ht
  rw [(between s a b hb p).1 ht j h1 h2] at h
  cases h

theorem ruser_any (s : ByteArray) (w : World) (hs : s.size ≤ maxLen) :
    Calls Tryz.prog 17 #[.string s] w fun e w' => e = .returned (.bool (partedR s 64 userI)) ∧ w = w' := by
  have hb := get_bt s
  have HS := Lib.hid hs
  have hs2 := hs
  unfold maxLen at hs2
  clear hs
  rcases colon_cases s with hc | ⟨k, hc, hk, hk2, hk3⟩
  · have hz : partedR s 64 userI = false := by unfold partedR; rw [hc]; rfl
    have HZ := Lib.hid hz
    have HC := Lib.hid hc
    clear hc hz
    go_enter Tryz.func17, Tryz.ntmps17
    go_wp2_with (go_at_call 36; (with_reducible refine (rcolon_any s _ HS.out).mono ?_); rintro e w1 ⟨rfl, rfl⟩; rw [HC.out])
    go_ret
    exact ⟨ret_bool HZ.out.symm, rfl⟩
  · have HC := Lib.hid hc
    clear hc hk2 hk3
    by_cases hr : 2 ≤ k ∧ k ≤ 33 ∧ bt s 0 = 64
    · obtain ⟨r1, r2, r3⟩ := hr
      have hz : partedR s 64 userI = (allB ((s.data.toList.take k).drop 1) userI && serverR (s.extract (k + 1) s.size)) := by
        unfold partedR
        rw [HC.out, decide_eq_true r3, decide_eq_true (show (2 : Int) ≤ (k : Int) by omega), decide_eq_true (show (k : Int) ≤ 33 by omega)]
        rfl
      have e3 : (bt s 0 != 64) = false := by rw [r3]; rfl
      have HZ := Lib.hid hz
      clear hz r3
      go_enter Tryz.func17, Tryz.ntmps17
      go_wp2_with (go_at_call 36; (with_reducible refine (rcolon_any s _ HS.out).mono ?_); rintro e w1 ⟨rfl, rfl⟩; rw [HC.out])
      go_loop [4] (fun i => ∃ j : Nat, 1 ≤ j ∧ j ≤ k ∧ i = .int .i64 j ∧ Hid (∀ x, 1 ≤ x → x < j → userI (bt s x) = true)) (fun i => k - (intOf i).toNat)
      case atStart => exact ⟨1, by omega, by omega, rfl, fun x h1 h2 => absurd h1 (by omega)⟩
      case round =>
        obtain ⟨j, hj1, hj, rfl, HR⟩ := hrel
        by_cases hlt : j < k
        · cases hsm : smallI (bt s j)
          all_goals
            have hu : userI (bt s j) = (smallI (bt s j) || (decide (bt s j = 46) || decide (bt s j = 95) || decide (bt s j = 61) || decide (bt s j = 45) || decide (bt s j = 47))) := rfl
            rw [hsm] at hu
            have HSM := Lib.hid hsm
            have HU := Lib.hid hu
            clear hsm hu
            go_wp2_with (go_at_call 39; (with_reducible refine (rsmall_any (bt s j) _).mono ?_); rintro e w' ⟨rfl, rfl⟩; rw [HSM.out])
          all_goals first
            | (go_ret
               refine ⟨ret_bool ?_, rfl⟩
               rw [HZ.out, between_no s 1 k (by omega) userI j hj1 hlt (by rw [HU.out]; simp_all)]
               rfl)
            | (go_round
               case rel =>
                 refine ⟨j + 1, by omega, by omega, by go_num, fun x h1 h2 => ?_⟩
                 rcases Nat.lt_or_eq_of_le (Nat.le_of_lt_succ h2) with h | h
                 · exact HR.out x h1 h
                 · rw [h, HU.out]; simp_all
               case measure => simp [intOf]; omega)
        · obtain rfl : j = k := by omega
          have hA : allB ((s.data.toList.take j).drop 1) userI = true := (between s 1 j (by omega) userI).2 HR.out
          rw [hA] at HZ
          clear hA
          have hx2 : (s.extract (j + 1) s.size).size ≤ maxLen := by rw [size_extract]; unfold maxLen; omega
          have HX := Lib.hid hx2
          clear hx2
          go_wp2_with (go_at_call 38; (with_reducible refine (rserver_any _ _ HX.out).mono ?_); rintro e w' ⟨rfl, rfl⟩)
          go_ret
          exact ⟨ret_bool HZ.out.symm, rfl⟩
    · have hz : partedR s 64 userI = false := by
        unfold partedR
        rw [HC.out]
        by_cases r1 : 2 ≤ k
        · by_cases r2 : k ≤ 33
          · have r3 : ¬ bt s 0 = 64 := fun r3 => hr ⟨r1, r2, r3⟩
            rw [decide_eq_false r3]; simp
          · rw [decide_eq_false (show ¬ (k : Int) ≤ 33 by omega)]; simp
        · rw [decide_eq_false (show ¬ (2 : Int) ≤ (k : Int) by omega)]; rfl
      have hr' : (k < 2 ∨ 33 < k) ∨ ((2 ≤ k ∧ k ≤ 33) ∧ (bt s 0 != 64) = true) := by
        by_cases r1 : 2 ≤ k
        · by_cases r2 : k ≤ 33
          · right
            refine ⟨⟨r1, r2⟩, ?_⟩
            rw [bne_iff_ne]
            exact fun r3 => hr ⟨r1, r2, r3⟩
          · left; omega
        · left; omega
      have HZ := Lib.hid hz
      clear hz hr
      rcases hr' with (h | h) | ⟨⟨h, h2⟩, h3⟩
      all_goals
        go_enter Tryz.func17, Tryz.ntmps17
        go_wp2_with (go_at_call 36; (with_reducible refine (rcolon_any s _ HS.out).mono ?_); rintro e w1 ⟨rfl, rfl⟩; rw [HC.out])
        all_goals
          go_ret
          exact ⟨ret_bool HZ.out.symm, rfl⟩
end Go.Proofs.YtmpoejgclalmfaaGreat
