/- Layer 13: the walk of the reference's Room. -/
import Derived.Test.YtmpoejgclalmfaaGreatNamesH
namespace Go.Proofs.YtmpoejgclalmfaaGreat
open Go.RowKit Go.PlainAid
set_option linter.unusedVariables false

theorem rroom_any (s : ByteArray) (w : World) (hs : s.size ≤ maxLen) :
    Calls Tryz.prog 16 #[.string s] w fun e w' => e = .returned (.bool (partedR s 33 roomI)) ∧ w = w' := by
  have hb := get_bt s
  have HS := Lib.hid hs
  have hs2 := hs
  unfold maxLen at hs2
  clear hs
  rcases colon_cases s with hc | ⟨k, hc, hk, hk2, hk3⟩
  · have hz : partedR s 33 roomI = false := by unfold partedR; rw [hc]; rfl
    have HZ := Lib.hid hz
    have HC := Lib.hid hc
    clear hc hz
    go_enter Tryz.func16, Tryz.ntmps16
    go_wp2_with (go_at_call 36; (with_reducible refine (rcolon_any s _ HS.out).mono ?_); rintro e w1 ⟨rfl, rfl⟩; rw [HC.out])
    go_ret
    exact ⟨ret_bool HZ.out.symm, rfl⟩
  · have HC := Lib.hid hc
    clear hc hk2 hk3
    by_cases hr : 2 ≤ k ∧ k ≤ 33 ∧ bt s 0 = 33
    · obtain ⟨r1, r2, r3⟩ := hr
      have hz : partedR s 33 roomI = (allB ((s.data.toList.take k).drop 1) roomI && serverR (s.extract (k + 1) s.size)) := by
        unfold partedR
        rw [HC.out, decide_eq_true r3, decide_eq_true (show (2 : Int) ≤ (k : Int) by omega), decide_eq_true (show (k : Int) ≤ 33 by omega)]
        rfl
      have e3 : (bt s 0 != 33) = false := by rw [r3]; rfl
      have HZ := Lib.hid hz
      clear hz r3
      go_enter Tryz.func16, Tryz.ntmps16
      go_wp2_with (go_at_call 36; (with_reducible refine (rcolon_any s _ HS.out).mono ?_); rintro e w1 ⟨rfl, rfl⟩; rw [HC.out])
      go_loop [4] (fun i => ∃ j : Nat, 1 ≤ j ∧ j ≤ k ∧ i = .int .i64 j ∧ Hid (∀ x, 1 ≤ x → x < j → roomI (bt s x) = true)) (fun i => k - (intOf i).toNat)
      case atStart => exact ⟨1, by omega, by omega, rfl, fun x h1 h2 => absurd h1 (by omega)⟩
      case round =>
        obtain ⟨j, hj1, hj, rfl, HR⟩ := hrel
        by_cases hlt : j < k
        · cases hsm : plainI (bt s j)
          all_goals
            have hu : roomI (bt s j) = (plainI (bt s j) || decide (bt s j = 45)) := rfl
            rw [hsm] at hu
            have HSM := Lib.hid hsm
            have HU := Lib.hid hu
            clear hsm hu
            go_wp2_with (go_at_call 37; (with_reducible refine (rplain_any (bt s j) _).mono ?_); rintro e w' ⟨rfl, rfl⟩; rw [HSM.out])
          all_goals first
            | (go_ret
               refine ⟨ret_bool ?_, rfl⟩
               rw [HZ.out, between_no s 1 k (by omega) roomI j hj1 hlt (by rw [HU.out]; simp_all)]
               rfl)
            | (go_round
               case rel =>
                 refine ⟨j + 1, by omega, by omega, by go_num, fun x h1 h2 => ?_⟩
                 rcases Nat.lt_or_eq_of_le (Nat.le_of_lt_succ h2) with h | h
                 · exact HR.out x h1 h
                 · rw [h, HU.out]; simp_all
               case measure => simp [intOf]; omega)
        · obtain rfl : j = k := by omega
          have hA : allB ((s.data.toList.take j).drop 1) roomI = true := (between s 1 j (by omega) roomI).2 HR.out
          rw [hA] at HZ
          clear hA
          have hx2 : (s.extract (j + 1) s.size).size ≤ maxLen := by rw [size_extract]; unfold maxLen; omega
          have HX := Lib.hid hx2
          clear hx2
          go_wp2_with (go_at_call 38; (with_reducible refine (rserver_any _ _ HX.out).mono ?_); rintro e w' ⟨rfl, rfl⟩)
          go_ret
          exact ⟨ret_bool HZ.out.symm, rfl⟩
    · have hz : partedR s 33 roomI = false := by
        unfold partedR
        rw [HC.out]
        by_cases r1 : 2 ≤ k
        · by_cases r2 : k ≤ 33
          · have r3 : ¬ bt s 0 = 33 := fun r3 => hr ⟨r1, r2, r3⟩
            rw [decide_eq_false r3]; simp
          · rw [decide_eq_false (show ¬ (k : Int) ≤ 33 by omega)]; simp
        · rw [decide_eq_false (show ¬ (2 : Int) ≤ (k : Int) by omega)]; rfl
      have hr' : (k < 2 ∨ 33 < k) ∨ ((2 ≤ k ∧ k ≤ 33) ∧ (bt s 0 != 33) = true) := by
        by_cases r1 : 2 ≤ k
        · by_cases r2 : k ≤ 33
          · right
            refine ⟨⟨r1, r2⟩, ?_⟩
            rw [bne_iff_ne]
            exact fun r3 => hr ⟨r1, r2, r3⟩
          · left; omega
        · left; omega
      have HZ := Lib.hid hz
      clear hz hr
      rcases hr' with (h | h) | ⟨⟨h, h2⟩, h3⟩
      all_goals
        go_enter Tryz.func16, Tryz.ntmps16
        go_wp2_with (go_at_call 36; (with_reducible refine (rcolon_any s _ HS.out).mono ?_); rintro e w1 ⟨rfl, rfl⟩; rw [HC.out])
        all_goals
          go_ret
          exact ⟨ret_bool HZ.out.symm, rfl⟩

end Go.Proofs.YtmpoejgclalmfaaGreat
