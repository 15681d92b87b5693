/- Layer 13: the walks of the reference's Room, Event, Key. -/
import Derived.Test.YtifffggppgphkaaNamesH
namespace Go.Proofs.Ytifffggppgphkaa
open Go.RowKit Go.PlainAid
set_option linter.unusedVariables false

theorem rroom_any (s : ByteArray) (w : World) (hs : s.size ≤ maxLen) :
    Calls Try.prog 16 #[.string s] w fun e w' => e = .returned (.bool (partedR s 33 roomI)) ∧ w = w' := by
  have hb := get_bt s
  have HS := Lib.hid hs
  have hs2 := hs
  unfold maxLen at hs2
  clear hs
  rcases colon_cases s with hc | ⟨k, hc, hk, hk2, hk3⟩
  · have hz : partedR s 33 roomI = false := by unfold partedR; rw [hc]; rfl
    have HZ := Lib.hid hz
    have HC := Lib.hid hc
    clear hc hz
    go_enter Try.func16, Try.ntmps16
    go_wp2_with (go_at_call 24; (with_reducible refine (rcolon_any s _ HS.out).mono ?_); rintro e w1 ⟨rfl, rfl⟩; rw [HC.out])
    go_ret
    exact ⟨ret_bool HZ.out.symm, rfl⟩
  · have HC := Lib.hid hc
    clear hc hk2 hk3
    by_cases hr : 2 ≤ k ∧ k ≤ 33 ∧ bt s 0 = 33
    · obtain ⟨r1, r2, r3⟩ := hr
      have hz : partedR s 33 roomI = (allB ((s.data.toList.take k).drop 1) roomI && serverR (s.extract (k + 1) s.size)) := by
        unfold partedR
        rw [HC.out, decide_eq_true r3, decide_eq_true (show (2 : Int) ≤ (k : Int) by omega), decide_eq_true (show (k : Int) ≤ 33 by omega)]
        rfl
      have e3 : (bt s 0 != 33) = false := by rw [r3]; rfl
      have HZ := Lib.hid hz
      clear hz r3
      go_enter Try.func16, Try.ntmps16
      go_wp2_with (go_at_call 24; (with_reducible refine (rcolon_any s _ HS.out).mono ?_); rintro e w1 ⟨rfl, rfl⟩; rw [HC.out])
      go_loop [4] (fun i => ∃ j : Nat, 1 ≤ j ∧ j ≤ k ∧ i = .int .i64 j ∧ Hid (∀ x, 1 ≤ x → x < j → roomI (bt s x) = true)) (fun i => k - (intOf i).toNat)
      case atStart => exact ⟨1, by omega, by omega, rfl, fun x h1 h2 => absurd h1 (by omega)⟩
      case round =>
        obtain ⟨j, hj1, hj, rfl, HR⟩ := hrel
        by_cases hlt : j < k
        · cases hsm : plainI (bt s j)
          all_goals
            have hu : roomI (bt s j) = (plainI (bt s j) || decide (bt s j = 45)) := rfl
            rw [hsm] at hu
            have HSM := Lib.hid hsm
            have HU := Lib.hid hu
            clear hsm hu
            go_wp2_with (go_at_call 36; (with_reducible refine (rplain_any (bt s j) _).mono ?_); rintro e w' ⟨rfl, rfl⟩; rw [HSM.out])
          all_goals first
            | (go_ret
               refine ⟨ret_bool ?_, rfl⟩
               rw [HZ.out, between_no s 1 k (by omega) roomI j hj1 hlt (by rw [HU.out]; simp_all)]
               rfl)
            | (go_round
               case rel =>
                 refine ⟨j + 1, by omega, by omega, by go_num, fun x h1 h2 => ?_⟩
                 rcases Nat.lt_or_eq_of_le (Nat.le_of_lt_succ h2) with h | h
                 · exact HR.out x h1 h
                 · rw [h, HU.out]; simp_all
               case measure => simp [intOf]; omega)
        · obtain rfl : j = k := by omega
          have hA : allB ((s.data.toList.take j).drop 1) roomI = true := (between s 1 j (by omega) roomI).2 HR.out
          rw [hA] at HZ
          clear hA
          have hx2 : (s.extract (j + 1) s.size).size ≤ maxLen := by rw [size_extract]; unfold maxLen; omega
          have HX := Lib.hid hx2
          clear hx2
          go_wp2_with (go_at_call 12; (with_reducible refine (rserver_any _ _ HX.out).mono ?_); rintro e w' ⟨rfl, rfl⟩)
          go_ret
          exact ⟨ret_bool HZ.out.symm, rfl⟩
    · have hz : partedR s 33 roomI = false := by
        unfold partedR
        rw [HC.out]
        by_cases r1 : 2 ≤ k
        · by_cases r2 : k ≤ 33
          · have r3 : ¬ bt s 0 = 33 := fun r3 => hr ⟨r1, r2, r3⟩
            rw [decide_eq_false r3]; simp
          · rw [decide_eq_false (show ¬ (k : Int) ≤ 33 by omega)]; simp
        · rw [decide_eq_false (show ¬ (2 : Int) ≤ (k : Int) by omega)]; rfl
      have hr' : (k < 2 ∨ 33 < k) ∨ ((2 ≤ k ∧ k ≤ 33) ∧ (bt s 0 != 33) = true) := by
        by_cases r1 : 2 ≤ k
        · by_cases r2 : k ≤ 33
          · right
            refine ⟨⟨r1, r2⟩, ?_⟩
            rw [bne_iff_ne]
            exact fun r3 => hr ⟨r1, r2, r3⟩
          · left; omega
        · left; omega
      have HZ := Lib.hid hz
      clear hz hr
      rcases hr' with (h | h) | ⟨⟨h, h2⟩, h3⟩
      all_goals
        go_enter Try.func16, Try.ntmps16
        go_wp2_with (go_at_call 24; (with_reducible refine (rcolon_any s _ HS.out).mono ?_); rintro e w1 ⟨rfl, rfl⟩; rw [HC.out])
        all_goals
          go_ret
          exact ⟨ret_bool HZ.out.symm, rfl⟩

theorem take_all (s : ByteArray) : s.data.toList.take s.size = s.data.toList := List.take_of_length_le (by rw [← Lib.size_eq]; exact Nat.le_refl _)

theorem revent_any (s : ByteArray) (w : World) (hs : s.size ≤ maxLen) :
    Calls Try.prog 18 #[.string s] w fun e w' => e = .returned (.bool (eventR s)) ∧ w = w' := by
  have hb := get_bt s
  unfold maxLen at hs
  by_cases hr : s.size = 44 ∧ bt s 0 = 36
  · obtain ⟨r1, r3⟩ := hr
    have hz : eventR s = allB ((s.data.toList.take 44).drop 1) roomI := by
      unfold eventR
      rw [decide_eq_true r1, decide_eq_true r3, ← r1, take_all]; rfl
    have e3 : (bt s 0 != 36) = false := by rw [r3]; rfl
    have e1 : ((s.size : Int) != 44) = false := by rw [r1]; rfl
    have k0 : 0 < s.size := by omega
    have k1 : 44 ≤ s.size := by omega
    have HZ := Lib.hid hz
    clear hz r1 r3
    go_enter Try.func18, Try.ntmps18
    go_wp2
    go_loop [3] (fun i => ∃ j : Nat, 1 ≤ j ∧ j ≤ 44 ∧ i = .int .i64 j ∧ Hid (∀ x, 1 ≤ x → x < j → roomI (bt s x) = true)) (fun i => 44 - (intOf i).toNat)
    case atStart => exact ⟨1, by omega, by omega, rfl, fun x h1 h2 => absurd h1 (by omega)⟩
    case round =>
      obtain ⟨j, hj1, hj, rfl, HR⟩ := hrel
      by_cases hlt : j < 44
      · have hlt2 : j < s.size := by omega
        cases hsm : plainI (bt s j)
        all_goals
          have hu : roomI (bt s j) = (plainI (bt s j) || decide (bt s j = 45)) := rfl
          rw [hsm] at hu
          have HSM := Lib.hid hsm
          have HU := Lib.hid hu
          clear hsm hu
          go_wp2_with (go_at_call 36; (with_reducible refine (rplain_any (bt s j) _).mono ?_); rintro e w' ⟨rfl, rfl⟩; rw [HSM.out])
        all_goals first
          | (go_ret
             refine ⟨ret_bool ?_, rfl⟩
             rw [HZ.out, between_no s 1 44 (by omega) roomI j hj1 hlt (by rw [HU.out]; simp_all)])
          | (go_round
             case rel =>
               refine ⟨j + 1, by omega, by omega, by go_num, fun x h1 h2 => ?_⟩
               rcases Nat.lt_or_eq_of_le (Nat.le_of_lt_succ h2) with h | h
               · exact HR.out x h1 h
               · rw [h, HU.out]; simp_all
             case measure => simp [intOf]; omega)
      · obtain rfl : j = 44 := by omega
        have hA : allB ((s.data.toList.take 44).drop 1) roomI = true := (between s 1 44 (by omega) roomI).2 HR.out
        rw [hA] at HZ
        clear hA
        go_wp2
        go_ret
        exact ⟨ret_bool HZ.out.symm, rfl⟩
  · have hz : eventR s = false := by
      unfold eventR
      by_cases r1 : s.size = 44
      · have r3 : ¬ bt s 0 = 36 := fun r3 => hr ⟨r1, r3⟩
        rw [decide_eq_false r3]; simp
      · rw [decide_eq_false r1]; rfl
    have HZ := Lib.hid hz
    have hr' : ((s.size : Int) != 44) = true ∨ (((s.size : Int) != 44) = false ∧ 0 < s.size ∧ (bt s 0 != 36) = true) := by
      by_cases r1 : s.size = 44
      · right
        refine ⟨by rw [r1]; rfl, by omega, ?_⟩
        rw [bne_iff_ne]
        exact fun r3 => hr ⟨r1, r3⟩
      · left
        rw [bne_iff_ne]; omega
    clear hz hr
    rcases hr' with h | ⟨h, h2, h3⟩
    all_goals
      go_enter Try.func18, Try.ntmps18
      go_wp2
      all_goals
        go_ret
        exact ⟨ret_bool HZ.out.symm, rfl⟩

theorem hasPrefix_take (l p : List UInt8) (h : p.length ≤ l.length) : Lib.hasPrefix l p = decide (l.take p.length = p) := by
  unfold Lib.hasPrefix
  rw [Bool.eq_iff_iff, List.isPrefixOf_iff_prefix, decide_eq_true_eq, List.prefix_iff_eq_take]
  exact ⟨fun h => h.symm, fun h => h.symm⟩

theorem rkey_any (s : ByteArray) (w : World) (hs : s.size ≤ maxLen) :
    Calls Try.prog 20 #[.string s] w fun e w' => e = .returned (.bool (keyR s)) ∧ w = w' := by
  have hb := get_bt s
  unfold maxLen at hs
  by_cases hn : 9 ≤ s.size ∧ s.size ≤ 24
  · obtain ⟨r1, r2⟩ := hn
    have hp : ((s.extract 0 8).toList == [101, 100, 50, 53, 53, 49, 57, 58]) = Lib.hasPrefix s.data.toList keyPre := by
      rw [hasPrefix_take _ keyPre (by rw [← Lib.size_eq]; exact (by omega : 8 ≤ s.size)), ba_toList, list_extract, List.drop_zero]
      rw [Bool.eq_iff_iff, beq_iff_eq, decide_eq_true_eq]
      exact Iff.rfl
    have hz : keyR s = (Lib.hasPrefix s.data.toList keyPre && allB ((s.data.toList.take s.size).drop 8) plainI) := by
      unfold keyR
      rw [decide_eq_true r1, decide_eq_true r2, take_all]; rfl
    have k8 : 8 ≤ s.size := by omega
    cases hpv : Lib.hasPrefix s.data.toList keyPre
    all_goals
      rw [hpv] at hp hz
      have HZ := Lib.hid hz
      clear hz hpv
      go_enter Try.func20, Try.ntmps20
      go_wp2
    · go_ret
      exact ⟨ret_bool HZ.out.symm, rfl⟩
    · go_loop [3] (fun i => ∃ j : Nat, 8 ≤ j ∧ j ≤ s.size ∧ i = .int .i64 j ∧ Hid (∀ x, 8 ≤ x → x < j → plainI (bt s x) = true)) (fun i => s.size - (intOf i).toNat)
      case atStart => exact ⟨8, by omega, by omega, rfl, fun x h1 h2 => absurd h1 (by omega)⟩
      case round =>
        obtain ⟨j, hj1, hj, rfl, HR⟩ := hrel
        by_cases hlt : j < s.size
        · cases hsm : plainI (bt s j)
          all_goals
            have HSM := Lib.hid hsm
            clear hsm
            go_wp2_with (go_at_call 36; (with_reducible refine (rplain_any (bt s j) _).mono ?_); rintro e w' ⟨rfl, rfl⟩; rw [HSM.out])
          · go_ret
            refine ⟨ret_bool ?_, rfl⟩
            rw [HZ.out, between_no s 8 s.size (Nat.le_refl _) plainI j hj1 hlt HSM.out]
            rfl
          · go_round
            case rel =>
              refine ⟨j + 1, by omega, by omega, by go_num, fun x h1 h2 => ?_⟩
              rcases Nat.lt_or_eq_of_le (Nat.le_of_lt_succ h2) with h | h
              · exact HR.out x h1 h
              · rw [h]; exact HSM.out
            case measure => simp [intOf]; omega
        · obtain rfl : j = s.size := by omega
          have hA : allB ((s.data.toList.take s.size).drop 8) plainI = true := (between s 8 s.size (Nat.le_refl _) plainI).2 HR.out
          rw [hA] at HZ
          clear hA
          go_wp2
          go_ret
          exact ⟨ret_bool HZ.out.symm, rfl⟩
  · have hz : keyR s = false := by
      unfold keyR
      have e : (decide (9 ≤ s.size) && decide (s.size ≤ 24)) = false := by
        rw [Bool.eq_false_iff]; simpa using hn
      rw [e]; rfl
    have HZ := Lib.hid hz
    have hn' : s.size < 9 ∨ 24 < s.size := by omega
    clear hz hn
    rcases hn' with h | h
    all_goals
      go_enter Try.func20, Try.ntmps20
      go_wp2
      all_goals
        go_ret
        exact ⟨ret_bool HZ.out.symm, rfl⟩
end Go.Proofs.Ytifffggppgphkaa
