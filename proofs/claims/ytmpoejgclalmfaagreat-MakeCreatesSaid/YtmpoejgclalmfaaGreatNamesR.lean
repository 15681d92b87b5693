/- Layer 13: the reference's functions. -/
import Derived.Test.YtmpoejgclalmfaaGreatNamesA
import Derived.PlainAid
namespace Go.Proofs.YtmpoejgclalmfaaGreat
open Go.RowKit Go.PlainAid
set_option linter.unusedVariables false

/-- What the reference asks at place i. -/
def okAt (s : ByteArray) (i : Nat) : Bool :=
  (smallI (bt s i) || (!(decide (i = 0) || decide (i + 1 = s.size)) && (decide (bt s i = 46) || decide (bt s i = 45)))) &&
  (decide (i = 0) || !((decide (bt s i = 46) && decide (bt s (i - 1) = 46)) || (decide (bt s i = 46) && decide (bt s (i - 1) = 45)) || (decide (bt s i = 45) && decide (bt s (i - 1) = 46))))
def serverR (s : ByteArray) : Bool := decide (1 ≤ s.size) && decide (s.size ≤ 64) && (List.range s.size).all (okAt s)

/-- A number is a dot, a hyphen, or neither: as the tests say it. -/
theorem dots (c : Int) : (Hid (decide (c = 46) = true ∧ decide (c = 45) = false) ∧ (c == 46) = true ∧ (c != 46) = false ∧ (c == 45) = false ∧ (c != 45) = true) ∨
    (Hid (decide (c = 46) = false ∧ decide (c = 45) = true) ∧ (c == 46) = false ∧ (c != 46) = true ∧ (c == 45) = true ∧ (c != 45) = false) ∨
    (Hid (decide (c = 46) = false ∧ decide (c = 45) = false) ∧ (c == 46) = false ∧ (c != 46) = true ∧ (c == 45) = false ∧ (c != 45) = true) := by
  by_cases h1 : c = 46
  · subst h1; exact .inl ⟨⟨rfl, rfl⟩, rfl, rfl, rfl, rfl⟩
  · by_cases h2 : c = 45
    · subst h2; exact .inr (.inl ⟨⟨rfl, rfl⟩, rfl, rfl, rfl, rfl⟩)
    · exact .inr (.inr ⟨⟨decide_eq_false h1, decide_eq_false h2⟩, by simpa using h1, by simpa using h1, by simpa using h2, by simpa using h2⟩)

theorem okAt_eq (s : ByteArray) (i : Nat) (cs first last c46 c45 p46 p45 : Bool) (h1 : smallI (bt s i) = cs) (h2 : decide (i = 0) = first) (h3 : decide (i + 1 = s.size) = last)
    (h4 : decide (bt s i = 46) = c46) (h5 : decide (bt s i = 45) = c45) (h6 : decide (bt s (i - 1) = 46) = p46) (h7 : decide (bt s (i - 1) = 45) = p45) :
    okAt s i = ((cs || (!(first || last) && (c46 || c45))) && (first || !((c46 && p46) || (c46 && p45) || (c45 && p46)))) := by
  unfold okAt; rw [h1, h2, h3, h4, h5, h6, h7]

theorem rserver_no (s : ByteArray) (w : World) (hs : s.size ≤ maxLen) (h1 : ¬ (1 ≤ s.size ∧ s.size ≤ 64)) :
    Calls Tryz.prog 38 #[.string s] w fun e w' => e = .returned (.bool (serverR s)) ∧ w = w' := by
  have hz : serverR s = false := by
    unfold serverR
    have : (decide (1 ≤ s.size) && decide (s.size ≤ 64)) = false := by
      rw [Bool.eq_false_iff]; simpa using h1
    rw [this]; rfl
  have HZ := Lib.hid hz
  clear hz
  unfold maxLen at hs
  go_enter Tryz.func38, Tryz.ntmps38
  go_wp2
  all_goals
    go_ret
    exact ⟨ret_bool HZ.out.symm, rfl⟩

theorem range_all_snoc (p : Nat → Bool) (k : Nat) : (List.range (k + 1)).all p = ((List.range k).all p && p k) := by
  rw [List.range_succ, List.all_append]; simp
theorem range_all_no {p : Nat → Bool} {k n : Nat} (h : k < n) (hp : p k = false) : (List.range n).all p = false := by
  rw [Bool.eq_false_iff]
  intro hh
  rw [List.all_eq_true] at hh
  have := hh k (List.mem_range.2 h)
  rw [hp] at this
  cases this

set_option maxHeartbeats 2000000 in
set_option maxRecDepth 100000 in
theorem rserver_yes (s : ByteArray) (w : World) (h1 : 1 ≤ s.size) (h2 : s.size ≤ 64) :
    Calls Tryz.prog 38 #[.string s] w fun e w' => e = .returned (.bool (serverR s)) ∧ w = w' := by
  have hb := get_bt s
  have hz : serverR s = (List.range s.size).all (okAt s) := by
    unfold serverR; rw [decide_eq_true h1, decide_eq_true h2]; rfl
  have HZ := Lib.hid hz
  clear hz
  go_enter Tryz.func38, Tryz.ntmps38
  go_wp2
  go_loop [3] (fun i => ∃ k : Nat, k ≤ s.size ∧ i = .int .i64 k ∧ (List.range k).all (okAt s) = true) (fun i => s.size - (intOf i).toNat)
  case atStart => exact ⟨0, Nat.zero_le _, rfl, rfl⟩
  case round =>
    obtain ⟨k, hk, rfl, hr⟩ := hrel
    have HR := Lib.hid hr
    clear hr
    by_cases hlt : k < s.size
    · rcases dots (bt s k) with ⟨hc, e1, e2, e3, e4⟩ | ⟨hc, e1, e2, e3, e4⟩ | ⟨hc, e1, e2, e3, e4⟩
      all_goals
        cases hsm : smallI (bt s k)
        all_goals
          have HSM := Lib.hid hsm
          clear hsm
          rcases k with _ | j
          · by_cases he : s.size = 1
            all_goals
              have hed : ((0 : Int) == (s.size : Int) - 1) = decide (0 + 1 = s.size) := by
                rw [Bool.eq_iff_iff]; simp; omega
              first | rw [decide_eq_true (by omega)] at hed | rw [decide_eq_false (by omega)] at hed
              have hl : decide (0 + 1 = s.size) = decide (0 + 1 = s.size) := rfl
              first | rw (occs := .pos [2]) [decide_eq_true (by omega)] at hl | rw (occs := .pos [2]) [decide_eq_false (by omega)] at hl
              have HL := Lib.hid hl
              clear he hl
              go_wp2_with (go_at_call 39; refine (rsmall_any _ _).mono ?_; rintro e w' ⟨rfl, rfl⟩; rw [HSM.out])
              all_goals first
                | (go_ret
                   refine ⟨ret_bool ?_, rfl⟩
                   rw [HZ.out]
                   refine (range_all_no hlt ?_).symm
                   rw [okAt_eq s 0 _ _ _ _ _ _ _ HSM.out rfl HL.out hc.out.1 hc.out.2 rfl rfl]
                   rfl)
                | (go_round
                   case rel =>
                     refine ⟨0 + 1, by omega, rfl, ?_⟩
                     rw [range_all_snoc, HR.out, okAt_eq s 0 _ _ _ _ _ _ _ HSM.out rfl HL.out hc.out.1 hc.out.2 rfl rfl]
                     rfl
                   case measure => simp [intOf]; omega)
          · by_cases he : s.size = j + 1 + 1
            all_goals
              have hl : decide (j + 1 + 1 = s.size) = decide (j + 1 + 1 = s.size) := rfl
              first | rw (occs := .pos [2]) [decide_eq_true (by omega)] at hl | rw (occs := .pos [2]) [decide_eq_false (by omega)] at hl
              have HL := Lib.hid hl
              have hed : ((j : Int) + 1 == (s.size : Int) - 1) = decide (j + 1 + 1 = s.size) := by
                rw [Bool.eq_iff_iff]; simp; omega
              rw [HL.out] at hed
              have hz0 : ((j : Int) + 1 == 0) = false := by rw [beq_eq_false_iff_ne]; omega
              clear he hl
              rcases dots (bt s j) with ⟨hd, f1, f2, f3, f4⟩ | ⟨hd, f1, f2, f3, f4⟩ | ⟨hd, f1, f2, f3, f4⟩
              all_goals
                go_wp2_with (go_at_call 39; refine (rsmall_any _ _).mono ?_; rintro e w' ⟨rfl, rfl⟩; rw [HSM.out])
                all_goals first
                  | (go_ret
                     refine ⟨ret_bool ?_, rfl⟩
                     rw [HZ.out]
                     refine (range_all_no hlt ?_).symm
                     rw [okAt_eq s (j + 1) _ _ _ _ _ _ _ HSM.out rfl HL.out hc.out.1 hc.out.2 hd.out.1 hd.out.2]
                     rfl)
                  | (go_round
                     case rel =>
                       refine ⟨j + 1 + 1, by omega, by go_num, ?_⟩
                       rw [range_all_snoc, HR.out, okAt_eq s (j + 1) _ _ _ _ _ _ _ HSM.out rfl HL.out hc.out.1 hc.out.2 hd.out.1 hd.out.2]
                       rfl
                     case measure => simp [intOf]; omega)
    · go_wp2
      go_ret
      refine ⟨ret_bool ?_, rfl⟩
      rw [HZ.out]
      obtain rfl : k = s.size := by omega
      exact HR.out.symm

theorem rserver_any (s : ByteArray) (w : World) (hs : s.size ≤ maxLen) :
    Calls Tryz.prog 38 #[.string s] w fun e w' => e = .returned (.bool (serverR s)) ∧ w = w' := by
  by_cases h : 1 ≤ s.size ∧ s.size ≤ 64
  · exact rserver_yes s w h.1 h.2
  · exact rserver_no s w hs h
end Go.Proofs.YtmpoejgclalmfaaGreat
