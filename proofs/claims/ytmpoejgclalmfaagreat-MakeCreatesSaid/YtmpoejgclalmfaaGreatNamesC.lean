/- Layer 13: the kinds of bytes as function values; strings.Cut at one byte; strings.CutPrefix. -/
import Derived.Test.YtmpoejgclalmfaaGreatNamesB
import Derived.Test.YtmpoejgclalmfaaGreatRunes
namespace Go.Proofs.YtmpoejgclalmfaaGreat
open Go.RowKit Go.PlainAid
set_option linter.unusedVariables false

def userI (c : Int) : Bool := smallI c || (decide (c = 46) || decide (c = 95) || decide (c = 61) || decide (c = 45) || decide (c = 47))

theorem small_high (c : Int) (h : 128 ≤ c) : smallI c = false := by
  unfold smallI
  rw [decide_eq_false (show ¬ c ≤ 122 by omega), decide_eq_false (show ¬ c ≤ 57 by omega)]
  simp
theorem plain_high (c : Int) (h : 128 ≤ c) : plainI c = false := by
  unfold plainI
  rw [small_high c h, decide_eq_false (show ¬ c ≤ 90 by omega), decide_eq_false (show ¬ c = 95 by omega)]
  simp
theorem srv_high (c : Int) (h : 128 ≤ c) : srvI c = false := by
  unfold srvI
  rw [small_high c h, decide_eq_false (show ¬ c = 46 by omega), decide_eq_false (show ¬ c = 45 by omega)]
  simp
theorem room_high (c : Int) (h : 128 ≤ c) : roomI c = false := by
  unfold roomI
  rw [plain_high c h, decide_eq_false (show ¬ c = 45 by omega)]
  simp
theorem user_high (c : Int) (h : 128 ≤ c) : userI c = false := by
  unfold userI
  rw [small_high c h, decide_eq_false (show ¬ c = 46 by omega), decide_eq_false (show ¬ c = 95 by omega), decide_eq_false (show ¬ c = 61 by omega), decide_eq_false (show ¬ c = 45 by omega), decide_eq_false (show ¬ c = 47 by omega)]
  rfl

theorem kind_server : IsKind 62 srvI := by
  refine ⟨fun args w => by kernel_rfl, srv_high, fun c w h0 h1 => ?_⟩
  cases hs : smallI c
  all_goals
    have hz : srvI c = (smallI c || decide (c = 46) || decide (c = 45)) := rfl
    rw [hs] at hz
    have Hs := Lib.hid hs
    have Hz := Lib.hid hz
    clear hs hz
    go_enter Tryz.func62, Tryz.ntmps62
    go_wp2_with (go_at_call 30; refine (small_any _ _).mono ?_; rintro e w' ⟨rfl, rfl⟩; rw [Hs.out])
    all_goals
      go_ret
      exact ⟨ret_bool (by rw [Hz.out, Bool.eq_iff_iff]; simp; try omega), Below.refl _ _⟩

theorem kind_room : IsKind 27 roomI := by
  refine ⟨fun args w => by kernel_rfl, room_high, fun c w h0 h1 => ?_⟩
  cases hs : plainI c
  all_goals
    have hz : roomI c = (plainI c || decide (c = 45)) := rfl
    rw [hs] at hz
    have Hs := Lib.hid hs
    have Hz := Lib.hid hz
    clear hs hz
    go_enter Tryz.func27, Tryz.ntmps27
    go_wp2_with (go_at_call 28; refine (plain_any _ _).mono ?_; rintro e w' ⟨rfl, rfl⟩; rw [Hs.out])
    all_goals
      go_ret
      exact ⟨ret_bool (by rw [Hz.out, Bool.eq_iff_iff]; simp; try omega), Below.refl _ _⟩

theorem kind_plain : IsKind 28 plainI :=
  ⟨fun args w => by kernel_rfl, plain_high, fun c w h0 h1 => (plain_any c w).mono fun e w' ⟨he, hw⟩ => ⟨he, by rw [← hw]; exact Below.refl _ _⟩⟩

theorem user_low : ∀ n : Fin 128, decide (0 ≤ Lib.indexByte [46, 95, 61, 45, 47] n.val.toUInt8) = (decide (n.val = 46) || decide (n.val = 95) || decide (n.val = 61) || decide (n.val = 45) || decide (n.val = 47)) := by decide

theorem contains_user (c : Int) (w : World) (h0 : 0 ≤ c) (h1 : c ≤ 2147483647) :
    Calls Tryz.prog 31 #[.string ⟨#[46, 95, 61, 45, 47]⟩, .int .i32 c] w fun e w' => e = .returned (.bool (decide (c = 46) || decide (c = 95) || decide (c = 61) || decide (c = 45) || decide (c = 47))) ∧ Below w.heap.size w w' := by
  by_cases hc : c < 128
  · refine (Tryz.strings_ContainsRune_ascii ⟨#[46, 95, 61, 45, 47]⟩ c w h0 hc).mono fun e w' ⟨he, hw⟩ => ⟨?_, by rw [hw]; exact Below.refl _ _⟩
    rw [he]
    refine ret_bool ?_
    obtain ⟨n, rfl⟩ := Int.eq_ofNat_of_zero_le h0
    have := user_low ⟨n, by omega⟩
    have e1 : ((n : Int)).toNat = n := by omega
    rw [e1]
    refine this.trans ?_
    have e2 : ∀ k : Nat, decide ((n : Int) = (k : Int)) = decide (n = k) := fun k => by rw [decide_eq_decide]; omega
    have a1 := e2 46
    have a2 := e2 95
    have a3 := e2 61
    have a4 := e2 45
    have a5 := e2 47
    simp only [Int.cast_ofNat_Int] at a1 a2 a3 a4 a5
    rw [a1, a2, a3, a4, a5]
  · refine (containsRune_high ⟨#[46, 95, 61, 45, 47]⟩ c w (by omega) h1 (by decide) (by decide) (by decide)).mono fun e w' ⟨he, hw⟩ => ⟨?_, hw⟩
    rw [he, decide_eq_false (show ¬ c = 46 by omega), decide_eq_false (show ¬ c = 95 by omega), decide_eq_false (show ¬ c = 61 by omega), decide_eq_false (show ¬ c = 45 by omega), decide_eq_false (show ¬ c = 47 by omega)]
    rfl

theorem kind_user : IsKind 29 userI := by
  refine ⟨fun args w => by kernel_rfl, user_high, fun c w h0 h1 => ?_⟩
  cases hs : smallI c
  all_goals
    have hz : userI c = (smallI c || (decide (c = 46) || decide (c = 95) || decide (c = 61) || decide (c = 45) || decide (c = 47))) := rfl
    rw [hs] at hz
    have Hs := Lib.hid hs
    have Hz := Lib.hid hz
    clear hs hz
    have hb0 := Below.refl w.heap.size w
    generalize hx : (decide (c = 46) || decide (c = 95) || decide (c = 61) || decide (c = 45) || decide (c = 47)) = x at Hz
    have Hx := Lib.hid hx
    clear hx
    go_enter Tryz.func29, Tryz.ntmps29
    go_wp2_with (first
      | (go_at_call 30; refine (small_any _ _).mono ?_; rintro e w' ⟨rfl, rfl⟩; rw [Hs.out])
      | (go_at_call 31; refine (contains_user _ _ h0 h1).mono ?_; rintro e w' ⟨rfl, hb⟩; rw [Hx.out]))
    all_goals
      go_ret
      exact ⟨ret_bool (by rw [Hz.out]; simp), by first | exact hb | exact hb0⟩
end Go.Proofs.YtmpoejgclalmfaaGreat
