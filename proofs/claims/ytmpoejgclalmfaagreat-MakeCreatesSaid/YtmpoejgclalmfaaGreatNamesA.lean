/- Layer 13: the kinds of bytes, in the program and in the reference. -/
import Derived.Test.YtmpoejgclalmfaaGreatBase
namespace Go.Proofs.YtmpoejgclalmfaaGreat
open Go.RowKit

def smallI (c : Int) : Bool := (decide (97 ≤ c) && decide (c ≤ 122)) || (decide (48 ≤ c) && decide (c ≤ 57))
def plainI (c : Int) : Bool := smallI c || (decide (65 ≤ c) && decide (c ≤ 90)) || decide (c = 95)
def srvI (c : Int) : Bool := smallI c || decide (c = 46) || decide (c = 45)
def roomI (c : Int) : Bool := plainI c || decide (c = 45)

theorem small_any (c : Int) (w : World) :
    Calls Tryz.prog 30 #[.int .i32 c] w fun e w' => e = .returned (.bool (smallI c)) ∧ w = w' := by
  go_enter Tryz.func30, Tryz.ntmps30
  go_wp2
  all_goals
    go_ret
    exact ⟨ret_bool (by unfold smallI; rw [Bool.eq_iff_iff]; simp; omega), rfl⟩

theorem rsmall_any (c : Int) (w : World) :
    Calls Tryz.prog 39 #[.int .u8 c] w fun e w' => e = .returned (.bool (smallI c)) ∧ w = w' := by
  go_enter Tryz.func39, Tryz.ntmps39
  go_wp2
  all_goals
    go_ret
    exact ⟨ret_bool (by unfold smallI; rw [Bool.eq_iff_iff]; simp; omega), rfl⟩

theorem plain_any (c : Int) (w : World) :
    Calls Tryz.prog 28 #[.int .i32 c] w fun e w' => e = .returned (.bool (plainI c)) ∧ w = w' := by
  cases hs : smallI c
  all_goals
    have hz : plainI c = (smallI c || (decide (65 ≤ c) && decide (c ≤ 90)) || decide (c = 95)) := rfl
    rw [hs] at hz
    have Hs := Lib.hid hs
    have Hz := Lib.hid hz
    clear hs hz
    go_enter Tryz.func28, Tryz.ntmps28
    go_wp2_with (go_at_call 30; refine (small_any _ _).mono ?_; rintro e w' ⟨rfl, rfl⟩; rw [Hs.out])
    all_goals
      go_ret
      exact ⟨ret_bool (by rw [Hz.out, Bool.eq_iff_iff]; simp; try omega), rfl⟩

theorem rplain_any (c : Int) (w : World) :
    Calls Tryz.prog 37 #[.int .u8 c] w fun e w' => e = .returned (.bool (plainI c)) ∧ w = w' := by
  cases hs : smallI c
  all_goals
    have hz : plainI c = (smallI c || (decide (65 ≤ c) && decide (c ≤ 90)) || decide (c = 95)) := rfl
    rw [hs] at hz
    have Hs := Lib.hid hs
    have Hz := Lib.hid hz
    clear hs hz
    go_enter Tryz.func37, Tryz.ntmps37
    go_wp2_with (go_at_call 39; refine (rsmall_any _ _).mono ?_; rintro e w' ⟨rfl, rfl⟩; rw [Hs.out])
    all_goals
      go_ret
      exact ⟨ret_bool (by rw [Hz.out, Bool.eq_iff_iff]; simp; try omega), rfl⟩
end Go.Proofs.YtmpoejgclalmfaaGreat
