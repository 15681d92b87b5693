/- Layer 13: the kinds of bytes, in the program and in the reference. -/
import Derived.Test.YtpmdpfgaafaceaaBase
namespace Go.Proofs.Ytpmdpfgaafaceaa
open Go.RowKit

def smallI (c : Int) : Bool := (decide (97 ≤ c) && decide (c ≤ 122)) || (decide (48 ≤ c) && decide (c ≤ 57))
def plainI (c : Int) : Bool := smallI c || (decide (65 ≤ c) && decide (c ≤ 90)) || decide (c = 95)
def srvI (c : Int) : Bool := smallI c || decide (c = 46) || decide (c = 45)
def roomI (c : Int) : Bool := plainI c || decide (c = 45)

theorem small_any (c : Int) (w : World) :
    Calls Try.prog 65 #[.int .i32 c] w fun e w' => e = .returned (.bool (smallI c)) ∧ w = w' := by
  go_enter Try.func65, Try.ntmps65
  go_wp2
  all_goals
    go_ret
    exact ⟨ret_bool (by unfold smallI; rw [Bool.eq_iff_iff]; simp; omega), rfl⟩

theorem rsmall_any (c : Int) (w : World) :
    Calls Try.prog 77 #[.int .u8 c] w fun e w' => e = .returned (.bool (smallI c)) ∧ w = w' := by
  go_enter Try.func77, Try.ntmps77
  go_wp2
  all_goals
    go_ret
    exact ⟨ret_bool (by unfold smallI; rw [Bool.eq_iff_iff]; simp; omega), rfl⟩

theorem plain_any (c : Int) (w : World) :
    Calls Try.prog 63 #[.int .i32 c] w fun e w' => e = .returned (.bool (plainI c)) ∧ w = w' := by
  cases hs : smallI c
  all_goals
    have hz : plainI c = (smallI c || (decide (65 ≤ c) && decide (c ≤ 90)) || decide (c = 95)) := rfl
    rw [hs] at hz
    have Hs := Lib.hid hs
    have Hz := Lib.hid hz
    clear hs hz
    go_enter Try.func63, Try.ntmps63
    go_wp2_with (go_at_call 65; refine (small_any _ _).mono ?_; rintro e w' ⟨rfl, rfl⟩; rw [Hs.out])
    all_goals
      go_ret
      exact ⟨ret_bool (by rw [Hz.out, Bool.eq_iff_iff]; simp; try omega), rfl⟩

theorem rplain_any (c : Int) (w : World) :
    Calls Try.prog 75 #[.int .u8 c] w fun e w' => e = .returned (.bool (plainI c)) ∧ w = w' := by
  cases hs : smallI c
  all_goals
    have hz : plainI c = (smallI c || (decide (65 ≤ c) && decide (c ≤ 90)) || decide (c = 95)) := rfl
    rw [hs] at hz
    have Hs := Lib.hid hs
    have Hz := Lib.hid hz
    clear hs hz
    go_enter Try.func75, Try.ntmps75
    go_wp2_with (go_at_call 77; refine (rsmall_any _ _).mono ?_; rintro e w' ⟨rfl, rfl⟩; rw [Hs.out])
    all_goals
      go_ret
      exact ⟨ret_bool (by rw [Hz.out, Bool.eq_iff_iff]; simp; try omega), rfl⟩
end Go.Proofs.Ytpmdpfgaafaceaa
