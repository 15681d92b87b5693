/- The document's layer 1 (coveyref01), walked: size, isPoint, Bytes, At. -/
import Derived.Test.YtnjhmnolngdfaaaGreatDoorVuB
import Derived.Test.YtnjhmnolngdfaaaGreatDoorU8i
import Derived.Test.YtnjhmnolngdfaaaGreatDoorMemS
namespace Go.Proofs.YtnjhmnolngdfaaaGreatDoor
open Go.RowKit Go.PlainAid
set_option linter.unusedVariables false
set_option linter.unusedSimpArgs false
theorem size_any (c : Int) (h0 : 0 ≤ c) (h1 : c ≤ 255) (w : World) : Calls Tryz.prog 112 #[.int .u8 c] w fun e w' => e = .returned (.int .i64 (szI c)) ∧ w' = w := by
  by_cases c1 : c < 128
  · have H : Hid (szI c = 1) := Lib.hid (by unfold szI; rw [if_pos c1])
    go_enter Tryz.func112, Tryz.ntmps112
    go_wp2
    go_ret
    exact ⟨ret_int (by rw [H.out]; rfl), rfl⟩
  · by_cases c2 : 192 ≤ c ∧ c < 224
    · have H : Hid (szI c = 2) := Lib.hid (by unfold szI; rw [if_neg c1, if_pos c2])
      obtain ⟨c2, c3⟩ := c2
      go_enter Tryz.func112, Tryz.ntmps112
      go_wp2
      go_ret
      exact ⟨ret_int (by rw [H.out]; rfl), rfl⟩
    · by_cases c3 : 224 ≤ c ∧ c < 240
      · have H : Hid (szI c = 3) := Lib.hid (by unfold szI; rw [if_neg c1, if_neg c2, if_pos c3])
        obtain ⟨c3, c4⟩ := c3
        have c5 : 192 ≤ c := by omega
        have c6 : ¬ c < 224 := by omega
        clear c2
        go_enter Tryz.func112, Tryz.ntmps112
        go_wp2
        go_ret
        exact ⟨ret_int (by rw [H.out]; rfl), rfl⟩
      · by_cases c4 : 240 ≤ c ∧ c < 248
        · have H : Hid (szI c = 4) := Lib.hid (by unfold szI; rw [if_neg c1, if_neg c2, if_neg c3, if_pos c4])
          obtain ⟨c4, c5⟩ := c4
          have c6 : 192 ≤ c := by omega
          have c7 : ¬ c < 224 := by omega
          have c8 : 224 ≤ c := by omega
          have c9 : ¬ c < 240 := by omega
          clear c2 c3
          go_enter Tryz.func112, Tryz.ntmps112
          go_wp2
          go_ret
          exact ⟨ret_int (by rw [H.out]; rfl), rfl⟩
        · have H : Hid (szI c = 0) := Lib.hid (by unfold szI; rw [if_neg c1, if_neg c2, if_neg c3, if_neg c4])
          by_cases c5 : c < 192
          · have c6 : ¬ 192 ≤ c := by omega
            have c7 : ¬ 224 ≤ c := by omega
            have c8 : ¬ 240 ≤ c := by omega
            clear c2 c3 c4
            go_enter Tryz.func112, Tryz.ntmps112
            go_wp2
            go_ret
            exact ⟨ret_int (by rw [H.out]; rfl), rfl⟩
          · have c6 : 192 ≤ c := by omega
            have c7 : ¬ c < 224 := by omega
            have c8 : 224 ≤ c := by omega
            have c9 : ¬ c < 240 := by omega
            have c10 : 240 ≤ c := by omega
            have c11 : ¬ c < 248 := by omega
            clear c2 c3 c4
            go_enter Tryz.func112, Tryz.ntmps112
            go_wp2
            go_ret
            exact ⟨ret_int (by rw [H.out]; rfl), rfl⟩
theorem point_any (p : Int) (w : World) : Calls Tryz.prog 113 #[.int .i64 p] w fun e w' => e = .returned (.bool (ptB p)) ∧ w' = w := by
  by_cases c1 : 0 ≤ p
  · by_cases c2 : p ≤ 1114111
    · by_cases c3 : p < 55296
      · have H : Hid (ptB p = true) := Lib.hid (by unfold ptB; simp; omega)
        go_enter Tryz.func113, Tryz.ntmps113
        go_wp2
        go_ret
        exact ⟨ret_bool (by rw [H.out]), rfl⟩
      · by_cases c4 : 57343 < p
        · have H : Hid (ptB p = true) := Lib.hid (by unfold ptB; simp; omega)
          go_enter Tryz.func113, Tryz.ntmps113
          go_wp2
          go_ret
          exact ⟨ret_bool (by rw [H.out]), rfl⟩
        · have H : Hid (ptB p = false) := Lib.hid (by unfold ptB; simp; omega)
          go_enter Tryz.func113, Tryz.ntmps113
          go_wp2
          go_ret
          exact ⟨ret_bool (by rw [H.out]), rfl⟩
    · have H : Hid (ptB p = false) := Lib.hid (by unfold ptB; simp; omega)
      go_enter Tryz.func113, Tryz.ntmps113
      go_wp2
      go_ret
      exact ⟨ret_bool (by rw [H.out]), rfl⟩
  · have H : Hid (ptB p = false) := Lib.hid (by unfold ptB; simp; omega)
    go_enter Tryz.func113, Tryz.ntmps113
    go_wp2
    go_ret
    exact ⟨ret_bool (by rw [H.out]), rfl⟩
/-- The call gave a new row of these bytes. -/
def NewB (l : List Value) (w : World) (e : Ending) (w' : World) : Prop := ∃ g, w.heap.size ≤ g ∧ e = .returned (.slice (some ⟨g, 0, none⟩) l.length l.length) ∧ IBox w' g 5 l.toArray ∧ Below w.heap.size w w'
theorem NewB.mk {w : World} {l : List Value} {n : Nat} {arr : Array Value} (hn : l.length = n) (ha : l.toArray = arr) : NewB l w (.returned (.slice (some ⟨w.heap.size, 0, none⟩) n n)) (w.alloc (.cells arr 5)) := by
  subst hn ha
  exact ⟨_, Nat.le_refl _, rfl, IBox.new _ _ _, (Below.refl _ _).alloc (Nat.le_refl _) _⟩
set_option maxHeartbeats 1000000 in
theorem bytes_any {p : Int} (hp : Scal p) (w : World) : Calls Tryz.prog 93 #[.int .i64 p] w (NewB (Lib.runeCells p) w) := by
  have hp' := hp
  unfold Scal at hp'
  have h0 : 0 ≤ p := by omega
  have h1 : p ≤ 1114111 := by omega
  have q0 : 0 ≤ p % 64 := by omega
  have q1 : p % 64 ≤ 63 := by omega
  have q2 : 0 ≤ p / 64 := by omega
  have q3 : 0 ≤ p / 4096 := by omega
  have q4 : 0 ≤ p / 64 % 64 := by omega
  have q5 : p / 64 % 64 ≤ 63 := by omega
  have q6 : 0 ≤ p / 4096 % 64 := by omega
  have q7 : p / 4096 % 64 ≤ 63 := by omega
  have q8 : 0 ≤ p / 262144 := by omega
  by_cases c1 : p < 128
  · have H : Hid (Lib.runeCells p = [.int .u8 p]) := Lib.hid (by unfold Lib.runeCells; rw [Lib.encodeRuneZ_one (by omega) (by omega)]; rfl)
    clear hp hp'
    go_enter Tryz.func93, Tryz.ntmps93
    go_wp2
    go_ret
    exact NewB.mk (by rw [H.out]; rfl) (by rw [H.out])
  · by_cases c2 : p < 2048
    · have H : Hid (Lib.runeCells p = [.int .u8 (192 + p / 64), .int .u8 (128 + p % 64)]) := Lib.hid (by unfold Lib.runeCells; rw [Lib.encodeRuneZ_two (by omega) (by omega)]; rfl)
      have r1 : p / 64 ≤ 31 := by omega
      clear hp hp'
      go_enter Tryz.func93, Tryz.ntmps93
      go_wp2
      go_ret
      exact NewB.mk (by rw [H.out]; rfl) (by rw [H.out])
    · by_cases c3 : p < 65536
      · have H : Hid (Lib.runeCells p = [.int .u8 (224 + p / 4096), .int .u8 (128 + p / 64 % 64), .int .u8 (128 + p % 64)]) := Lib.hid (by unfold Lib.runeCells; rw [Lib.encodeRuneZ_three (by omega)]; rfl)
        have r1 : p / 4096 ≤ 15 := by omega
        clear hp hp'
        go_enter Tryz.func93, Tryz.ntmps93
        go_wp2
        go_ret
        exact NewB.mk (by rw [H.out]; rfl) (by rw [H.out])
      · have H : Hid (Lib.runeCells p = [.int .u8 (240 + p / 262144), .int .u8 (128 + p / 4096 % 64), .int .u8 (128 + p / 64 % 64), .int .u8 (128 + p % 64)]) := Lib.hid (by unfold Lib.runeCells; rw [Lib.encodeRuneZ_four (by omega) (by omega)]; rfl)
        have r1 : p / 262144 ≤ 4 := by omega
        clear hp hp'
        go_enter Tryz.func93, Tryz.ntmps93
        go_wp2
        go_ret
        exact NewB.mk (by rw [H.out]; rfl) (by rw [H.out])
end Go.Proofs.YtnjhmnolngdfaaaGreatDoor
