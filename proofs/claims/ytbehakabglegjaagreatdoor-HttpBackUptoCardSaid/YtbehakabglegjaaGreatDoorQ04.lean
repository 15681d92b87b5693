/- The document's way to read a character off its bytes (layer 1), in plain words: it finds the characters that Go's decoder finds, and nothing else. The document's layer 1 (coveyref01), walked: size, isPoint, Bytes, At. -/
import Derived.PlainAid
import Derived.Test.YtbehakabglegjaaGreatDoorQ03
import Derived.Test.YtbehakabglegjaaGreatDoorQ02
namespace Go.Proofs.YtbehakabglegjaaGreatDoor
open Go.PlainAid
set_option linter.unusedVariables false
set_option linter.unusedSimpArgs false
/-- How many bytes a character has whose first one that is. -/
def szI (c : Int) : Nat := if c < 128 then 1 else if 192 ≤ c ∧ c < 224 then 2 else if 224 ≤ c ∧ c < 240 then 3 else if 240 ≤ c ∧ c < 248 then 4 else 0
def offI (n : Nat) : Int := if n = 2 then 192 else if n = 3 then 224 else if n = 4 then 240 else 0
/-- The number behind k further bytes. -/
def valI (s : ByteArray) (i n : Nat) : Nat → Int
  | 0 => bt s i - offI n
  | k + 1 => 64 * valI s i n k + bt s (i + (k + 1)) - 128
def ptB (p : Int) : Bool := (decide (0 ≤ p) && decide (p ≤ 1114111)) && (decide (p < 55296) || decide (57343 < p))
def lenE (p : Int) : Nat := if p < 128 then 1 else if p < 2048 then 2 else if p < 65536 then 3 else 4
def badU (s : ByteArray) (i : Nat) : Prop := (Utf8.decode s i).1 = 65533 ∧ (Utf8.decode s i).2 ≤ 1
theorem pt_scal {p : Int} : ptB p = true ↔ Scal p := by unfold ptB Scal; simp; omega
theorem lenE_is {p : Int} (h : Scal p) : (Lib.encodeRune p).length = lenE p := by
  unfold Scal at h
  unfold lenE Lib.encodeRune
  rw [List.length_map]
  by_cases c1 : p ≤ 127
  · rw [Lib.encodeRuneZ_one (by omega) c1, if_pos (by omega)]; rfl
  · by_cases c2 : p ≤ 2047
    · rw [Lib.encodeRuneZ_two (by omega) c2, if_neg (by omega), if_pos (by omega)]; rfl
    · by_cases c3 : p ≤ 65535
      · rw [Lib.encodeRuneZ_three (by omega), if_neg (by omega), if_neg (by omega), if_pos (by omega)]; rfl
      · rw [Lib.encodeRuneZ_four (by omega) (by omega), if_neg (by omega), if_neg (by omega), if_neg (by omega)]; rfl
theorem get_nat (s : ByteArray) (i : Nat) : (s.get! i).toNat = (bt s i).toNat := by
  rcases Nat.lt_or_ge i s.size with h | h
  · rw [← get_bt s i h]
    have e : s.get! i = s[i] := by simp [ByteArray.get!, getElem!_pos, h]; rfl
    rw [e]; rfl
  · rw [bt_end s h]
    have e : s.get! i = 0 := by simp [ByteArray.get!, getElem!_def, h]; rfl
    rw [e]; rfl
theorem dec_bt (s : ByteArray) (i : Nat) : Utf8.decode s i = Lib.decodeN (s.size - i) (bt s i).toNat (bt s (i + 1)).toNat (bt s (i + 2)).toNat (bt s (i + 3)).toNat := by
  rw [Lib.decode_at, get_nat, get_nat, get_nat, get_nat]
theorem at_none {s : ByteArray} {i : Nat} (hi : i < s.size) (h : szI (bt s i) = 0 ∨ s.size < i + szI (bt s i)) : badU s i := by
  unfold badU
  rw [dec_bt]
  have h0 := bt_nonneg s i
  have h1 := bt_le s i
  generalize bt s i = b0 at *
  generalize (bt s (i + 1)).toNat = b1 at *
  generalize (bt s (i + 2)).toNat = b2 at *
  generalize (bt s (i + 3)).toNat = b3 at *
  unfold szI at h
  unfold Lib.decodeN
  repeat' split at h
  all_goals (try omega)
  all_goals
    rw [if_neg (by omega), if_neg (by omega), if_neg (by omega), if_neg (by omega)]
    exact ⟨rfl, Nat.le_refl _⟩
theorem at_cont {s : ByteArray} {i n m : Nat} (hn : szI (bt s i) = n) (hs : i + n ≤ s.size) (h1 : 1 ≤ m) (hm : m < n) (h : ¬ (128 ≤ bt s (i + m) ∧ bt s (i + m) ≤ 191)) : badU s i := by
  unfold badU
  rw [dec_bt]
  have h0 := bt_nonneg s i
  have h0' := bt_le s i
  have k1 := bt_nonneg s (i + 1)
  have k2 := bt_nonneg s (i + 2)
  have k3 := bt_nonneg s (i + 3)
  have hm4 : n ≤ 4 := by unfold szI at hn; repeat' split at hn
                         all_goals omega
  have hc : (m = 1 ∧ ¬ (128 ≤ bt s (i + 1) ∧ bt s (i + 1) ≤ 191)) ∨ (m = 2 ∧ ¬ (128 ≤ bt s (i + 2) ∧ bt s (i + 2) ≤ 191)) ∨ (m = 3 ∧ ¬ (128 ≤ bt s (i + 3) ∧ bt s (i + 3) ≤ 191)) := by
    have : m = 1 ∨ m = 2 ∨ m = 3 := by omega
    rcases this with rfl | rfl | rfl
    · exact .inl ⟨rfl, h⟩
    · exact .inr (.inl ⟨rfl, h⟩)
    · exact .inr (.inr ⟨rfl, h⟩)
  clear h
  generalize bt s i = b0 at *
  generalize bt s (i + 1) = b1 at *
  generalize bt s (i + 2) = b2 at *
  generalize bt s (i + 3) = b3 at *
  unfold szI at hn
  unfold Lib.decodeN
  repeat' split at hn
  all_goals (try omega)
  all_goals
    rw [if_neg (by omega), if_neg (by omega), if_neg (by omega), if_neg (by omega)]
    exact ⟨rfl, Nat.le_refl _⟩
theorem at_all {s : ByteArray} {i n : Nat} (hn : szI (bt s i) = n) (hn0 : n ≠ 0) (hs : i + n ≤ s.size) (h : ∀ m, 1 ≤ m → m < n → 128 ≤ bt s (i + m) ∧ bt s (i + m) ≤ 191) :
    (ptB (valI s i n (n - 1)) = true ∧ lenE (valI s i n (n - 1)) = n → Utf8.decode s i = ((valI s i n (n - 1)).toNat, n) ∧ ¬ badU s i) ∧ (¬ (ptB (valI s i n (n - 1)) = true ∧ lenE (valI s i n (n - 1)) = n) → badU s i) := by
  unfold badU
  rw [pt_scal, dec_bt]
  have h0 := bt_nonneg s i
  have h0' := bt_le s i
  have hn' := hn
  unfold szI at hn
  have hcase : n = 1 ∨ n = 2 ∨ n = 3 ∨ n = 4 := by
    repeat' split at hn
    all_goals omega
  rcases hcase with rfl | rfl | rfl | rfl
  · have hv : valI s i 1 (1 - 1) = bt s i - offI 1 := rfl
    rw [hv]
    clear hv
    generalize bt s i = b0 at *
    have hb : b0 < 128 := by repeat' split at hn
                             all_goals omega
    rw [show b0 - offI 1 = b0 by unfold offI; simp]
    unfold Lib.decodeN lenE Scal
    rw [if_pos (by omega), if_pos (by omega)]
    refine ⟨fun _ => ⟨rfl, by dsimp only; omega⟩, fun hh => absurd ⟨.inl (by omega), rfl⟩ hh⟩
  · have hv : valI s i 2 (2 - 1) = 64 * (bt s i - offI 2) + bt s (i + 1) - 128 := rfl
    rw [hv]
    clear hv
    have c1 := h 1 (by omega) (by omega)
    generalize bt s i = b0 at *
    generalize bt s (i + 1) = b1 at *
    have hb : 192 ≤ b0 ∧ b0 < 224 := by repeat' split at hn
                                        all_goals omega
    rw [show b0 - offI 2 = b0 - 192 by unfold offI; simp]
    unfold Lib.decodeN
    rw [if_neg (by omega), if_pos (by omega)]
    by_cases hp : 128 ≤ 64 * (b0 - 192) + b1 - 128
    · rw [if_pos (by omega)]
      refine ⟨fun _ => ⟨?_, by dsimp only; omega⟩, fun hh => absurd ?_ hh⟩
      · ext <;> dsimp only
        omega
      · unfold Scal lenE
        exact ⟨by omega, by rw [if_neg (by omega), if_pos (by omega)]⟩
    · rw [if_neg (by omega)]
      refine ⟨fun hh => ?_, fun _ => ⟨rfl, Nat.le_refl _⟩⟩
      exfalso
      have := hh.2
      unfold lenE at this
      rw [if_pos (by omega)] at this
      omega
  · have hv : valI s i 3 (3 - 1) = 64 * (64 * (bt s i - offI 3) + bt s (i + 1) - 128) + bt s (i + 2) - 128 := rfl
    rw [hv]
    clear hv
    have c1 := h 1 (by omega) (by omega)
    have c2 := h 2 (by omega) (by omega)
    generalize bt s i = b0 at *
    generalize bt s (i + 1) = b1 at *
    generalize bt s (i + 2) = b2 at *
    have hb : 224 ≤ b0 ∧ b0 < 240 := by repeat' split at hn
                                        all_goals omega
    rw [show b0 - offI 3 = b0 - 224 by unfold offI; simp]
    unfold Lib.decodeN
    rw [if_neg (by omega), if_neg (by omega), if_pos (by omega)]
    by_cases hp : 2048 ≤ 64 * (64 * (b0 - 224) + b1 - 128) + b2 - 128 ∧ (64 * (64 * (b0 - 224) + b1 - 128) + b2 - 128 < 55296 ∨ 57343 < 64 * (64 * (b0 - 224) + b1 - 128) + b2 - 128)
    · rw [if_pos (by omega)]
      refine ⟨fun _ => ⟨?_, by dsimp only; omega⟩, fun hh => absurd ?_ hh⟩
      · ext <;> dsimp only
        omega
      · unfold Scal lenE
        exact ⟨by omega, by rw [if_neg (by omega), if_neg (by omega), if_pos (by omega)]⟩
    · rw [if_neg (by omega)]
      refine ⟨fun hh => ?_, fun _ => ⟨rfl, Nat.le_refl _⟩⟩
      exfalso
      have h1 := hh.1
      have h2 := hh.2
      unfold Scal at h1
      unfold lenE at h2
      repeat' split at h2
      all_goals omega
  · have hv : valI s i 4 (4 - 1) = 64 * (64 * (64 * (bt s i - offI 4) + bt s (i + 1) - 128) + bt s (i + 2) - 128) + bt s (i + 3) - 128 := rfl
    rw [hv]
    clear hv
    have c1 := h 1 (by omega) (by omega)
    have c2 := h 2 (by omega) (by omega)
    have c3 := h 3 (by omega) (by omega)
    generalize bt s i = b0 at *
    generalize bt s (i + 1) = b1 at *
    generalize bt s (i + 2) = b2 at *
    generalize bt s (i + 3) = b3 at *
    have hb : 240 ≤ b0 ∧ b0 < 248 := by repeat' split at hn
                                        all_goals omega
    rw [show b0 - offI 4 = b0 - 240 by unfold offI; simp]
    unfold Lib.decodeN
    rw [if_neg (by omega), if_neg (by omega), if_neg (by omega), if_pos (by omega)]
    by_cases hp : 65536 ≤ 64 * (64 * (64 * (b0 - 240) + b1 - 128) + b2 - 128) + b3 - 128 ∧ 64 * (64 * (64 * (b0 - 240) + b1 - 128) + b2 - 128) + b3 - 128 ≤ 1114111
    · rw [if_pos (by omega)]
      refine ⟨fun _ => ⟨?_, by dsimp only; omega⟩, fun hh => absurd ?_ hh⟩
      · ext <;> dsimp only
        omega
      · unfold Scal lenE
        exact ⟨by omega, by rw [if_neg (by omega), if_neg (by omega), if_neg (by omega)]⟩
    · rw [if_neg (by omega)]
      refine ⟨fun hh => ?_, fun _ => ⟨rfl, Nat.le_refl _⟩⟩
      exfalso
      have h1 := hh.1
      have h2 := hh.2
      unfold Scal at h1
      unfold lenE at h2
      repeat' split at h2
      all_goals omega
/-- What the document's way finds at a place: the number and how many bytes; two noughts: none stands there. -/
def atS (s : ByteArray) (i : Nat) : Nat × Nat := if (Utf8.decode s i).1 = 65533 ∧ (Utf8.decode s i).2 ≤ 1 then (0, 0) else Utf8.decode s i
theorem atS_bad {s : ByteArray} {i : Nat} (h : badU s i) : atS s i = (0, 0) := if_pos h
theorem atS_ok {s : ByteArray} {i : Nat} (h : ¬ badU s i) : atS s i = Utf8.decode s i := if_neg h
end Go.Proofs.YtbehakabglegjaaGreatDoor
namespace Go.Proofs.YtbehakabglegjaaGreatDoor
open Go.RowKit Go.PlainAid
set_option linter.unusedVariables false
set_option linter.unusedSimpArgs false
theorem size_any (c : Int) (h0 : 0 ≤ c) (h1 : c ≤ 255) (w : World) : Calls Tryz.prog 105 #[.int .u8 c] w fun e w' => e = .returned (.int .i64 (szI c)) ∧ w' = w := by
  by_cases c1 : c < 128
  · have H : Hid (szI c = 1) := Lib.hid (by unfold szI; rw [if_pos c1])
    go_enter Tryz.func105, Tryz.ntmps105
    go_wp2
    go_ret
    exact ⟨ret_int (by rw [H.out]; rfl), rfl⟩
  · by_cases c2 : 192 ≤ c ∧ c < 224
    · have H : Hid (szI c = 2) := Lib.hid (by unfold szI; rw [if_neg c1, if_pos c2])
      obtain ⟨c2, c3⟩ := c2
      go_enter Tryz.func105, Tryz.ntmps105
      go_wp2
      go_ret
      exact ⟨ret_int (by rw [H.out]; rfl), rfl⟩
    · by_cases c3 : 224 ≤ c ∧ c < 240
      · have H : Hid (szI c = 3) := Lib.hid (by unfold szI; rw [if_neg c1, if_neg c2, if_pos c3])
        obtain ⟨c3, c4⟩ := c3
        have c5 : 192 ≤ c := by omega
        have c6 : ¬ c < 224 := by omega
        clear c2
        go_enter Tryz.func105, Tryz.ntmps105
        go_wp2
        go_ret
        exact ⟨ret_int (by rw [H.out]; rfl), rfl⟩
      · by_cases c4 : 240 ≤ c ∧ c < 248
        · have H : Hid (szI c = 4) := Lib.hid (by unfold szI; rw [if_neg c1, if_neg c2, if_neg c3, if_pos c4])
          obtain ⟨c4, c5⟩ := c4
          have c6 : 192 ≤ c := by omega
          have c7 : ¬ c < 224 := by omega
          have c8 : 224 ≤ c := by omega
          have c9 : ¬ c < 240 := by omega
          clear c2 c3
          go_enter Tryz.func105, Tryz.ntmps105
          go_wp2
          go_ret
          exact ⟨ret_int (by rw [H.out]; rfl), rfl⟩
        · have H : Hid (szI c = 0) := Lib.hid (by unfold szI; rw [if_neg c1, if_neg c2, if_neg c3, if_neg c4])
          by_cases c5 : c < 192
          · have c6 : ¬ 192 ≤ c := by omega
            have c7 : ¬ 224 ≤ c := by omega
            have c8 : ¬ 240 ≤ c := by omega
            clear c2 c3 c4
            go_enter Tryz.func105, Tryz.ntmps105
            go_wp2
            go_ret
            exact ⟨ret_int (by rw [H.out]; rfl), rfl⟩
          · have c6 : 192 ≤ c := by omega
            have c7 : ¬ c < 224 := by omega
            have c8 : 224 ≤ c := by omega
            have c9 : ¬ c < 240 := by omega
            have c10 : 240 ≤ c := by omega
            have c11 : ¬ c < 248 := by omega
            clear c2 c3 c4
            go_enter Tryz.func105, Tryz.ntmps105
            go_wp2
            go_ret
            exact ⟨ret_int (by rw [H.out]; rfl), rfl⟩
theorem point_any (p : Int) (w : World) : Calls Tryz.prog 106 #[.int .i64 p] w fun e w' => e = .returned (.bool (ptB p)) ∧ w' = w := by
  by_cases c1 : 0 ≤ p
  · by_cases c2 : p ≤ 1114111
    · by_cases c3 : p < 55296
      · have H : Hid (ptB p = true) := Lib.hid (by unfold ptB; simp; omega)
        go_enter Tryz.func106, Tryz.ntmps106
        go_wp2
        go_ret
        exact ⟨ret_bool (by rw [H.out]), rfl⟩
      · by_cases c4 : 57343 < p
        · have H : Hid (ptB p = true) := Lib.hid (by unfold ptB; simp; omega)
          go_enter Tryz.func106, Tryz.ntmps106
          go_wp2
          go_ret
          exact ⟨ret_bool (by rw [H.out]), rfl⟩
        · have H : Hid (ptB p = false) := Lib.hid (by unfold ptB; simp; omega)
          go_enter Tryz.func106, Tryz.ntmps106
          go_wp2
          go_ret
          exact ⟨ret_bool (by rw [H.out]), rfl⟩
    · have H : Hid (ptB p = false) := Lib.hid (by unfold ptB; simp; omega)
      go_enter Tryz.func106, Tryz.ntmps106
      go_wp2
      go_ret
      exact ⟨ret_bool (by rw [H.out]), rfl⟩
  · have H : Hid (ptB p = false) := Lib.hid (by unfold ptB; simp; omega)
    go_enter Tryz.func106, Tryz.ntmps106
    go_wp2
    go_ret
    exact ⟨ret_bool (by rw [H.out]), rfl⟩
/-- The call gave a new row of these bytes. -/
def NewB (l : List Value) (w : World) (e : Ending) (w' : World) : Prop := ∃ g, w.heap.size ≤ g ∧ e = .returned (.slice (some ⟨g, 0, none⟩) l.length l.length) ∧ IBox w' g 5 l.toArray ∧ Below w.heap.size w w'
theorem NewB.mk {w : World} {l : List Value} {n : Nat} {arr : Array Value} (hn : l.length = n) (ha : l.toArray = arr) : NewB l w (.returned (.slice (some ⟨w.heap.size, 0, none⟩) n n)) (w.alloc (.cells arr 5)) := by
  subst hn ha
  exact ⟨_, Nat.le_refl _, rfl, IBox.new _ _ _, (Below.refl _ _).alloc (Nat.le_refl _) _⟩
set_option maxHeartbeats 1000000 in
theorem bytes_any {p : Int} (hp : Scal p) (w : World) : Calls Tryz.prog 107 #[.int .i64 p] w (NewB (Lib.runeCells p) w) := by
  have hp' := hp
  unfold Scal at hp'
  have h0 : 0 ≤ p := by omega
  have h1 : p ≤ 1114111 := by omega
  have q0 : 0 ≤ p % 64 := by omega
  have q1 : p % 64 ≤ 63 := by omega
  have q2 : 0 ≤ p / 64 := by omega
  have q3 : 0 ≤ p / 4096 := by omega
  have q4 : 0 ≤ p / 64 % 64 := by omega
  have q5 : p / 64 % 64 ≤ 63 := by omega
  have q6 : 0 ≤ p / 4096 % 64 := by omega
  have q7 : p / 4096 % 64 ≤ 63 := by omega
  have q8 : 0 ≤ p / 262144 := by omega
  by_cases c1 : p < 128
  · have H : Hid (Lib.runeCells p = [.int .u8 p]) := Lib.hid (by unfold Lib.runeCells; rw [Lib.encodeRuneZ_one (by omega) (by omega)]; rfl)
    clear hp hp'
    go_enter Tryz.func107, Tryz.ntmps107
    go_wp2
    go_ret
    exact NewB.mk (by rw [H.out]; rfl) (by rw [H.out])
  · by_cases c2 : p < 2048
    · have H : Hid (Lib.runeCells p = [.int .u8 (192 + p / 64), .int .u8 (128 + p % 64)]) := Lib.hid (by unfold Lib.runeCells; rw [Lib.encodeRuneZ_two (by omega) (by omega)]; rfl)
      have r1 : p / 64 ≤ 31 := by omega
      clear hp hp'
      go_enter Tryz.func107, Tryz.ntmps107
      go_wp2
      go_ret
      exact NewB.mk (by rw [H.out]; rfl) (by rw [H.out])
    · by_cases c3 : p < 65536
      · have H : Hid (Lib.runeCells p = [.int .u8 (224 + p / 4096), .int .u8 (128 + p / 64 % 64), .int .u8 (128 + p % 64)]) := Lib.hid (by unfold Lib.runeCells; rw [Lib.encodeRuneZ_three (by omega)]; rfl)
        have r1 : p / 4096 ≤ 15 := by omega
        clear hp hp'
        go_enter Tryz.func107, Tryz.ntmps107
        go_wp2
        go_ret
        exact NewB.mk (by rw [H.out]; rfl) (by rw [H.out])
      · have H : Hid (Lib.runeCells p = [.int .u8 (240 + p / 262144), .int .u8 (128 + p / 4096 % 64), .int .u8 (128 + p / 64 % 64), .int .u8 (128 + p % 64)]) := Lib.hid (by unfold Lib.runeCells; rw [Lib.encodeRuneZ_four (by omega) (by omega)]; rfl)
        have r1 : p / 262144 ≤ 4 := by omega
        clear hp hp'
        go_enter Tryz.func107, Tryz.ntmps107
        go_wp2
        go_ret
        exact NewB.mk (by rw [H.out]; rfl) (by rw [H.out])
end Go.Proofs.YtbehakabglegjaaGreatDoor
