/- The document's way to read a character off its bytes (layer 1), in plain words: it finds the characters that Go's decoder finds, and nothing else. Bytes in memory: what the program says of their ty -/
import Derived.PlainAid
import Derived.Test.YtnjhmnolngdfaaaGreatDoorQ00
set_option linter.unusedVariables false
set_option linter.unusedSimpArgs false
set_option maxHeartbeats 16000000
set_option maxRecDepth 100000
namespace Go.Proofs.YtnjhmnolngdfaaaGreatDoor
open Go.PlainAid
def szI (c : Int) : Nat := if c < 128 then 1 else if 192 ≤ c ∧ c < 224 then 2 else if 224 ≤ c ∧ c < 240 then 3 else if 240 ≤ c ∧ c < 248 then 4 else 0
def qEN (n : Nat) : Int := if n = 2 then 192 else if n = 3 then 224 else if n = 4 then 240 else 0
def qD0 (s : ByteArray) (i n : Nat) : Nat → Int
  | 0 => bt s i - qEN n
  | k + 1 => 64 * qD0 s i n k + bt s (i + (k + 1)) - 128
def ptB (p : Int) : Bool := (decide (0 ≤ p) && decide (p ≤ 1114111)) && (decide (p < 55296) || decide (57343 < p))
def qFe (p : Int) : Nat := if p < 128 then 1 else if p < 2048 then 2 else if p < 65536 then 3 else 4
def qDq (s : ByteArray) (i : Nat) : Prop := (Utf8.decode s i).1 = 65533 ∧ (Utf8.decode s i).2 ≤ 1
theorem qFi {p : Int} : ptB p = true ↔ qDp p := by unfold ptB qDp; simp; omega
theorem qGi {p : Int} (h : qDp p) : (Lib.encodeRune p).length = qFe p := by
  unfold qDp at h; unfold qFe Lib.encodeRune; rw [List.length_map]
  by_cases c1 : p ≤ 127
  · rw [Lib.encodeRuneZ_one (by omega) c1, if_pos (by omega)]; rfl
  · by_cases c2 : p ≤ 2047
    · rw [Lib.encodeRuneZ_two (by omega) c2, if_neg (by omega), if_pos (by omega)]; rfl
    · by_cases c3 : p ≤ 65535
      · rw [Lib.encodeRuneZ_three (by omega), if_neg (by omega), if_neg (by omega), if_pos (by omega)]; rfl
      · rw [Lib.encodeRuneZ_four (by omega) (by omega), if_neg (by omega), if_neg (by omega), if_neg (by omega)]; rfl
theorem qGN (s : ByteArray) (i : Nat) : (s.get! i).toNat = (bt s i).toNat := by
  rcases Nat.lt_or_ge i s.size with h | h
  · rw [← get_bt s i h]; (have e : s.get! i = s[i] := by simp [ByteArray.get!, getElem!_pos, h]; rfl); rw [e]; rfl
  · rw [bt_end s h]; (have e : s.get! i = 0 := by simp [ByteArray.get!, getElem!_def, h]; rfl); rw [e]; rfl
theorem qKZ (s : ByteArray) (i : Nat) : Utf8.decode s i = Lib.decodeN (s.size - i) (bt s i).toNat (bt s (i + 1)).toNat (bt s (i + 2)).toNat (bt s (i + 3)).toNat := by
  rw [Lib.decode_at, qGN, qGN, qGN, qGN]
theorem qKr {s : ByteArray} {i : Nat} (hi : i < s.size) (h : szI (bt s i) = 0 ∨ s.size < i + szI (bt s i)) : qDq s i := by
  unfold qDq; rw [qKZ]; have h0 := bt_nonneg s i; have h1 := bt_le s i; generalize bt s i = b0 at *; generalize (bt s (i + 1)).toNat = b1 at *; generalize (bt s (i + 2)).toNat = b2 at *; generalize (bt s (i + 3)).toNat = b3 at *; unfold szI at h; unfold Lib.decodeN
  repeat' split at h
  all_goals (try omega)
  all_goals
    rw [if_neg (by omega), if_neg (by omega), if_neg (by omega), if_neg (by omega)]; exact ⟨rfl, Nat.le_refl _⟩
theorem qGt {s : ByteArray} {i n m : Nat} (hn : szI (bt s i) = n) (hs : i + n ≤ s.size) (h1 : 1 ≤ m) (hm : m < n) (h : ¬ (128 ≤ bt s (i + m) ∧ bt s (i + m) ≤ 191)) : qDq s i := by
  unfold qDq; rw [qKZ]; have h0 := bt_nonneg s i; have h0' := bt_le s i; have k1 := bt_nonneg s (i + 1); have k2 := bt_nonneg s (i + 2); have k3 := bt_nonneg s (i + 3)
  have hm4 : n ≤ 4 := by
      unfold szI at hn; repeat' split at hn
      all_goals omega
  have hc : (m = 1 ∧ ¬ (128 ≤ bt s (i + 1) ∧ bt s (i + 1) ≤ 191)) ∨ (m = 2 ∧ ¬ (128 ≤ bt s (i + 2) ∧ bt s (i + 2) ≤ 191)) ∨ (m = 3 ∧ ¬ (128 ≤ bt s (i + 3) ∧ bt s (i + 3) ≤ 191)) := by
    (have : m = 1 ∨ m = 2 ∨ m = 3 := by omega); rcases this with rfl | rfl | rfl
    · exact .inl ⟨rfl, h⟩
    · exact .inr (.inl ⟨rfl, h⟩)
    · exact .inr (.inr ⟨rfl, h⟩)
  clear h; generalize bt s i = b0 at *; generalize bt s (i + 1) = b1 at *; generalize bt s (i + 2) = b2 at *; generalize bt s (i + 3) = b3 at *; unfold szI at hn; unfold Lib.decodeN
  repeat' split at hn
  all_goals (try omega)
  all_goals
    rw [if_neg (by omega), if_neg (by omega), if_neg (by omega), if_neg (by omega)]; exact ⟨rfl, Nat.le_refl _⟩
theorem qJU {s : ByteArray} {i n : Nat} (hn : szI (bt s i) = n) (hn0 : n ≠ 0) (hs : i + n ≤ s.size) (h : ∀ m, 1 ≤ m → m < n → 128 ≤ bt s (i + m) ∧ bt s (i + m) ≤ 191) :
    (ptB (qD0 s i n (n - 1)) = true ∧ qFe (qD0 s i n (n - 1)) = n → Utf8.decode s i = ((qD0 s i n (n - 1)).toNat, n) ∧ ¬ qDq s i) ∧ (¬ (ptB (qD0 s i n (n - 1)) = true ∧ qFe (qD0 s i n (n - 1)) = n) → qDq s i) := by
  unfold qDq; rw [qFi, qKZ]; have h0 := bt_nonneg s i; have h0' := bt_le s i; have hn' := hn; unfold szI at hn
  have hcase : n = 1 ∨ n = 2 ∨ n = 3 ∨ n = 4 := by
    repeat' split at hn
    all_goals omega
  rcases hcase with rfl | rfl | rfl | rfl
  · have hv : qD0 s i 1 (1 - 1) = bt s i - qEN 1 := rfl; rw [hv]; clear hv; generalize bt s i = b0 at *
    have hb : b0 < 128 := by
        repeat' split at hn
        all_goals omega
    rw [show b0 - qEN 1 = b0 by unfold qEN; simp]; unfold Lib.decodeN qFe qDp; rw [if_pos (by omega), if_pos (by omega)]; refine ⟨fun _ => ⟨rfl, by dsimp only; omega⟩, fun hh => absurd ⟨.inl (by omega), rfl⟩ hh⟩
  · have hv : qD0 s i 2 (2 - 1) = 64 * (bt s i - qEN 2) + bt s (i + 1) - 128 := rfl; rw [hv]; clear hv; have c1 := h 1 (by omega) (by omega); generalize bt s i = b0 at *; generalize bt s (i + 1) = b1 at *
    have hb : 192 ≤ b0 ∧ b0 < 224 := by
        repeat' split at hn
        all_goals omega
    rw [show b0 - qEN 2 = b0 - 192 by unfold qEN; simp]; unfold Lib.decodeN; rw [if_neg (by omega), if_pos (by omega)]
    by_cases hp : 128 ≤ 64 * (b0 - 192) + b1 - 128
    · rw [if_pos (by omega)]; refine ⟨fun _ => ⟨?_, by dsimp only; omega⟩, fun hh => absurd ?_ hh⟩
      · ext <;> dsimp only
        omega
      · unfold qDp qFe; exact ⟨by omega, by rw [if_neg (by omega), if_pos (by omega)]⟩
    · rw [if_neg (by omega)]; refine ⟨fun hh => ?_, fun _ => ⟨rfl, Nat.le_refl _⟩⟩
      exfalso
      have := hh.2; unfold qFe at this; rw [if_pos (by omega)] at this; omega
  · have hv : qD0 s i 3 (3 - 1) = 64 * (64 * (bt s i - qEN 3) + bt s (i + 1) - 128) + bt s (i + 2) - 128 := rfl; rw [hv]; clear hv; have c1 := h 1 (by omega) (by omega); have c2 := h 2 (by omega) (by omega); generalize bt s i = b0 at *; generalize bt s (i + 1) = b1 at *; generalize bt s (i + 2) = b2 at *
    have hb : 224 ≤ b0 ∧ b0 < 240 := by
        repeat' split at hn
        all_goals omega
    rw [show b0 - qEN 3 = b0 - 224 by unfold qEN; simp]; unfold Lib.decodeN; rw [if_neg (by omega), if_neg (by omega), if_pos (by omega)]
    by_cases hp : 2048 ≤ 64 * (64 * (b0 - 224) + b1 - 128) + b2 - 128 ∧ (64 * (64 * (b0 - 224) + b1 - 128) + b2 - 128 < 55296 ∨ 57343 < 64 * (64 * (b0 - 224) + b1 - 128) + b2 - 128)
    · rw [if_pos (by omega)]; refine ⟨fun _ => ⟨?_, by dsimp only; omega⟩, fun hh => absurd ?_ hh⟩
      · ext <;> dsimp only
        omega
      · unfold qDp qFe; exact ⟨by omega, by rw [if_neg (by omega), if_neg (by omega), if_pos (by omega)]⟩
    · rw [if_neg (by omega)]; refine ⟨fun hh => ?_, fun _ => ⟨rfl, Nat.le_refl _⟩⟩
      exfalso
      have h1 := hh.1; have h2 := hh.2; unfold qDp at h1; unfold qFe at h2
      repeat' split at h2
      all_goals omega
  · have hv : qD0 s i 4 (4 - 1) = 64 * (64 * (64 * (bt s i - qEN 4) + bt s (i + 1) - 128) + bt s (i + 2) - 128) + bt s (i + 3) - 128 := rfl; rw [hv]; clear hv; have c1 := h 1 (by omega) (by omega); have c2 := h 2 (by omega) (by omega); have c3 := h 3 (by omega) (by omega); generalize bt s i = b0 at *; generalize bt s (i + 1) = b1 at *; generalize bt s (i + 2) = b2 at *; generalize bt s (i + 3) = b3 at *
    have hb : 240 ≤ b0 ∧ b0 < 248 := by
        repeat' split at hn
        all_goals omega
    rw [show b0 - qEN 4 = b0 - 240 by unfold qEN; simp]; unfold Lib.decodeN; rw [if_neg (by omega), if_neg (by omega), if_neg (by omega), if_pos (by omega)]
    by_cases hp : 65536 ≤ 64 * (64 * (64 * (b0 - 240) + b1 - 128) + b2 - 128) + b3 - 128 ∧ 64 * (64 * (64 * (b0 - 240) + b1 - 128) + b2 - 128) + b3 - 128 ≤ 1114111
    · rw [if_pos (by omega)]; refine ⟨fun _ => ⟨?_, by dsimp only; omega⟩, fun hh => absurd ?_ hh⟩
      · ext <;> dsimp only
        omega
      · unfold qDp qFe; exact ⟨by omega, by rw [if_neg (by omega), if_neg (by omega), if_neg (by omega)]⟩
    · rw [if_neg (by omega)]; refine ⟨fun hh => ?_, fun _ => ⟨rfl, Nat.le_refl _⟩⟩
      exfalso
      have h1 := hh.1; have h2 := hh.2; unfold qDp at h1; unfold qFe at h2
      repeat' split at h2
      all_goals omega
def atS (s : ByteArray) (i : Nat) : Nat × Nat := if (Utf8.decode s i).1 = 65533 ∧ (Utf8.decode s i).2 ≤ 1 then (0, 0) else Utf8.decode s i
theorem qID {s : ByteArray} {i : Nat} (h : qDq s i) : atS s i = (0, 0) := if_pos h
theorem qJS {s : ByteArray} {i : Nat} (h : ¬ qDq s i) : atS s i = Utf8.decode s i := if_neg h
end Go.Proofs.YtnjhmnolngdfaaaGreatDoor
namespace Go.Proofs.YtnjhmnolngdfaaaGreatDoor
open Go.RowKit
theorem qOB : (Tryz.prog.info? 5).map (fun i => (i.zero, i.size, i.bytes)) = some (some (.int .u8 0), 1, 1) := by kernel_rfl
theorem qC2 : ∃ ie, Tryz.prog.info? 5 = some ie ∧ ie.zero = some (.int .u8 0) ∧ ie.size = 1 ∧ ie.bytes = 1 := by
  have h := qOB
  cases hq : Tryz.prog.info? 5 with
  | none => rw [hq] at h; cases h
  | some ie =>
    rw [hq] at h; simp only [Option.map_some, Option.some.injEq, Prod.mk.injEq] at h; exact ⟨ie, rfl, h.1, h.2.1, h.2.2⟩
end Go.Proofs.YtnjhmnolngdfaaaGreatDoor
namespace Go.Proofs.YtnjhmnolngdfaaaGreatDoor
open Go.RowKit Go.PlainAid
theorem qDi (c : Int) (h0 : 0 ≤ c) (h1 : c ≤ 255) (w : World) : Calls Tryz.prog 112 #[.int .u8 c] w fun e w' => e = .returned (.int .i64 (szI c)) ∧ w' = w := by
 by_cases c1 : c < 128
 ·have H : Hid (szI c = 1) := Lib.hid (by unfold szI; rw [if_pos c1]); go_enter Tryz.func112, Tryz.ntmps112; go_wp2; go_ret; exact ⟨qBD (by rw [H.out]; rfl), rfl⟩
 ·by_cases c2 : 192 ≤ c ∧ c < 224
  ·have H : Hid (szI c = 2) := Lib.hid (by unfold szI; rw [if_neg c1, if_pos c2]); obtain ⟨c2, c3⟩ := c2; go_enter Tryz.func112, Tryz.ntmps112; go_wp2; go_ret; exact ⟨qBD (by rw [H.out]; rfl), rfl⟩
  ·by_cases c3 : 224 ≤ c ∧ c < 240
   ·have H : Hid (szI c = 3) := Lib.hid (by unfold szI; rw [if_neg c1, if_neg c2, if_pos c3]); obtain ⟨c3, c4⟩ := c3; (have c5 : 192 ≤ c := by omega); (have c6 : ¬ c < 224 := by omega); clear c2; go_enter Tryz.func112, Tryz.ntmps112; go_wp2; go_ret; exact ⟨qBD (by rw [H.out]; rfl), rfl⟩
   ·by_cases c4 : 240 ≤ c ∧ c < 248
    ·have H : Hid (szI c = 4) := Lib.hid (by unfold szI; rw [if_neg c1, if_neg c2, if_neg c3, if_pos c4]); obtain ⟨c4, c5⟩ := c4; (have c6 : 192 ≤ c := by omega); (have c7 : ¬ c < 224 := by omega); (have c8 : 224 ≤ c := by omega); (have c9 : ¬ c < 240 := by omega); clear c2 c3; go_enter Tryz.func112, Tryz.ntmps112; go_wp2; go_ret; exact ⟨qBD (by rw [H.out]; rfl), rfl⟩
    ·have H : Hid (szI c = 0) := Lib.hid (by unfold szI; rw [if_neg c1, if_neg c2, if_neg c3, if_neg c4])
     by_cases c5 : c < 192
     ·(have c6 : ¬ 192 ≤ c := by omega); (have c7 : ¬ 224 ≤ c := by omega); (have c8 : ¬ 240 ≤ c := by omega); clear c2 c3 c4; go_enter Tryz.func112, Tryz.ntmps112; go_wp2; go_ret; exact ⟨qBD (by rw [H.out]; rfl), rfl⟩
     ·(have c6 : 192 ≤ c := by omega); (have c7 : ¬ c < 224 := by omega); (have c8 : 224 ≤ c := by omega); (have c9 : ¬ c < 240 := by omega); (have c10 : 240 ≤ c := by omega); (have c11 : ¬ c < 248 := by omega); clear c2 c3 c4; go_enter Tryz.func112, Tryz.ntmps112; go_wp2; go_ret; exact ⟨qBD (by rw [H.out]; rfl), rfl⟩
theorem qBq (p : Int) (w : World) : Calls Tryz.prog 113 #[.int .i64 p] w fun e w' => e = .returned (.bool (ptB p)) ∧ w' = w := by
  by_cases c1 : 0 ≤ p
  · by_cases c2 : p ≤ 1114111
    · by_cases c3 : p < 55296
      · have H : Hid (ptB p = true) := Lib.hid (by unfold ptB; simp; omega); go_enter Tryz.func113, Tryz.ntmps113; go_wp2; go_ret; exact ⟨qA5 (by rw [H.out]), rfl⟩
      · by_cases c4 : 57343 < p
        · have H : Hid (ptB p = true) := Lib.hid (by unfold ptB; simp; omega); go_enter Tryz.func113, Tryz.ntmps113; go_wp2; go_ret; exact ⟨qA5 (by rw [H.out]), rfl⟩
        · have H : Hid (ptB p = false) := Lib.hid (by unfold ptB; simp; omega); go_enter Tryz.func113, Tryz.ntmps113; go_wp2; go_ret; exact ⟨qA5 (by rw [H.out]), rfl⟩
    · have H : Hid (ptB p = false) := Lib.hid (by unfold ptB; simp; omega); go_enter Tryz.func113, Tryz.ntmps113; go_wp2; go_ret; exact ⟨qA5 (by rw [H.out]), rfl⟩
  · have H : Hid (ptB p = false) := Lib.hid (by unfold ptB; simp; omega); go_enter Tryz.func113, Tryz.ntmps113; go_wp2; go_ret; exact ⟨qA5 (by rw [H.out]), rfl⟩
def qMD (l : List Value) (w : World) (e : Ending) (w' : World) : Prop := ∃ g, w.heap.size ≤ g ∧ e = .returned (.slice (some ⟨g, 0, none⟩) l.length l.length) ∧ qAW w' g 5 l.toArray ∧ Below w.heap.size w w'
theorem qMD.mk {w : World} {l : List Value} {n : Nat} {arr : Array Value} (hn : l.length = n) (ha : l.toArray = arr) : qMD l w (.returned (.slice (some ⟨w.heap.size, 0, none⟩) n n)) (w.alloc (.cells arr 5)) := by
  subst hn ha; exact ⟨_, Nat.le_refl _, rfl, qAW.new _ _ _, (Below.refl _ _).alloc (Nat.le_refl _) _⟩
theorem qBn {p : Int} (hp : qDp p) (w : World) : Calls Tryz.prog 93 #[.int .i64 p] w (qMD (Lib.runeCells p) w) := by
  have hp' := hp; unfold qDp at hp'; (have h0 : 0 ≤ p := by omega); (have h1 : p ≤ 1114111 := by omega); (have q0 : 0 ≤ p % 64 := by omega); (have q1 : p % 64 ≤ 63 := by omega); (have q2 : 0 ≤ p / 64 := by omega); (have q3 : 0 ≤ p / 4096 := by omega); (have q4 : 0 ≤ p / 64 % 64 := by omega); (have q5 : p / 64 % 64 ≤ 63 := by omega); (have q6 : 0 ≤ p / 4096 % 64 := by omega); (have q7 : p / 4096 % 64 ≤ 63 := by omega); have q8 : 0 ≤ p / 262144 := by omega
  by_cases c1 : p < 128
  · have H : Hid (Lib.runeCells p = [.int .u8 p]) := Lib.hid (by unfold Lib.runeCells; rw [Lib.encodeRuneZ_one (by omega) (by omega)]; rfl); clear hp hp'; go_enter Tryz.func93, Tryz.ntmps93; go_wp2; go_ret; exact qMD.mk (by rw [H.out]; rfl) (by rw [H.out])
  · by_cases c2 : p < 2048
    · have H : Hid (Lib.runeCells p = [.int .u8 (192 + p / 64), .int .u8 (128 + p % 64)]) := Lib.hid (by unfold Lib.runeCells; rw [Lib.encodeRuneZ_two (by omega) (by omega)]; rfl); (have r1 : p / 64 ≤ 31 := by omega); clear hp hp'; go_enter Tryz.func93, Tryz.ntmps93; go_wp2; go_ret; exact qMD.mk (by rw [H.out]; rfl) (by rw [H.out])
    · by_cases c3 : p < 65536
      · have H : Hid (Lib.runeCells p = [.int .u8 (224 + p / 4096), .int .u8 (128 + p / 64 % 64), .int .u8 (128 + p % 64)]) := Lib.hid (by unfold Lib.runeCells; rw [Lib.encodeRuneZ_three (by omega)]; rfl); (have r1 : p / 4096 ≤ 15 := by omega); clear hp hp'; go_enter Tryz.func93, Tryz.ntmps93; go_wp2; go_ret; exact qMD.mk (by rw [H.out]; rfl) (by rw [H.out])
      · have H : Hid (Lib.runeCells p = [.int .u8 (240 + p / 262144), .int .u8 (128 + p / 4096 % 64), .int .u8 (128 + p / 64 % 64), .int .u8 (128 + p % 64)]) := Lib.hid (by unfold Lib.runeCells; rw [Lib.encodeRuneZ_four (by omega) (by omega)]; rfl); (have r1 : p / 262144 ≤ 4 := by omega); clear hp hp'; go_enter Tryz.func93, Tryz.ntmps93; go_wp2; go_ret; exact qMD.mk (by rw [H.out]; rfl) (by rw [H.out])
end Go.Proofs.YtnjhmnolngdfaaaGreatDoor
namespace Go.Proofs.YtnjhmnolngdfaaaGreatDoor
open Go.RowKit Go.PlainAid
theorem qIe (s : ByteArray) (i n k : Nat) (hk : k ≤ 3) : -100000000 ≤ qD0 s i n k ∧ qD0 s i n k ≤ 100000000 := by
  have h0 := bt_nonneg s i; have h0' := bt_le s i; have h1 := bt_nonneg s (i + 1); have h1' := bt_le s (i + 1); have h2 := bt_nonneg s (i + 2); have h2' := bt_le s (i + 2); have h3 := bt_nonneg s (i + 3); have h3' := bt_le s (i + 3)
  have ho : 0 ≤ qEN n ∧ qEN n ≤ 240 := by
      unfold qEN; repeat' split
      all_goals omega
  (have : k = 0 ∨ k = 1 ∨ k = 2 ∨ k = 3 := by omega); rcases this with rfl | rfl | rfl | rfl
  · show -100000000 ≤ bt s i - qEN n ∧ bt s i - qEN n ≤ 100000000; omega
  · show -100000000 ≤ 64 * (bt s i - qEN n) + bt s (i + 1) - 128 ∧ 64 * (bt s i - qEN n) + bt s (i + 1) - 128 ≤ 100000000; omega
  · show -100000000 ≤ 64 * (64 * (bt s i - qEN n) + bt s (i + 1) - 128) + bt s (i + 2) - 128 ∧ 64 * (64 * (bt s i - qEN n) + bt s (i + 1) - 128) + bt s (i + 2) - 128 ≤ 100000000; omega
  · show -100000000 ≤ 64 * (64 * (64 * (bt s i - qEN n) + bt s (i + 1) - 128) + bt s (i + 2) - 128) + bt s (i + 3) - 128 ∧ 64 * (64 * (64 * (bt s i - qEN n) + bt s (i + 1) - 128) + bt s (i + 2) - 128) + bt s (i + 3) - 128 ≤ 100000000; omega
theorem qPd (c : Int) : szI c ≤ 4 := by
    unfold szI; repeat' split
    all_goals omega
def AtP (s : ByteArray) (i : Nat) (w : World) (e : Ending) (w' : World) : Prop := e = .returned (.tuple #[.int .i64 (atS s i).1, .int .i64 (atS s i).2]) ∧ Below w.heap.size w w'
theorem AtP.no {s : ByteArray} {i : Nat} {w w' : World} (h : qDq s i) (hb : Below w.heap.size w w') : AtP s i w (.returned (.tuple #[.int .i64 0, .int .i64 0])) w' := ⟨by rw [qID h]; rfl, hb⟩
theorem AtP.yes {s : ByteArray} {i n : Nat} {p : Int} {w w' : World} (h : Utf8.decode s i = (p.toNat, n) ∧ ¬ qDq s i) (h0 : 0 ≤ p) (hb : Below w.heap.size w w') : AtP s i w (.returned (.tuple #[.int .i64 p, .int .i64 n])) w' := ⟨by
  rw [qJS h.2, h.1]; show _ = Ending.returned (.tuple #[.int .i64 (p.toNat : Nat), .int .i64 n])
  rw [show ((p.toNat : Nat) : Int) = p by omega], hb⟩
theorem qIb {s : ByteArray} {i : Nat} (hi : i < s.size) (hs : s.size ≤ 140737488355328) (w : World) : Calls Tryz.prog 91 #[.string s, .int .i64 i] w (AtP s i w) := by
  have hbs := get_bt s; have b0 := bt_nonneg s i; have b1 := bt_le s i; (have hlt : (i : Int) < (s.size : Int) := by omega); (have h0 : 0 ≤ (i : Int) := by omega); obtain ⟨n, hn⟩ : ∃ n, szI (bt s i) = n := ⟨_, rfl⟩; have HN := Lib.hid hn
  by_cases hn0 : n = 0
  · have HB := Lib.hid (qKr hi (.inl (hn.trans hn0))); have HN2 : Hid (szI (bt s i) = 0) := Lib.hid (hn.trans hn0); clear hn hn0; go_enter Tryz.func91, Tryz.ntmps91
    go_wp2_with (go_at_call 112; (with_reducible refine (qDi _ b0 b1 _).mono ?_); rintro e w1 ⟨rfl, rfl⟩; rw [HN2.out])
    go_ret2; exact AtP.no HB.out (Below.refl _ _)
  · by_cases hsz : s.size < i + n
    · have HB := Lib.hid (qKr hi (.inr (by rw [hn]; exact hsz))); (have hn1 : ¬ (n : Int) = 0 := by omega); (have hsz' : (s.size : Int) < (i : Int) + (n : Int) := by omega); (have hn4 : (n : Int) ≤ 4 := by have := qPd (bt s i); omega); (have hn5 : 0 ≤ (n : Int) := by omega); clear hn hn0; go_enter Tryz.func91, Tryz.ntmps91
      go_wp2_with (go_at_call 112; (with_reducible refine (qDi _ b0 b1 _).mono ?_); rintro e w1 ⟨rfl, rfl⟩; rw [HN.out])
      go_ret2; exact AtP.no HB.out (Below.refl _ _)
    · (have hcase : n = 1 ∨ n = 2 ∨ n = 3 ∨ n = 4 := by have := qPd (bt s i); omega); (have hns : i + n ≤ s.size := by omega); clear HN; rcases hcase with rfl | rfl | rfl | rfl
      · have HN := Lib.hid hn; have HA := Lib.hid (qJU hn hn0 hns); have HC := Lib.hid (fun m h1 h2 h3 => qGt (m := m) hn hns h1 h2 h3); (have hsz' : ¬ (s.size : Int) < (i : Int) + 1 := by omega); clear hn hn0 hsz; go_enter Tryz.func91, Tryz.ntmps91
        go_wp2_with (go_at_call 112; (with_reducible refine (qDi _ b0 b1 _).mono ?_); rintro e w1 ⟨rfl, rfl⟩; rw [HN.out])
        go_loop [7, 8] (fun pv iv => ∃ k : Nat, iv = .int .i64 k ∧ 1 ≤ k ∧ k ≤ 1 ∧ pv = .int .i64 (qD0 s i 1 (k - 1)) ∧ Hid (∀ m, 1 ≤ m → m < k → 128 ≤ bt s (i + m) ∧ bt s (i + m) ≤ 191)) (fun _ iv => 1 - (intOf iv).toNat)
        case atStart => exact ⟨1, rfl, Nat.le_refl _, by omega, by first | rfl | simp [qD0, qEN], Lib.hid (fun m h1 h2 => by omega)⟩
        case round =>
          obtain ⟨k, rfl, hk1, hk2, rfl, HM⟩ := hrel; have hv := qIe s i 1 (k - 1) (by omega)
          by_cases hlt2 : k < 1
          · omega
          · (obtain rfl : k = 1 := by omega); have HA2 := Lib.hid (HA.out HM.out); have hv1 := hv.1; have hv2 := hv.2; generalize hV : qD0 s i 1 (1 - 1) = v at *; clear HA HM HC hV hv; cases hP : ptB v
            · have HB : Hid (qDq s i) := Lib.hid (HA2.out.2 (by rw [hP]; simp)); have HP := Lib.hid hP; clear hP HA2
              go_wp2_with (go_at_call 113; (with_reducible refine (qBq _ _).mono ?_); rintro e w1 ⟨rfl, rfl⟩; rw [HP.out])
              go_ret2; exact AtP.no HB.out (Below.refl _ _)
            · have hsc := qFi.1 hP; (have hv0 : 0 ≤ v := by unfold qDp at hsc; omega); have hlen : (Lib.runeCells v).length = qFe v := by rw [Lib.runeCells_length, qGi hsc]
              have hl4 : (Lib.runeCells v).length ≤ 4 := by
                  rw [hlen]; unfold qFe; repeat' split
                  all_goals omega
              (have hl0 : 0 ≤ ((Lib.runeCells v).length : Int) := by omega); have HP := Lib.hid hP
              by_cases hle : qFe v = 1
              · have HB := Lib.hid (HA2.out.1 ⟨hP, hle⟩); (have hl : ((Lib.runeCells v).length : Int) = 1 := by omega); have HSC := Lib.hid hsc; have HL := Lib.hid hl; clear hP HA2 hle hlen hl hsc hl4 hl0
                go_wp2_with (first
                  | (go_at_call 113; (with_reducible refine (qBq _ _).mono ?_); rintro e w1 ⟨rfl, rfl⟩; rw [HP.out])
                  | (go_at_call 93; (refine (qBn HSC.out _).mono ?_); rintro e w1 ⟨g, hg, rfl, hI, hb⟩; have hl := HL.out; clear hI))
                go_ret2; exact AtP.yes HB.out hv0 hb
              · have HB := Lib.hid (HA2.out.2 (fun h => hle h.2)); (have hl : ¬ ((Lib.runeCells v).length : Int) = 1 := by omega); have HSC := Lib.hid hsc; have HL := Lib.hid hl; clear hP HA2 hle hlen hl hsc hl4 hl0
                go_wp2_with (first
                  | (go_at_call 113; (with_reducible refine (qBq _ _).mono ?_); rintro e w1 ⟨rfl, rfl⟩; rw [HP.out])
                  | (go_at_call 93; (refine (qBn HSC.out _).mono ?_); rintro e w1 ⟨g, hg, rfl, hI, hb⟩; have hl := HL.out; clear hI))
                go_ret2; exact AtP.no HB.out hb
      · have HN := Lib.hid hn; have HA := Lib.hid (qJU hn hn0 hns); have HC := Lib.hid (fun m h1 h2 h3 => qGt (m := m) hn hns h1 h2 h3); (have hsz' : ¬ (s.size : Int) < (i : Int) + 2 := by omega); clear hn hn0 hsz; go_enter Tryz.func91, Tryz.ntmps91
        go_wp2_with (go_at_call 112; (with_reducible refine (qDi _ b0 b1 _).mono ?_); rintro e w1 ⟨rfl, rfl⟩; rw [HN.out])
        go_loop [7, 8] (fun pv iv => ∃ k : Nat, iv = .int .i64 k ∧ 1 ≤ k ∧ k ≤ 2 ∧ pv = .int .i64 (qD0 s i 2 (k - 1)) ∧ Hid (∀ m, 1 ≤ m → m < k → 128 ≤ bt s (i + m) ∧ bt s (i + m) ≤ 191)) (fun _ iv => 2 - (intOf iv).toNat)
        case atStart => exact ⟨1, rfl, Nat.le_refl _, by omega, by first | rfl | simp [qD0, qEN], Lib.hid (fun m h1 h2 => by omega)⟩
        case round =>
          obtain ⟨k, rfl, hk1, hk2, rfl, HM⟩ := hrel; have hv := qIe s i 2 (k - 1) (by omega)
          by_cases hlt2 : k < 2
          · (have hlt3 : (k : Int) < 2 := by omega); have c0 := bt_nonneg s (i + k); have c1 := bt_le s (i + k); (have hik : i + k < s.size := by omega); (have hik2 : (i : Int) + (k : Int) < (s.size : Int) := by omega); (have hik3 : 0 ≤ (i : Int) + (k : Int) := by omega); have hik4 : ((i : Int) + (k : Int)).toNat = i + k := by omega
            have hvs : Hid (qD0 s i 2 (k + 1 - 1) = 64 * qD0 s i 2 (k - 1) + bt s (i + k) - 128) := Lib.hid (by
              obtain ⟨j, rfl⟩ : ∃ j, k = j + 1 := ⟨k - 1, by omega⟩
              rfl)
            by_cases hc : 128 ≤ bt s (i + k) ∧ bt s (i + k) ≤ 191
            · obtain ⟨hc1, hc2⟩ := hc; go_wp2
              go_round
              case rel => exact ⟨k + 1, by go_num, by omega, by omega, by rw [hvs.out], Lib.hid (fun m h1 h2 => by
                rcases Nat.lt_or_ge m k with h3 | h3
                · exact HM.out m h1 h3
                · obtain rfl : m = k := by omega
                  exact ⟨hc1, hc2⟩)⟩
              case measure => simp [intOf]; omega
            · have HB := Lib.hid (HC.out k hk1 hlt2 hc)
              by_cases hc1 : 128 ≤ bt s (i + k)
              · (have hc2 : ¬ bt s (i + k) ≤ 191 := fun h => hc ⟨hc1, h⟩); clear hc; go_wp2; go_ret2; exact AtP.no HB.out (Below.refl _ _)
              · clear hc; go_wp2; go_ret2; exact AtP.no HB.out (Below.refl _ _)
          · (obtain rfl : k = 2 := by omega); have HA2 := Lib.hid (HA.out HM.out); have hv1 := hv.1; have hv2 := hv.2; generalize hV : qD0 s i 2 (2 - 1) = v at *; clear HA HM HC hV hv; cases hP : ptB v
            · have HB : Hid (qDq s i) := Lib.hid (HA2.out.2 (by rw [hP]; simp)); have HP := Lib.hid hP; clear hP HA2
              go_wp2_with (go_at_call 113; (with_reducible refine (qBq _ _).mono ?_); rintro e w1 ⟨rfl, rfl⟩; rw [HP.out])
              go_ret2; exact AtP.no HB.out (Below.refl _ _)
            · have hsc := qFi.1 hP; (have hv0 : 0 ≤ v := by unfold qDp at hsc; omega); have hlen : (Lib.runeCells v).length = qFe v := by rw [Lib.runeCells_length, qGi hsc]
              have hl4 : (Lib.runeCells v).length ≤ 4 := by
                  rw [hlen]; unfold qFe; repeat' split
                  all_goals omega
              (have hl0 : 0 ≤ ((Lib.runeCells v).length : Int) := by omega); have HP := Lib.hid hP
              by_cases hle : qFe v = 2
              · have HB := Lib.hid (HA2.out.1 ⟨hP, hle⟩); (have hl : ((Lib.runeCells v).length : Int) = 2 := by omega); have HSC := Lib.hid hsc; have HL := Lib.hid hl; clear hP HA2 hle hlen hl hsc hl4 hl0
                go_wp2_with (first
                  | (go_at_call 113; (with_reducible refine (qBq _ _).mono ?_); rintro e w1 ⟨rfl, rfl⟩; rw [HP.out])
                  | (go_at_call 93; (refine (qBn HSC.out _).mono ?_); rintro e w1 ⟨g, hg, rfl, hI, hb⟩; have hl := HL.out; clear hI))
                go_ret2; exact AtP.yes HB.out hv0 hb
              · have HB := Lib.hid (HA2.out.2 (fun h => hle h.2)); (have hl : ¬ ((Lib.runeCells v).length : Int) = 2 := by omega); have HSC := Lib.hid hsc; have HL := Lib.hid hl; clear hP HA2 hle hlen hl hsc hl4 hl0
                go_wp2_with (first
                  | (go_at_call 113; (with_reducible refine (qBq _ _).mono ?_); rintro e w1 ⟨rfl, rfl⟩; rw [HP.out])
                  | (go_at_call 93; (refine (qBn HSC.out _).mono ?_); rintro e w1 ⟨g, hg, rfl, hI, hb⟩; have hl := HL.out; clear hI))
                go_ret2; exact AtP.no HB.out hb
      · have HN := Lib.hid hn; have HA := Lib.hid (qJU hn hn0 hns); have HC := Lib.hid (fun m h1 h2 h3 => qGt (m := m) hn hns h1 h2 h3); (have hsz' : ¬ (s.size : Int) < (i : Int) + 3 := by omega); clear hn hn0 hsz; go_enter Tryz.func91, Tryz.ntmps91
        go_wp2_with (go_at_call 112; (with_reducible refine (qDi _ b0 b1 _).mono ?_); rintro e w1 ⟨rfl, rfl⟩; rw [HN.out])
        go_loop [7, 8] (fun pv iv => ∃ k : Nat, iv = .int .i64 k ∧ 1 ≤ k ∧ k ≤ 3 ∧ pv = .int .i64 (qD0 s i 3 (k - 1)) ∧ Hid (∀ m, 1 ≤ m → m < k → 128 ≤ bt s (i + m) ∧ bt s (i + m) ≤ 191)) (fun _ iv => 3 - (intOf iv).toNat)
        case atStart => exact ⟨1, rfl, Nat.le_refl _, by omega, by first | rfl | simp [qD0, qEN], Lib.hid (fun m h1 h2 => by omega)⟩
        case round =>
          obtain ⟨k, rfl, hk1, hk2, rfl, HM⟩ := hrel; have hv := qIe s i 3 (k - 1) (by omega)
          by_cases hlt2 : k < 3
          · (have hlt3 : (k : Int) < 3 := by omega); have c0 := bt_nonneg s (i + k); have c1 := bt_le s (i + k); (have hik : i + k < s.size := by omega); (have hik2 : (i : Int) + (k : Int) < (s.size : Int) := by omega); (have hik3 : 0 ≤ (i : Int) + (k : Int) := by omega); have hik4 : ((i : Int) + (k : Int)).toNat = i + k := by omega
            have hvs : Hid (qD0 s i 3 (k + 1 - 1) = 64 * qD0 s i 3 (k - 1) + bt s (i + k) - 128) := Lib.hid (by
              obtain ⟨j, rfl⟩ : ∃ j, k = j + 1 := ⟨k - 1, by omega⟩
              rfl)
            by_cases hc : 128 ≤ bt s (i + k) ∧ bt s (i + k) ≤ 191
            · obtain ⟨hc1, hc2⟩ := hc; go_wp2
              go_round
              case rel => exact ⟨k + 1, by go_num, by omega, by omega, by rw [hvs.out], Lib.hid (fun m h1 h2 => by
                rcases Nat.lt_or_ge m k with h3 | h3
                · exact HM.out m h1 h3
                · obtain rfl : m = k := by omega
                  exact ⟨hc1, hc2⟩)⟩
              case measure => simp [intOf]; omega
            · have HB := Lib.hid (HC.out k hk1 hlt2 hc)
              by_cases hc1 : 128 ≤ bt s (i + k)
              · (have hc2 : ¬ bt s (i + k) ≤ 191 := fun h => hc ⟨hc1, h⟩); clear hc; go_wp2; go_ret2; exact AtP.no HB.out (Below.refl _ _)
              · clear hc; go_wp2; go_ret2; exact AtP.no HB.out (Below.refl _ _)
          · (obtain rfl : k = 3 := by omega); have HA2 := Lib.hid (HA.out HM.out); have hv1 := hv.1; have hv2 := hv.2; generalize hV : qD0 s i 3 (3 - 1) = v at *; clear HA HM HC hV hv; cases hP : ptB v
            · have HB : Hid (qDq s i) := Lib.hid (HA2.out.2 (by rw [hP]; simp)); have HP := Lib.hid hP; clear hP HA2
              go_wp2_with (go_at_call 113; (with_reducible refine (qBq _ _).mono ?_); rintro e w1 ⟨rfl, rfl⟩; rw [HP.out])
              go_ret2; exact AtP.no HB.out (Below.refl _ _)
            · have hsc := qFi.1 hP; (have hv0 : 0 ≤ v := by unfold qDp at hsc; omega); have hlen : (Lib.runeCells v).length = qFe v := by rw [Lib.runeCells_length, qGi hsc]
              have hl4 : (Lib.runeCells v).length ≤ 4 := by
                  rw [hlen]; unfold qFe; repeat' split
                  all_goals omega
              (have hl0 : 0 ≤ ((Lib.runeCells v).length : Int) := by omega); have HP := Lib.hid hP
              by_cases hle : qFe v = 3
              · have HB := Lib.hid (HA2.out.1 ⟨hP, hle⟩); (have hl : ((Lib.runeCells v).length : Int) = 3 := by omega); have HSC := Lib.hid hsc; have HL := Lib.hid hl; clear hP HA2 hle hlen hl hsc hl4 hl0
                go_wp2_with (first
                  | (go_at_call 113; (with_reducible refine (qBq _ _).mono ?_); rintro e w1 ⟨rfl, rfl⟩; rw [HP.out])
                  | (go_at_call 93; (refine (qBn HSC.out _).mono ?_); rintro e w1 ⟨g, hg, rfl, hI, hb⟩; have hl := HL.out; clear hI))
                go_ret2; exact AtP.yes HB.out hv0 hb
              · have HB := Lib.hid (HA2.out.2 (fun h => hle h.2)); (have hl : ¬ ((Lib.runeCells v).length : Int) = 3 := by omega); have HSC := Lib.hid hsc; have HL := Lib.hid hl; clear hP HA2 hle hlen hl hsc hl4 hl0
                go_wp2_with (first
                  | (go_at_call 113; (with_reducible refine (qBq _ _).mono ?_); rintro e w1 ⟨rfl, rfl⟩; rw [HP.out])
                  | (go_at_call 93; (refine (qBn HSC.out _).mono ?_); rintro e w1 ⟨g, hg, rfl, hI, hb⟩; have hl := HL.out; clear hI))
                go_ret2; exact AtP.no HB.out hb
      · have HN := Lib.hid hn; have HA := Lib.hid (qJU hn hn0 hns); have HC := Lib.hid (fun m h1 h2 h3 => qGt (m := m) hn hns h1 h2 h3); (have hsz' : ¬ (s.size : Int) < (i : Int) + 4 := by omega); clear hn hn0 hsz; go_enter Tryz.func91, Tryz.ntmps91
        go_wp2_with (go_at_call 112; (with_reducible refine (qDi _ b0 b1 _).mono ?_); rintro e w1 ⟨rfl, rfl⟩; rw [HN.out])
        go_loop [7, 8] (fun pv iv => ∃ k : Nat, iv = .int .i64 k ∧ 1 ≤ k ∧ k ≤ 4 ∧ pv = .int .i64 (qD0 s i 4 (k - 1)) ∧ Hid (∀ m, 1 ≤ m → m < k → 128 ≤ bt s (i + m) ∧ bt s (i + m) ≤ 191)) (fun _ iv => 4 - (intOf iv).toNat)
        case atStart => exact ⟨1, rfl, Nat.le_refl _, by omega, by first | rfl | simp [qD0, qEN], Lib.hid (fun m h1 h2 => by omega)⟩
        case round =>
          obtain ⟨k, rfl, hk1, hk2, rfl, HM⟩ := hrel; have hv := qIe s i 4 (k - 1) (by omega)
          by_cases hlt2 : k < 4
          · (have hlt3 : (k : Int) < 4 := by omega); have c0 := bt_nonneg s (i + k); have c1 := bt_le s (i + k); (have hik : i + k < s.size := by omega); (have hik2 : (i : Int) + (k : Int) < (s.size : Int) := by omega); (have hik3 : 0 ≤ (i : Int) + (k : Int) := by omega); have hik4 : ((i : Int) + (k : Int)).toNat = i + k := by omega
            have hvs : Hid (qD0 s i 4 (k + 1 - 1) = 64 * qD0 s i 4 (k - 1) + bt s (i + k) - 128) := Lib.hid (by
              obtain ⟨j, rfl⟩ : ∃ j, k = j + 1 := ⟨k - 1, by omega⟩
              rfl)
            by_cases hc : 128 ≤ bt s (i + k) ∧ bt s (i + k) ≤ 191
            · obtain ⟨hc1, hc2⟩ := hc; go_wp2
              go_round
              case rel => exact ⟨k + 1, by go_num, by omega, by omega, by rw [hvs.out], Lib.hid (fun m h1 h2 => by
                rcases Nat.lt_or_ge m k with h3 | h3
                · exact HM.out m h1 h3
                · obtain rfl : m = k := by omega
                  exact ⟨hc1, hc2⟩)⟩
              case measure => simp [intOf]; omega
            · have HB := Lib.hid (HC.out k hk1 hlt2 hc)
              by_cases hc1 : 128 ≤ bt s (i + k)
              · (have hc2 : ¬ bt s (i + k) ≤ 191 := fun h => hc ⟨hc1, h⟩); clear hc; go_wp2; go_ret2; exact AtP.no HB.out (Below.refl _ _)
              · clear hc; go_wp2; go_ret2; exact AtP.no HB.out (Below.refl _ _)
          · (obtain rfl : k = 4 := by omega); have HA2 := Lib.hid (HA.out HM.out); have hv1 := hv.1; have hv2 := hv.2; generalize hV : qD0 s i 4 (4 - 1) = v at *; clear HA HM HC hV hv; cases hP : ptB v
            · have HB : Hid (qDq s i) := Lib.hid (HA2.out.2 (by rw [hP]; simp)); have HP := Lib.hid hP; clear hP HA2
              go_wp2_with (go_at_call 113; (with_reducible refine (qBq _ _).mono ?_); rintro e w1 ⟨rfl, rfl⟩; rw [HP.out])
              go_ret2; exact AtP.no HB.out (Below.refl _ _)
            · have hsc := qFi.1 hP; (have hv0 : 0 ≤ v := by unfold qDp at hsc; omega); have hlen : (Lib.runeCells v).length = qFe v := by rw [Lib.runeCells_length, qGi hsc]
              have hl4 : (Lib.runeCells v).length ≤ 4 := by
                  rw [hlen]; unfold qFe; repeat' split
                  all_goals omega
              (have hl0 : 0 ≤ ((Lib.runeCells v).length : Int) := by omega); have HP := Lib.hid hP
              by_cases hle : qFe v = 4
              · have HB := Lib.hid (HA2.out.1 ⟨hP, hle⟩); (have hl : ((Lib.runeCells v).length : Int) = 4 := by omega); have HSC := Lib.hid hsc; have HL := Lib.hid hl; clear hP HA2 hle hlen hl hsc hl4 hl0
                go_wp2_with (first
                  | (go_at_call 113; (with_reducible refine (qBq _ _).mono ?_); rintro e w1 ⟨rfl, rfl⟩; rw [HP.out])
                  | (go_at_call 93; (refine (qBn HSC.out _).mono ?_); rintro e w1 ⟨g, hg, rfl, hI, hb⟩; have hl := HL.out; clear hI))
                go_ret2; exact AtP.yes HB.out hv0 hb
              · have HB := Lib.hid (HA2.out.2 (fun h => hle h.2)); (have hl : ¬ ((Lib.runeCells v).length : Int) = 4 := by omega); have HSC := Lib.hid hsc; have HL := Lib.hid hl; clear hP HA2 hle hlen hl hsc hl4 hl0
                go_wp2_with (first
                  | (go_at_call 113; (with_reducible refine (qBq _ _).mono ?_); rintro e w1 ⟨rfl, rfl⟩; rw [HP.out])
                  | (go_at_call 93; (refine (qBn HSC.out _).mono ?_); rintro e w1 ⟨g, hg, rfl, hI, hb⟩; have hl := HL.out; clear hI))
                go_ret2; exact AtP.no HB.out hb
end Go.Proofs.YtnjhmnolngdfaaaGreatDoor
