/- Characters and their bytes, in plain words. The document's way to read a character off its bytes (layer 1), in plain words: it finds the characters that Go's decoder finds, and nothing else. The document's layer 1 (coveyref01), walked: size, isPoint, Bytes, At. -/
import Derived.Lib.MapLaws
import Derived.Lib.ValidLaws
import Derived.Lib.RuneBytes
import Derived.PlainAid
import Derived.Test.YtbehakabglegjaaGreatDoorQ02
import Derived.Test.YtbehakabglegjaaGreatDoorQ01
namespace Go.Proofs.YtbehakabglegjaaGreatDoor
set_option linter.unusedVariables false
/-- The number of a character. -/
def Scal (r : Int) : Prop := (0 ≤ r ∧ r < 55296) ∨ (57344 ≤ r ∧ r ≤ 1114111)
theorem u8n {x : Int} (h0 : 0 ≤ x) (h1 : x < 256) : (x.toNat.toUInt8).toNat = x.toNat := by
  simp only [Nat.toUInt8, UInt8.toNat_ofNat']
  omega
theorem decodeL_enc {r : Int} (h : Scal r) (t : List UInt8) : Lib.decodeL (Lib.encodeRune r ++ t) = (r.toNat, (Lib.encodeRune r).length) := by
  unfold Scal at h
  rw [Lib.decodeL_N]
  unfold Lib.encodeRune
  by_cases c1 : r ≤ 127
  · rw [Lib.encodeRuneZ_one (by omega) c1]
    have e0 := u8n (x := r) (by omega) (by omega)
    simp only [List.map_cons, List.map_nil, List.cons_append, List.nil_append, List.getD_cons_zero, List.length_cons, List.length_nil]
    rw [e0]
    unfold Lib.decodeN
    rw [if_pos (by omega)]
  · by_cases c2 : r ≤ 2047
    · rw [Lib.encodeRuneZ_two (by omega) c2]
      have e0 := u8n (x := 192 + r / 64) (by omega) (by omega)
      have e1 := u8n (x := 128 + r % 64) (by omega) (by omega)
      simp only [List.map_cons, List.map_nil, List.cons_append, List.nil_append, List.getD_cons_zero, List.getD_cons_succ, List.length_cons, List.length_nil]
      rw [e0, e1]
      unfold Lib.decodeN
      rw [if_neg (by omega), if_pos (by omega), if_pos (by omega)]
      ext <;> dsimp only <;> omega
    · by_cases c3 : r ≤ 65535
      · rw [Lib.encodeRuneZ_three (by omega)]
        have e0 := u8n (x := 224 + r / 4096) (by omega) (by omega)
        have e1 := u8n (x := 128 + r / 64 % 64) (by omega) (by omega)
        have e2 := u8n (x := 128 + r % 64) (by omega) (by omega)
        simp only [List.map_cons, List.map_nil, List.cons_append, List.nil_append, List.getD_cons_zero, List.getD_cons_succ, List.length_cons, List.length_nil]
        rw [e0, e1, e2]
        unfold Lib.decodeN
        rw [if_neg (by omega), if_neg (by omega), if_pos (by omega), if_pos (by omega)]
        ext <;> dsimp only <;> omega
      · rw [Lib.encodeRuneZ_four (by omega) (by omega)]
        have e0 := u8n (x := 240 + r / 262144) (by omega) (by omega)
        have e1 := u8n (x := 128 + r / 4096 % 64) (by omega) (by omega)
        have e2 := u8n (x := 128 + r / 64 % 64) (by omega) (by omega)
        have e3 := u8n (x := 128 + r % 64) (by omega) (by omega)
        simp only [List.map_cons, List.map_nil, List.cons_append, List.nil_append, List.getD_cons_zero, List.getD_cons_succ, List.length_cons, List.length_nil]
        rw [e0, e1, e2, e3]
        unfold Lib.decodeN
        rw [if_neg (by omega), if_neg (by omega), if_neg (by omega), if_pos (by omega), if_pos (by omega)]
        ext <;> dsimp only <;> omega
theorem enc_ne (r : Int) : Lib.encodeRune r ≠ [] := by
  have := (Lib.encodeRuneZ_length r).1
  unfold Lib.encodeRune
  intro h
  rw [List.map_eq_nil_iff] at h
  rw [h] at this
  simp at this
theorem validD_enc {r : Int} (h : Scal r) (t : List UInt8) : Lib.validD (Lib.encodeRune r ++ t) = Lib.validD t := by
  rw [Lib.validD_step _ (by simp [enc_ne]), decodeL_enc h t]
  have hl : 1 ≤ (Lib.encodeRune r).length := by
    have := enc_ne r
    exact List.length_pos_iff.2 this
  have h3 : r = 65533 → (Lib.encodeRune r).length = 3 := by
    rintro rfl; rfl
  rw [if_neg (by dsimp only; rintro ⟨a, b⟩; have := h3 (by omega); omega)]
  rw [List.drop_left]
/-- Bytes that are those of characters, one behind the other. -/
inductive Runes : List UInt8 → Prop where
  | nil : Runes []
  | cons {r : Int} {t : List UInt8} (h : Scal r) (ht : Runes t) : Runes (Lib.encodeRune r ++ t)
theorem Runes.app {a b : List UInt8} (ha : Runes a) (hb : Runes b) : Runes (a ++ b) := by
  induction ha with
  | nil => exact hb
  | cons h _ ih => rw [List.append_assoc]; exact .cons h ih
theorem Runes.one {r : Int} (h : Scal r) : Runes (Lib.encodeRune r) := by
  have := Runes.cons h .nil
  rwa [List.append_nil] at this
theorem Runes.valid {a : List UInt8} (h : Runes a) : Lib.validD a = true := by
  induction h with
  | nil => rfl
  | cons h _ ih => rw [validD_enc h]; exact ih
theorem dec_scal (l : List UInt8) (h : ¬ ((Lib.decodeL l).1 = 65533 ∧ (Lib.decodeL l).2 ≤ 1)) : Scal ((Lib.decodeL l).1 : Int) := by
  unfold Scal
  rw [Lib.decodeL_N] at h ⊢
  rcases Lib.decodeN_shape l.length (l.getD 0 0).toNat (l.getD 1 0).toNat (l.getD 2 0).toNat (l.getD 3 0).toNat with ⟨c, e⟩ | ⟨c1, c2, c3, cv, e⟩ | ⟨c1, c2, c3, c4, cv, cs, e⟩ | ⟨c1, c2, c3, c4, c5, cv, cw, e⟩ | e
  all_goals rw [e] at h ⊢
  all_goals dsimp only at h ⊢
  all_goals first | omega | exact absurd ⟨rfl, Nat.le_refl _⟩ h
theorem valid_runes : ∀ (n : Nat) (l : List UInt8), l.length ≤ n → Lib.validD l = true → Runes l
  | n, [], _, _ => .nil
  | 0, x :: r, h, _ => by simp at h
  | n + 1, x :: r, h, hv => by
    have hne : (x :: r) ≠ [] := by simp
    rw [Lib.validD_step _ hne] at hv
    split at hv
    · cases hv
    · rename_i hb
      have hw := Lib.decodeL_width (x :: r)
      have hle := Lib.decodeL_le (x :: r) hne
      have he := Lib.encode_decode (x :: r) hne hb
      have hr := valid_runes n ((x :: r).drop (Lib.decodeL (x :: r)).2) (by rw [List.length_drop]; omega) hv
      have hs := dec_scal (x :: r) (fun hh => hb ⟨hh.1, by omega⟩)
      have := Runes.cons hs hr
      rwa [he, List.take_append_drop] at this
theorem valid_app {a b : List UInt8} (ha : Lib.validD a = true) : Lib.validD (a ++ b) = Lib.validD b := by
  have h := valid_runes _ _ (Nat.le_refl _) ha
  clear ha
  induction h with
  | nil => rfl
  | cons h _ ih => rw [List.append_assoc, validD_enc h]; exact ih
end Go.Proofs.YtbehakabglegjaaGreatDoor
namespace Go.Proofs.YtbehakabglegjaaGreatDoor
open Go.PlainAid
set_option linter.unusedVariables false
set_option linter.unusedSimpArgs false
/-- How many bytes a character has whose first one that is. -/
def szI (c : Int) : Nat := if c < 128 then 1 else if 192 ≤ c ∧ c < 224 then 2 else if 224 ≤ c ∧ c < 240 then 3 else if 240 ≤ c ∧ c < 248 then 4 else 0
def offI (n : Nat) : Int := if n = 2 then 192 else if n = 3 then 224 else if n = 4 then 240 else 0
/-- The number behind k further bytes. -/
def valI (s : ByteArray) (i n : Nat) : Nat → Int
  | 0 => bt s i - offI n
  | k + 1 => 64 * valI s i n k + bt s (i + (k + 1)) - 128
def ptB (p : Int) : Bool := (decide (0 ≤ p) && decide (p ≤ 1114111)) && (decide (p < 55296) || decide (57343 < p))
def lenE (p : Int) : Nat := if p < 128 then 1 else if p < 2048 then 2 else if p < 65536 then 3 else 4
def badU (s : ByteArray) (i : Nat) : Prop := (Utf8.decode s i).1 = 65533 ∧ (Utf8.decode s i).2 ≤ 1
theorem pt_scal {p : Int} : ptB p = true ↔ Scal p := by unfold ptB Scal; simp; omega
theorem lenE_is {p : Int} (h : Scal p) : (Lib.encodeRune p).length = lenE p := by
  unfold Scal at h
  unfold lenE Lib.encodeRune
  rw [List.length_map]
  by_cases c1 : p ≤ 127
  · rw [Lib.encodeRuneZ_one (by omega) c1, if_pos (by omega)]; rfl
  · by_cases c2 : p ≤ 2047
    · rw [Lib.encodeRuneZ_two (by omega) c2, if_neg (by omega), if_pos (by omega)]; rfl
    · by_cases c3 : p ≤ 65535
      · rw [Lib.encodeRuneZ_three (by omega), if_neg (by omega), if_neg (by omega), if_pos (by omega)]; rfl
      · rw [Lib.encodeRuneZ_four (by omega) (by omega), if_neg (by omega), if_neg (by omega), if_neg (by omega)]; rfl
theorem get_nat (s : ByteArray) (i : Nat) : (s.get! i).toNat = (bt s i).toNat := by
  rcases Nat.lt_or_ge i s.size with h | h
  · rw [← get_bt s i h]
    have e : s.get! i = s[i] := by simp [ByteArray.get!, getElem!_pos, h]; rfl
    rw [e]; rfl
  · rw [bt_end s h]
    have e : s.get! i = 0 := by simp [ByteArray.get!, getElem!_def, h]; rfl
    rw [e]; rfl
theorem dec_bt (s : ByteArray) (i : Nat) : Utf8.decode s i = Lib.decodeN (s.size - i) (bt s i).toNat (bt s (i + 1)).toNat (bt s (i + 2)).toNat (bt s (i + 3)).toNat := by
  rw [Lib.decode_at, get_nat, get_nat, get_nat, get_nat]
theorem at_none {s : ByteArray} {i : Nat} (hi : i < s.size) (h : szI (bt s i) = 0 ∨ s.size < i + szI (bt s i)) : badU s i := by
  unfold badU
  rw [dec_bt]
  have h0 := bt_nonneg s i
  have h1 := bt_le s i
  generalize bt s i = b0 at *
  generalize (bt s (i + 1)).toNat = b1 at *
  generalize (bt s (i + 2)).toNat = b2 at *
  generalize (bt s (i + 3)).toNat = b3 at *
  unfold szI at h
  unfold Lib.decodeN
  repeat' split at h
  all_goals (try omega)
  all_goals
    rw [if_neg (by omega), if_neg (by omega), if_neg (by omega), if_neg (by omega)]
    exact ⟨rfl, Nat.le_refl _⟩
theorem at_cont {s : ByteArray} {i n m : Nat} (hn : szI (bt s i) = n) (hs : i + n ≤ s.size) (h1 : 1 ≤ m) (hm : m < n) (h : ¬ (128 ≤ bt s (i + m) ∧ bt s (i + m) ≤ 191)) : badU s i := by
  unfold badU
  rw [dec_bt]
  have h0 := bt_nonneg s i
  have h0' := bt_le s i
  have k1 := bt_nonneg s (i + 1)
  have k2 := bt_nonneg s (i + 2)
  have k3 := bt_nonneg s (i + 3)
  have hm4 : n ≤ 4 := by unfold szI at hn; repeat' split at hn
                         all_goals omega
  have hc : (m = 1 ∧ ¬ (128 ≤ bt s (i + 1) ∧ bt s (i + 1) ≤ 191)) ∨ (m = 2 ∧ ¬ (128 ≤ bt s (i + 2) ∧ bt s (i + 2) ≤ 191)) ∨ (m = 3 ∧ ¬ (128 ≤ bt s (i + 3) ∧ bt s (i + 3) ≤ 191)) := by
    have : m = 1 ∨ m = 2 ∨ m = 3 := by omega
    rcases this with rfl | rfl | rfl
    · exact .inl ⟨rfl, h⟩
    · exact .inr (.inl ⟨rfl, h⟩)
    · exact .inr (.inr ⟨rfl, h⟩)
  clear h
  generalize bt s i = b0 at *
  generalize bt s (i + 1) = b1 at *
  generalize bt s (i + 2) = b2 at *
  generalize bt s (i + 3) = b3 at *
  unfold szI at hn
  unfold Lib.decodeN
  repeat' split at hn
  all_goals (try omega)
  all_goals
    rw [if_neg (by omega), if_neg (by omega), if_neg (by omega), if_neg (by omega)]
    exact ⟨rfl, Nat.le_refl _⟩
theorem at_all {s : ByteArray} {i n : Nat} (hn : szI (bt s i) = n) (hn0 : n ≠ 0) (hs : i + n ≤ s.size) (h : ∀ m, 1 ≤ m → m < n → 128 ≤ bt s (i + m) ∧ bt s (i + m) ≤ 191) :
    (ptB (valI s i n (n - 1)) = true ∧ lenE (valI s i n (n - 1)) = n → Utf8.decode s i = ((valI s i n (n - 1)).toNat, n) ∧ ¬ badU s i) ∧ (¬ (ptB (valI s i n (n - 1)) = true ∧ lenE (valI s i n (n - 1)) = n) → badU s i) := by
  unfold badU
  rw [pt_scal, dec_bt]
  have h0 := bt_nonneg s i
  have h0' := bt_le s i
  have hn' := hn
  unfold szI at hn
  have hcase : n = 1 ∨ n = 2 ∨ n = 3 ∨ n = 4 := by
    repeat' split at hn
    all_goals omega
  rcases hcase with rfl | rfl | rfl | rfl
  · have hv : valI s i 1 (1 - 1) = bt s i - offI 1 := rfl
    rw [hv]
    clear hv
    generalize bt s i = b0 at *
    have hb : b0 < 128 := by repeat' split at hn
                             all_goals omega
    rw [show b0 - offI 1 = b0 by unfold offI; simp]
    unfold Lib.decodeN lenE Scal
    rw [if_pos (by omega), if_pos (by omega)]
    refine ⟨fun _ => ⟨rfl, by dsimp only; omega⟩, fun hh => absurd ⟨.inl (by omega), rfl⟩ hh⟩
  · have hv : valI s i 2 (2 - 1) = 64 * (bt s i - offI 2) + bt s (i + 1) - 128 := rfl
    rw [hv]
    clear hv
    have c1 := h 1 (by omega) (by omega)
    generalize bt s i = b0 at *
    generalize bt s (i + 1) = b1 at *
    have hb : 192 ≤ b0 ∧ b0 < 224 := by repeat' split at hn
                                        all_goals omega
    rw [show b0 - offI 2 = b0 - 192 by unfold offI; simp]
    unfold Lib.decodeN
    rw [if_neg (by omega), if_pos (by omega)]
    by_cases hp : 128 ≤ 64 * (b0 - 192) + b1 - 128
    · rw [if_pos (by omega)]
      refine ⟨fun _ => ⟨?_, by dsimp only; omega⟩, fun hh => absurd ?_ hh⟩
      · ext <;> dsimp only
        omega
      · unfold Scal lenE
        exact ⟨by omega, by rw [if_neg (by omega), if_pos (by omega)]⟩
    · rw [if_neg (by omega)]
      refine ⟨fun hh => ?_, fun _ => ⟨rfl, Nat.le_refl _⟩⟩
      exfalso
      have := hh.2
      unfold lenE at this
      rw [if_pos (by omega)] at this
      omega
  · have hv : valI s i 3 (3 - 1) = 64 * (64 * (bt s i - offI 3) + bt s (i + 1) - 128) + bt s (i + 2) - 128 := rfl
    rw [hv]
    clear hv
    have c1 := h 1 (by omega) (by omega)
    have c2 := h 2 (by omega) (by omega)
    generalize bt s i = b0 at *
    generalize bt s (i + 1) = b1 at *
    generalize bt s (i + 2) = b2 at *
    have hb : 224 ≤ b0 ∧ b0 < 240 := by repeat' split at hn
                                        all_goals omega
    rw [show b0 - offI 3 = b0 - 224 by unfold offI; simp]
    unfold Lib.decodeN
    rw [if_neg (by omega), if_neg (by omega), if_pos (by omega)]
    by_cases hp : 2048 ≤ 64 * (64 * (b0 - 224) + b1 - 128) + b2 - 128 ∧ (64 * (64 * (b0 - 224) + b1 - 128) + b2 - 128 < 55296 ∨ 57343 < 64 * (64 * (b0 - 224) + b1 - 128) + b2 - 128)
    · rw [if_pos (by omega)]
      refine ⟨fun _ => ⟨?_, by dsimp only; omega⟩, fun hh => absurd ?_ hh⟩
      · ext <;> dsimp only
        omega
      · unfold Scal lenE
        exact ⟨by omega, by rw [if_neg (by omega), if_neg (by omega), if_pos (by omega)]⟩
    · rw [if_neg (by omega)]
      refine ⟨fun hh => ?_, fun _ => ⟨rfl, Nat.le_refl _⟩⟩
      exfalso
      have h1 := hh.1
      have h2 := hh.2
      unfold Scal at h1
      unfold lenE at h2
      repeat' split at h2
      all_goals omega
  · have hv : valI s i 4 (4 - 1) = 64 * (64 * (64 * (bt s i - offI 4) + bt s (i + 1) - 128) + bt s (i + 2) - 128) + bt s (i + 3) - 128 := rfl
    rw [hv]
    clear hv
    have c1 := h 1 (by omega) (by omega)
    have c2 := h 2 (by omega) (by omega)
    have c3 := h 3 (by omega) (by omega)
    generalize bt s i = b0 at *
    generalize bt s (i + 1) = b1 at *
    generalize bt s (i + 2) = b2 at *
    generalize bt s (i + 3) = b3 at *
    have hb : 240 ≤ b0 ∧ b0 < 248 := by repeat' split at hn
                                        all_goals omega
    rw [show b0 - offI 4 = b0 - 240 by unfold offI; simp]
    unfold Lib.decodeN
    rw [if_neg (by omega), if_neg (by omega), if_neg (by omega), if_pos (by omega)]
    by_cases hp : 65536 ≤ 64 * (64 * (64 * (b0 - 240) + b1 - 128) + b2 - 128) + b3 - 128 ∧ 64 * (64 * (64 * (b0 - 240) + b1 - 128) + b2 - 128) + b3 - 128 ≤ 1114111
    · rw [if_pos (by omega)]
      refine ⟨fun _ => ⟨?_, by dsimp only; omega⟩, fun hh => absurd ?_ hh⟩
      · ext <;> dsimp only
        omega
      · unfold Scal lenE
        exact ⟨by omega, by rw [if_neg (by omega), if_neg (by omega), if_neg (by omega)]⟩
    · rw [if_neg (by omega)]
      refine ⟨fun hh => ?_, fun _ => ⟨rfl, Nat.le_refl _⟩⟩
      exfalso
      have h1 := hh.1
      have h2 := hh.2
      unfold Scal at h1
      unfold lenE at h2
      repeat' split at h2
      all_goals omega
/-- What the document's way finds at a place: the number and how many bytes; two noughts: none stands there. -/
def atS (s : ByteArray) (i : Nat) : Nat × Nat := if (Utf8.decode s i).1 = 65533 ∧ (Utf8.decode s i).2 ≤ 1 then (0, 0) else Utf8.decode s i
theorem atS_bad {s : ByteArray} {i : Nat} (h : badU s i) : atS s i = (0, 0) := if_pos h
theorem atS_ok {s : ByteArray} {i : Nat} (h : ¬ badU s i) : atS s i = Utf8.decode s i := if_neg h
end Go.Proofs.YtbehakabglegjaaGreatDoor
namespace Go.Proofs.YtbehakabglegjaaGreatDoor
open Go.RowKit Go.PlainAid
set_option linter.unusedVariables false
set_option linter.unusedSimpArgs false
theorem size_any (c : Int) (h0 : 0 ≤ c) (h1 : c ≤ 255) (w : World) : Calls Tryz.prog 105 #[.int .u8 c] w fun e w' => e = .returned (.int .i64 (szI c)) ∧ w' = w := by
  by_cases c1 : c < 128
  · have H : Hid (szI c = 1) := Lib.hid (by unfold szI; rw [if_pos c1])
    go_enter Tryz.func105, Tryz.ntmps105
    go_wp2
    go_ret
    exact ⟨ret_int (by rw [H.out]; rfl), rfl⟩
  · by_cases c2 : 192 ≤ c ∧ c < 224
    · have H : Hid (szI c = 2) := Lib.hid (by unfold szI; rw [if_neg c1, if_pos c2])
      obtain ⟨c2, c3⟩ := c2
      go_enter Tryz.func105, Tryz.ntmps105
      go_wp2
      go_ret
      exact ⟨ret_int (by rw [H.out]; rfl), rfl⟩
    · by_cases c3 : 224 ≤ c ∧ c < 240
      · have H : Hid (szI c = 3) := Lib.hid (by unfold szI; rw [if_neg c1, if_neg c2, if_pos c3])
        obtain ⟨c3, c4⟩ := c3
        have c5 : 192 ≤ c := by omega
        have c6 : ¬ c < 224 := by omega
        clear c2
        go_enter Tryz.func105, Tryz.ntmps105
        go_wp2
        go_ret
        exact ⟨ret_int (by rw [H.out]; rfl), rfl⟩
      · by_cases c4 : 240 ≤ c ∧ c < 248
        · have H : Hid (szI c = 4) := Lib.hid (by unfold szI; rw [if_neg c1, if_neg c2, if_neg c3, if_pos c4])
          obtain ⟨c4, c5⟩ := c4
          have c6 : 192 ≤ c := by omega
          have c7 : ¬ c < 224 := by omega
          have c8 : 224 ≤ c := by omega
          have c9 : ¬ c < 240 := by omega
          clear c2 c3
          go_enter Tryz.func105, Tryz.ntmps105
          go_wp2
          go_ret
          exact ⟨ret_int (by rw [H.out]; rfl), rfl⟩
        · have H : Hid (szI c = 0) := Lib.hid (by unfold szI; rw [if_neg c1, if_neg c2, if_neg c3, if_neg c4])
          by_cases c5 : c < 192
          · have c6 : ¬ 192 ≤ c := by omega
            have c7 : ¬ 224 ≤ c := by omega
            have c8 : ¬ 240 ≤ c := by omega
            clear c2 c3 c4
            go_enter Tryz.func105, Tryz.ntmps105
            go_wp2
            go_ret
            exact ⟨ret_int (by rw [H.out]; rfl), rfl⟩
          · have c6 : 192 ≤ c := by omega
            have c7 : ¬ c < 224 := by omega
            have c8 : 224 ≤ c := by omega
            have c9 : ¬ c < 240 := by omega
            have c10 : 240 ≤ c := by omega
            have c11 : ¬ c < 248 := by omega
            clear c2 c3 c4
            go_enter Tryz.func105, Tryz.ntmps105
            go_wp2
            go_ret
            exact ⟨ret_int (by rw [H.out]; rfl), rfl⟩
theorem point_any (p : Int) (w : World) : Calls Tryz.prog 106 #[.int .i64 p] w fun e w' => e = .returned (.bool (ptB p)) ∧ w' = w := by
  by_cases c1 : 0 ≤ p
  · by_cases c2 : p ≤ 1114111
    · by_cases c3 : p < 55296
      · have H : Hid (ptB p = true) := Lib.hid (by unfold ptB; simp; omega)
        go_enter Tryz.func106, Tryz.ntmps106
        go_wp2
        go_ret
        exact ⟨ret_bool (by rw [H.out]), rfl⟩
      · by_cases c4 : 57343 < p
        · have H : Hid (ptB p = true) := Lib.hid (by unfold ptB; simp; omega)
          go_enter Tryz.func106, Tryz.ntmps106
          go_wp2
          go_ret
          exact ⟨ret_bool (by rw [H.out]), rfl⟩
        · have H : Hid (ptB p = false) := Lib.hid (by unfold ptB; simp; omega)
          go_enter Tryz.func106, Tryz.ntmps106
          go_wp2
          go_ret
          exact ⟨ret_bool (by rw [H.out]), rfl⟩
    · have H : Hid (ptB p = false) := Lib.hid (by unfold ptB; simp; omega)
      go_enter Tryz.func106, Tryz.ntmps106
      go_wp2
      go_ret
      exact ⟨ret_bool (by rw [H.out]), rfl⟩
  · have H : Hid (ptB p = false) := Lib.hid (by unfold ptB; simp; omega)
    go_enter Tryz.func106, Tryz.ntmps106
    go_wp2
    go_ret
    exact ⟨ret_bool (by rw [H.out]), rfl⟩
/-- The call gave a new row of these bytes. -/
def NewB (l : List Value) (w : World) (e : Ending) (w' : World) : Prop := ∃ g, w.heap.size ≤ g ∧ e = .returned (.slice (some ⟨g, 0, none⟩) l.length l.length) ∧ IBox w' g 5 l.toArray ∧ Below w.heap.size w w'
theorem NewB.mk {w : World} {l : List Value} {n : Nat} {arr : Array Value} (hn : l.length = n) (ha : l.toArray = arr) : NewB l w (.returned (.slice (some ⟨w.heap.size, 0, none⟩) n n)) (w.alloc (.cells arr 5)) := by
  subst hn ha
  exact ⟨_, Nat.le_refl _, rfl, IBox.new _ _ _, (Below.refl _ _).alloc (Nat.le_refl _) _⟩
set_option maxHeartbeats 1000000 in
theorem bytes_any {p : Int} (hp : Scal p) (w : World) : Calls Tryz.prog 107 #[.int .i64 p] w (NewB (Lib.runeCells p) w) := by
  have hp' := hp
  unfold Scal at hp'
  have h0 : 0 ≤ p := by omega
  have h1 : p ≤ 1114111 := by omega
  have q0 : 0 ≤ p % 64 := by omega
  have q1 : p % 64 ≤ 63 := by omega
  have q2 : 0 ≤ p / 64 := by omega
  have q3 : 0 ≤ p / 4096 := by omega
  have q4 : 0 ≤ p / 64 % 64 := by omega
  have q5 : p / 64 % 64 ≤ 63 := by omega
  have q6 : 0 ≤ p / 4096 % 64 := by omega
  have q7 : p / 4096 % 64 ≤ 63 := by omega
  have q8 : 0 ≤ p / 262144 := by omega
  by_cases c1 : p < 128
  · have H : Hid (Lib.runeCells p = [.int .u8 p]) := Lib.hid (by unfold Lib.runeCells; rw [Lib.encodeRuneZ_one (by omega) (by omega)]; rfl)
    clear hp hp'
    go_enter Tryz.func107, Tryz.ntmps107
    go_wp2
    go_ret
    exact NewB.mk (by rw [H.out]; rfl) (by rw [H.out])
  · by_cases c2 : p < 2048
    · have H : Hid (Lib.runeCells p = [.int .u8 (192 + p / 64), .int .u8 (128 + p % 64)]) := Lib.hid (by unfold Lib.runeCells; rw [Lib.encodeRuneZ_two (by omega) (by omega)]; rfl)
      have r1 : p / 64 ≤ 31 := by omega
      clear hp hp'
      go_enter Tryz.func107, Tryz.ntmps107
      go_wp2
      go_ret
      exact NewB.mk (by rw [H.out]; rfl) (by rw [H.out])
    · by_cases c3 : p < 65536
      · have H : Hid (Lib.runeCells p = [.int .u8 (224 + p / 4096), .int .u8 (128 + p / 64 % 64), .int .u8 (128 + p % 64)]) := Lib.hid (by unfold Lib.runeCells; rw [Lib.encodeRuneZ_three (by omega)]; rfl)
        have r1 : p / 4096 ≤ 15 := by omega
        clear hp hp'
        go_enter Tryz.func107, Tryz.ntmps107
        go_wp2
        go_ret
        exact NewB.mk (by rw [H.out]; rfl) (by rw [H.out])
      · have H : Hid (Lib.runeCells p = [.int .u8 (240 + p / 262144), .int .u8 (128 + p / 4096 % 64), .int .u8 (128 + p / 64 % 64), .int .u8 (128 + p % 64)]) := Lib.hid (by unfold Lib.runeCells; rw [Lib.encodeRuneZ_four (by omega) (by omega)]; rfl)
        have r1 : p / 262144 ≤ 4 := by omega
        clear hp hp'
        go_enter Tryz.func107, Tryz.ntmps107
        go_wp2
        go_ret
        exact NewB.mk (by rw [H.out]; rfl) (by rw [H.out])
end Go.Proofs.YtbehakabglegjaaGreatDoor
