/- Characters and their bytes, in plain words. -/
import Derived.Lib.MapLaws
import Derived.Lib.ValidLaws
import Derived.Lib.RuneBytes
namespace Go.Proofs.YtnjhmnolngdfaaaGreatDoor
set_option linter.unusedVariables false
/-- The number of a character. -/
def Scal (r : Int) : Prop := (0 ≤ r ∧ r < 55296) ∨ (57344 ≤ r ∧ r ≤ 1114111)
theorem u8n {x : Int} (h0 : 0 ≤ x) (h1 : x < 256) : (x.toNat.toUInt8).toNat = x.toNat := by
  simp only [Nat.toUInt8, UInt8.toNat_ofNat']
  omega
theorem decodeL_enc {r : Int} (h : Scal r) (t : List UInt8) : Lib.decodeL (Lib.encodeRune r ++ t) = (r.toNat, (Lib.encodeRune r).length) := by
  unfold Scal at h
  rw [Lib.decodeL_N]
  unfold Lib.encodeRune
  by_cases c1 : r ≤ 127
  · rw [Lib.encodeRuneZ_one (by omega) c1]
    have e0 := u8n (x := r) (by omega) (by omega)
    simp only [List.map_cons, List.map_nil, List.cons_append, List.nil_append, List.getD_cons_zero, List.length_cons, List.length_nil]
    rw [e0]
    unfold Lib.decodeN
    rw [if_pos (by omega)]
  · by_cases c2 : r ≤ 2047
    · rw [Lib.encodeRuneZ_two (by omega) c2]
      have e0 := u8n (x := 192 + r / 64) (by omega) (by omega)
      have e1 := u8n (x := 128 + r % 64) (by omega) (by omega)
      simp only [List.map_cons, List.map_nil, List.cons_append, List.nil_append, List.getD_cons_zero, List.getD_cons_succ, List.length_cons, List.length_nil]
      rw [e0, e1]
      unfold Lib.decodeN
      rw [if_neg (by omega), if_pos (by omega), if_pos (by omega)]
      ext <;> dsimp only <;> omega
    · by_cases c3 : r ≤ 65535
      · rw [Lib.encodeRuneZ_three (by omega)]
        have e0 := u8n (x := 224 + r / 4096) (by omega) (by omega)
        have e1 := u8n (x := 128 + r / 64 % 64) (by omega) (by omega)
        have e2 := u8n (x := 128 + r % 64) (by omega) (by omega)
        simp only [List.map_cons, List.map_nil, List.cons_append, List.nil_append, List.getD_cons_zero, List.getD_cons_succ, List.length_cons, List.length_nil]
        rw [e0, e1, e2]
        unfold Lib.decodeN
        rw [if_neg (by omega), if_neg (by omega), if_pos (by omega), if_pos (by omega)]
        ext <;> dsimp only <;> omega
      · rw [Lib.encodeRuneZ_four (by omega) (by omega)]
        have e0 := u8n (x := 240 + r / 262144) (by omega) (by omega)
        have e1 := u8n (x := 128 + r / 4096 % 64) (by omega) (by omega)
        have e2 := u8n (x := 128 + r / 64 % 64) (by omega) (by omega)
        have e3 := u8n (x := 128 + r % 64) (by omega) (by omega)
        simp only [List.map_cons, List.map_nil, List.cons_append, List.nil_append, List.getD_cons_zero, List.getD_cons_succ, List.length_cons, List.length_nil]
        rw [e0, e1, e2, e3]
        unfold Lib.decodeN
        rw [if_neg (by omega), if_neg (by omega), if_neg (by omega), if_pos (by omega), if_pos (by omega)]
        ext <;> dsimp only <;> omega
theorem enc_ne (r : Int) : Lib.encodeRune r ≠ [] := by
  have := (Lib.encodeRuneZ_length r).1
  unfold Lib.encodeRune
  intro h
  rw [List.map_eq_nil_iff] at h
  rw [h] at this
  simp at this
theorem validD_enc {r : Int} (h : Scal r) (t : List UInt8) : Lib.validD (Lib.encodeRune r ++ t) = Lib.validD t := by
  rw [Lib.validD_step _ (by simp [enc_ne]), decodeL_enc h t]
  have hl : 1 ≤ (Lib.encodeRune r).length := by
    have := enc_ne r
    exact List.length_pos_iff.2 this
  have h3 : r = 65533 → (Lib.encodeRune r).length = 3 := by
    rintro rfl; rfl
  rw [if_neg (by dsimp only; rintro ⟨a, b⟩; have := h3 (by omega); omega)]
  rw [List.drop_left]
/-- Bytes that are those of characters, one behind the other. -/
inductive Runes : List UInt8 → Prop where
  | nil : Runes []
  | cons {r : Int} {t : List UInt8} (h : Scal r) (ht : Runes t) : Runes (Lib.encodeRune r ++ t)
theorem Runes.app {a b : List UInt8} (ha : Runes a) (hb : Runes b) : Runes (a ++ b) := by
  induction ha with
  | nil => exact hb
  | cons h _ ih => rw [List.append_assoc]; exact .cons h ih
theorem Runes.one {r : Int} (h : Scal r) : Runes (Lib.encodeRune r) := by
  have := Runes.cons h .nil
  rwa [List.append_nil] at this
theorem Runes.valid {a : List UInt8} (h : Runes a) : Lib.validD a = true := by
  induction h with
  | nil => rfl
  | cons h _ ih => rw [validD_enc h]; exact ih
theorem dec_scal (l : List UInt8) (h : ¬ ((Lib.decodeL l).1 = 65533 ∧ (Lib.decodeL l).2 ≤ 1)) : Scal ((Lib.decodeL l).1 : Int) := by
  unfold Scal
  rw [Lib.decodeL_N] at h ⊢
  rcases Lib.decodeN_shape l.length (l.getD 0 0).toNat (l.getD 1 0).toNat (l.getD 2 0).toNat (l.getD 3 0).toNat with ⟨c, e⟩ | ⟨c1, c2, c3, cv, e⟩ | ⟨c1, c2, c3, c4, cv, cs, e⟩ | ⟨c1, c2, c3, c4, c5, cv, cw, e⟩ | e
  all_goals rw [e] at h ⊢
  all_goals dsimp only at h ⊢
  all_goals first | omega | exact absurd ⟨rfl, Nat.le_refl _⟩ h
theorem valid_runes : ∀ (n : Nat) (l : List UInt8), l.length ≤ n → Lib.validD l = true → Runes l
  | n, [], _, _ => .nil
  | 0, x :: r, h, _ => by simp at h
  | n + 1, x :: r, h, hv => by
    have hne : (x :: r) ≠ [] := by simp
    rw [Lib.validD_step _ hne] at hv
    split at hv
    · cases hv
    · rename_i hb
      have hw := Lib.decodeL_width (x :: r)
      have hle := Lib.decodeL_le (x :: r) hne
      have he := Lib.encode_decode (x :: r) hne hb
      have hr := valid_runes n ((x :: r).drop (Lib.decodeL (x :: r)).2) (by rw [List.length_drop]; omega) hv
      have hs := dec_scal (x :: r) (fun hh => hb ⟨hh.1, by omega⟩)
      have := Runes.cons hs hr
      rwa [he, List.take_append_drop] at this
theorem valid_app {a b : List UInt8} (ha : Lib.validD a = true) : Lib.validD (a ++ b) = Lib.validD b := by
  have h := valid_runes _ _ (Nat.le_refl _) ha
  clear ha
  induction h with
  | nil => rfl
  | cons h _ ih => rw [List.append_assoc, validD_enc h]; exact ih
end Go.Proofs.YtnjhmnolngdfaaaGreatDoor
