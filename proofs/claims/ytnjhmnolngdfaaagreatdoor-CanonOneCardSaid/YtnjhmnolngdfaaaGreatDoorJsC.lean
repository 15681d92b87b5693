/- Layer 2: the digits of a number, and what strconv.ParseInt makes of them (plain). -/
import Derived.Test.YtnjhmnolngdfaaaGreatDoorJsB
import Derived.Lib.ParseIntB
import Derived.Lib.ParseIntBCases
namespace Go.Proofs.YtnjhmnolngdfaaaGreatDoor
open Go.RowKit Go.PlainAid
set_option linter.unusedVariables false
set_option linter.unusedSimpArgs false

def dsum : Nat → List UInt8 → Nat
  | a, [] => a
  | a, c :: r => dsum (a * 10 + (c.toNat - 48)) r
def digs (l : List UInt8) : Prop := ∀ c ∈ l, 48 ≤ c.toNat ∧ c.toNat ≤ 57
theorem dsum_ge : ∀ (l : List UInt8) (a : Nat), a ≤ dsum a l
  | [], a => Nat.le_refl _
  | c :: r, a => by unfold dsum; have := dsum_ge r (a * 10 + (c.toNat - 48)); omega
theorem uintM_is : ∀ (l : List UInt8) (a : Nat), digs l → a ≤ 18446744073709551615 → Lib.parseUintM 18446744073709551615 a l = if dsum a l ≤ 18446744073709551615 then .ok (dsum a l) else .range
  | [], a, _, ha => by unfold Lib.parseUintM dsum; rw [if_pos ha]
  | c :: r, a, hd, ha => by
    have hc := hd c (by simp)
    have hg := dsum_ge r (a * 10 + (c.toNat - 48))
    have hr : digs r := fun x hx => hd x (by simp [hx])
    unfold Lib.parseUintM dsum
    rw [if_pos hc]
    split
    · rw [if_neg (by omega)]
    · split
      · rw [if_neg (by omega)]
      · exact uintM_is r _ hr (by omega)
theorem ext_cons {s : ByteArray} {j k : Nat} (hj : j < k) (hk : k ≤ s.size) : (s.extract j k).data.toList = s[j] :: (s.extract (j + 1) k).data.toList := by
  apply List.ext_getElem
  · simp; omega
  · intro n h1 h2
    match n with
    | 0 => simp; rfl
    | m + 1 =>
      simp
      congr 1
      omega
theorem ext_nil {s : ByteArray} {j k : Nat} (hj : k ≤ j) : (s.extract j k).data.toList = [] := by
  apply List.eq_nil_of_length_eq_zero
  simp; omega
theorem digs_sum {s : ByteArray} {k : Nat} (hk : k ≤ s.size) : ∀ (n j a : Nat), j + n = k → (∀ q, j ≤ q → q < k → digI (pk s q) = true) → digsTo s n j (a : Int) = (dsum a (s.extract j k).data.toList : Nat) ∧ digs (s.extract j k).data.toList
  | 0, j, a, hj, _ => by
    rw [ext_nil (by omega)]
    exact ⟨rfl, fun c hc => by cases hc⟩
  | n + 1, j, a, hj, hd => by
    have h0 := hd j (Nat.le_refl _) (by omega)
    have hj2 : j < s.size := by omega
    rw [pk_in hj2] at h0
    unfold digI at h0
    simp only [Bool.and_eq_true, decide_eq_true_eq] at h0
    have hb : bt s j = ((s[j]).toNat : Int) := by unfold bt; rw [dif_pos hj2]
    obtain ⟨h1, h2⟩ := digs_sum hk n (j + 1) (a * 10 + ((s[j]).toNat - 48)) (by omega) (fun q hq1 hq2 => hd q (by omega) hq2)
    rw [ext_cons (by omega) hk]
    refine ⟨?_, fun c hc => ?_⟩
    · unfold digsTo dsum
      rw [← h1]
      congr 1
      omega
    · rcases List.mem_cons.1 hc with rfl | h
      · omega
      · exact h2 c h
theorem over_all {p : Int → Bool} {s : ByteArray} : ∀ (n i q : Nat), i ≤ q → q < over1 p s n i → p (pk s q) = true
  | 0, i, q, h1, h2 => by unfold over1 at h2; omega
  | n + 1, i, q, h1, h2 => by
    unfold over1 at h2
    split at h2
    · rename_i h
      rcases Nat.eq_or_lt_of_le h1 with rfl | h3
      · exact h
      · exact over_all n (i + 1) q h3 h2
    · omega
theorem num_digs {s : ByteArray} {j : Nat} (h : digI (pk s j) = true) : ∀ q, j ≤ q → q < numEnd s j → digI (pk s q) = true := fun q h1 h2 => by
  unfold numEnd at h2
  split at h2
  · rw [show q = j by omega]; exact h
  · exact over_all _ _ q h1 h2
theorem numVal_is {s : ByteArray} {j : Nat} (h : digI (pk s j) = true) : numVal s j = (dsum 0 (s.extract j (numEnd s j)).data.toList : Nat) ∧ digs (s.extract j (numEnd s j)).data.toList := by
  have hb := numEnd_gt h
  exact digs_sum hb.2 (numEnd s j - j) j 0 (by omega) (num_digs h)
theorem numVal_nonneg {s : ByteArray} {j : Nat} (h : digI (pk s j) = true) : 0 ≤ numVal s j := by rw [(numVal_is h).1]; omega
theorem uintB_is {l : List UInt8} (hl : l ≠ []) (hd : digs l) : Lib.parseUintB 64 l = if dsum 0 l ≤ 18446744073709551615 then .ok (dsum 0 l) else .range := by
  unfold Lib.parseUintB
  rw [if_neg hl]
  exact uintM_is l 0 hd (by omega)
/-- strconv.ParseInt at the letters of a number that begins at i and whose digits begin at j. -/
theorem int_parse {s : ByteArray} {i j : Nat} (h : digI (pk s j) = true) (hij : (pk s i = 45 ∧ j = i + 1) ∨ (pk s i ≠ 45 ∧ j = i)) :
    (Lib.parseIntB 64 (s.extract i (numEnd s j)).data.toList = .ok (if pk s i = 45 then -numVal s j else numVal s j) ∧ numVal s j ≤ 9223372036854775808) ∨ (Lib.parseIntB 64 (s.extract i (numEnd s j)).data.toList = .range ∧ 9223372036854775808 ≤ numVal s j) := by
  have hb := numEnd_gt h
  obtain ⟨hv, hd⟩ := numVal_is h
  have hj2 : j < s.size := by omega
  have hne : (s.extract j (numEnd s j)).data.toList ≠ [] := by rw [ext_cons hb.1 hb.2]; simp
  have hu := uintB_is hne hd
  have h0 := h
  rw [pk_in hj2] at h0
  unfold digI at h0
  simp only [Bool.and_eq_true, decide_eq_true_eq] at h0
  have hbj : bt s j = ((s[j]).toNat : Int) := by unfold bt; rw [dif_pos hj2]
  rw [hv]
  generalize dsum 0 (s.extract j (numEnd s j)).data.toList = D at *
  rcases hij with ⟨h45, rfl⟩ | ⟨h45, rfl⟩
  · have hi2 : i < s.size := by omega
    have hc : (s[i]).toNat = 45 := by
      rw [pk_in hi2] at h45
      unfold bt at h45
      rw [dif_pos hi2] at h45
      omega
    rw [ext_cons (by omega) hb.2, if_pos h45]
    unfold Lib.parseIntB
    simp only [hc, or_true, if_true, hu]
    by_cases hD : D ≤ 18446744073709551615
    · rw [if_pos hD]
      by_cases h3 : 9223372036854775808 < D
      · exact .inr ⟨by simp; omega, by omega⟩
      · exact .inl ⟨by simp; omega, by omega⟩
    · rw [if_neg hD]
      exact .inr ⟨rfl, by omega⟩
  · have hc1 : (s[j]).toNat ≠ 43 := by omega
    have hc2 : (s[j]).toNat ≠ 45 := by omega
    rw [ext_cons hb.1 hb.2, if_neg h45]
    unfold Lib.parseIntB
    simp only [hc1, hc2, or_false, if_false]
    rw [← ext_cons hb.1 hb.2, hu]
    by_cases hD : D ≤ 18446744073709551615
    · rw [if_pos hD]
      by_cases h3 : 9223372036854775808 ≤ D
      · exact .inr ⟨by simp; omega, by omega⟩
      · exact .inl ⟨by simp; omega, by omega⟩
    · rw [if_neg hD]
      exact .inr ⟨rfl, by omega⟩
end Go.Proofs.YtnjhmnolngdfaaaGreatDoor
