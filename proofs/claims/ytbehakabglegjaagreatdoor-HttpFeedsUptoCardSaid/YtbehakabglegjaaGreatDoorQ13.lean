/- Layer 9: how long a feed's headers are; a length's text, as the library reads it (plain). -/
import Derived.Lib.ParseIntBCases
import Derived.Test.YtbehakabglegjaaGreatDoorQ00
namespace Go.Proofs.YtbehakabglegjaaGreatDoor
set_option linter.unusedVariables false
set_option linter.unusedSimpArgs false
def HZ (F : Fs) : Prop := ∀ p ∈ F.m.heads, p.1.size ≤ 8192 ∧ p.2.size ≤ 8192
theorem HZ.end_ (f : Fs) : HZ f.end_ := fun p hp => by cases hp
theorem dropWhile_le {α : Type} (p : α → Bool) : ∀ l : List α, (l.dropWhile p).length ≤ l.length
  | [] => Nat.le_refl _
  | a :: r => by
    rw [List.dropWhile_cons]
    split
    · exact Nat.le_trans (dropWhile_le p r) (Nat.le_succ _)
    · exact Nat.le_refl _
theorem trimL_le (l : List UInt8) : (trimL l).length ≤ l.length := by
  unfold trimL Lib.trimS Lib.trimLeftS Lib.trimRightS
  refine Nat.le_trans (dropWhile_le _ _) ?_
  rw [List.length_reverse]
  refine Nat.le_trans (dropWhile_le _ _) ?_
  rw [List.length_reverse]
  exact Nat.le_refl _
theorem txt_size (l : List UInt8) : (txt l).size = l.length := rfl
theorem HZ.step {f g : Fs} {c : UInt8} (h : HZ f) (ht : f.tok.length ≤ 8192) (hn : f.next ≤ 13) (e : stepS f c = .ok g) : HZ g := by
  have hc : f.next = 0 ∨ f.next = 1 ∨ f.next = 2 ∨ f.next = 3 ∨ f.next = 4 ∨ f.next = 5 ∨ f.next = 6 ∨ f.next = 7 ∨ f.next = 8 ∨ f.next = 9 ∨ f.next = 10 ∨ f.next = 11 ∨ f.next = 12 ∨ f.next = 13 := by omega
  have hs : ∀ g2 : Fs, g2.m.heads = f.m.heads → HZ g2 := fun g2 e2 => by unfold HZ; rw [e2]; exact h
  rcases hc with hn | hn | hn | hn | hn | hn | hn | hn | hn | hn | hn | hn | hn | hn
  all_goals simp only [stepS, hn] at e
  · unfold methodS at e; repeat' split at e
    all_goals first | (cases e; done) | (injection e with e; subst e; exact hs _ rfl)
  · unfold targetS at e; repeat' split at e
    all_goals first | (cases e; done) | (injection e with e; subst e; exact hs _ rfl)
  · unfold versionS at e; repeat' split at e
    all_goals first | (cases e; done) | (injection e with e; subst e; exact hs _ rfl)
  · unfold statusS at e; repeat' split at e
    all_goals first | (cases e; done) | (injection e with e; subst e; exact hs _ rfl)
  · unfold reasonS at e; repeat' split at e
    all_goals first | (cases e; done) | (injection e with e; subst e; exact hs _ rfl)
  · unfold lineS bodyS at e; simp only at e; repeat' split at e
    all_goals first | (cases e; done) | (injection e with e; subst e; first | exact hs _ rfl | exact HZ.end_ _)
  · unfold nameS at e; repeat' split at e
    all_goals first | (cases e; done) | (injection e with e; subst e)
    all_goals first
      | exact hs _ rfl
      | skip
    intro p hp
    rcases List.mem_append.1 hp with hp | hp
    · exact h p hp
    · rw [List.mem_singleton.1 hp]
      exact ⟨by rw [txt_size]; exact ht, Nat.zero_le _⟩
  · unfold valueS at e; repeat' split at e
    all_goals first | (cases e; done) | (injection e with e; subst e)
    all_goals first
      | exact hs _ rfl
      | skip
    intro p hp
    have hp2 : p ∈ setLast f.m.heads (txt (trimL f.tok)) := hp
    unfold setLast at hp2
    cases hl : f.m.heads.getLast? with
    | none => rw [hl] at hp2; cases hp2
    | some q =>
      rw [hl] at hp2
      rcases List.mem_append.1 hp2 with hp2 | hp2
      · exact h p ((List.dropLast_sublist _).subset hp2)
      · rw [List.mem_singleton.1 hp2]
        exact ⟨(h q (List.mem_of_getLast? hl)).1, by rw [txt_size]; exact Nat.le_trans (trimL_le _) ht⟩
  · unfold bytesS at e; simp only at e; repeat' split at e
    all_goals first | (cases e; done) | (injection e with e; subst e; first | exact hs _ rfl | exact HZ.end_ _)
  · unfold digitsS at e; repeat' split at e
    all_goals first | (cases e; done) | (injection e with e; subst e; exact hs _ rfl)
  · unfold sizedS at e; repeat' split at e
    all_goals first | (cases e; done) | (injection e with e; subst e; exact hs _ rfl)
  · unfold pieceS at e; simp only at e; repeat' split at e
    all_goals first | (cases e; done) | (injection e with e; subst e; exact hs _ rfl)
  · unfold tailS at e; repeat' split at e
    all_goals first | (cases e; done) | (injection e with e; subst e; exact hs _ rfl)
  · unfold lastS at e; repeat' split at e
    all_goals first | (cases e; done) | (injection e with e; subst e; first | exact hs _ rfl | exact HZ.end_ _)
theorem puM_digits : ∀ (l : List UInt8) (acc u : Nat), Lib.parseUintM (2 ^ 64 - 1) acc l = .ok u → l.all isDigB = true
  | [], _, _, _ => rfl
  | c :: r, acc, u, h => by
    unfold Lib.parseUintM at h
    split at h
    · rename_i hc
      split at h
      · cases h
      · split at h
        · cases h
        · rw [List.all_cons, puM_digits r _ u h, Bool.and_true]
          unfold isDigB
          simp [hc.1, hc.2]
    · cases h
theorem puM_ok : ∀ (l : List UInt8) (acc : Nat), l.all isDigB = true → (acc + 1) * 10 ^ l.length ≤ 10000000000 → Lib.parseUintM (2 ^ 64 - 1) acc l = .ok (l.foldl (fun n c => 10 * n + (c.toNat - 48)) acc)
  | [], _, _, _ => rfl
  | c :: r, acc, h, hb => by
    rw [List.all_cons, Bool.and_eq_true] at h
    have hc : 48 ≤ c.toNat ∧ c.toNat ≤ 57 := by simpa [isDigB] using h.1
    have hp : 1 ≤ 10 ^ r.length := Nat.one_le_pow _ _ (by decide)
    rw [List.length_cons, Nat.pow_succ] at hb
    have h1 : (acc + 1) * 10 * 10 ^ r.length ≤ 10000000000 := by rw [Nat.mul_assoc, Nat.mul_comm 10]; exact hb
    have h2 : (acc + 1) * 10 ≤ 10000000000 := Nat.le_trans (Nat.le_mul_of_pos_right _ hp) h1
    have h3 : (acc * 10 + (c.toNat - 48) + 1) * 10 ^ r.length ≤ 10000000000 := Nat.le_trans (Nat.mul_le_mul_right _ (by omega)) h1
    unfold Lib.parseUintM
    rw [if_pos hc, if_neg (by omega), if_neg (by have : (2 : Nat) ^ 64 - 1 = 18446744073709551615 := rfl; omega), puM_ok r _ h.2 h3, List.foldl_cons, Nat.mul_comm acc 10]
theorem decV_lt : ∀ (l : List UInt8), l.all isDigB = true → decV l < 10 ^ l.length := fun l => by
  have key : ∀ (l : List UInt8) (acc : Nat), l.all isDigB = true → l.foldl (fun n c => 10 * n + (c.toNat - 48)) acc < (acc + 1) * 10 ^ l.length := by
    intro l
    induction l with
    | nil => intro acc _; simp
    | cons c r ih =>
      intro acc h
      rw [List.all_cons, Bool.and_eq_true] at h
      have hc : 48 ≤ c.toNat ∧ c.toNat ≤ 57 := by simpa [isDigB] using h.1
      have h1 := ih (10 * acc + (c.toNat - 48)) h.2
      rw [List.foldl_cons, List.length_cons, Nat.pow_succ]
      refine Nat.lt_of_lt_of_le h1 ?_
      rw [show (acc + 1) * (10 ^ r.length * 10) = ((acc + 1) * 10) * 10 ^ r.length by rw [Nat.mul_assoc, Nat.mul_comm 10]]
      exact Nat.mul_le_mul_right _ (by omega)
  intro h
  have := key l 0 h
  unfold decV
  simpa using this
/-- A length's text that holds: what the library reads. -/
theorem pu_some {l : List UInt8} {n : Nat} (h : decS l = some n) : Lib.parseUintB 64 l = .ok n ∧ l.length ≤ 10 ∧ n < 10000000000 := by
  unfold decS at h
  split at h
  · rename_i hc
    obtain ⟨h0, h1, h2⟩ := hc
    injection h with h
    have hpw : 10 ^ l.length ≤ 10 ^ 10 := Nat.pow_le_pow_right (by decide) h1
    have h10 : (10 : Nat) ^ 10 = 10000000000 := rfl
    refine ⟨?_, h1, by have := decV_lt l h2; omega⟩
    unfold Lib.parseUintB
    rw [if_neg h0, puM_ok l 0 h2 (by omega), ← h]
    rfl
  · cases h
theorem pu_none {l : List UInt8} {u : Nat} (h : decS l = none) (hp : Lib.parseUintB 64 l = .ok u) : 10 < l.length ∧ u ≤ 18446744073709551615 := by
  unfold Lib.parseUintB at hp
  split at hp
  · cases hp
  · rename_i h0
    have hd := puM_digits l 0 u hp
    refine ⟨?_, Lib.parseUintM_le _ l 0 u (Nat.zero_le _) hp⟩
    unfold decS at h
    split at h
    · cases h
    · rename_i hc
      exact Nat.lt_of_not_le fun h1 => hc ⟨h0, h1, hd⟩
end Go.Proofs.YtbehakabglegjaaGreatDoor
