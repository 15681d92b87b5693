/- Layer 9: however bytes are cut, the messages and the fault are the same (plain). Layer 9: how long a feed's headers are; a length's text, as the library reads it (plain). Layer 9: what a step's answer is bound to (plain). Layer 9: bytes in any pieces (plain): what a feed makes of the first pieces, and of the next one. JSON values and rows of structs in memory: what they read as. -/
import Derived.Test.YtbehakabglegjaaGreatDoorQ00
import Derived.Lib.ParseIntBCases
import Derived.Deep.MidRow
namespace Go.Proofs.YtbehakabglegjaaGreatDoor
set_option linter.unusedVariables false
set_option linter.unusedSimpArgs false
/-- The feed with other messages ahead of those that are whole. -/
def Fs.pre (f : Fs) (W : List Ms) : Fs := { f with whole := W ++ f.whole }
def St.pre (s : St) (W : List Ms) : St := match s with | .bad c => .bad c | .ok f => .ok (f.pre W)
theorem end_pre (f : Fs) (W : List Ms) : (f.pre W).end_ = f.end_.pre W := by
  unfold Fs.end_ Fs.pre Fs.begin
  simp only [List.append_assoc]
theorem ite_two {p : Prop} {d1 d2 : Decidable p} {a b c d : St} {W : List Ms} (h1 : a = c.pre W) (h2 : b = d.pre W) : @ite St p d1 a b = (@ite St p d2 c d).pre W := by
  by_cases h : p
  · rw [if_pos h, if_pos h]; exact h1
  · rw [if_neg h, if_neg h]; exact h2
theorem ok_pre (f g : Fs) (W : List Ms) (h : g = f.pre W) : St.ok g.end_ = (St.ok f.end_).pre W := by
  show St.ok g.end_ = St.ok (f.end_.pre W)
  rw [h, end_pre]
theorem methodS_pre (f : Fs) (W : List Ms) (c : UInt8) : methodS (f.pre W) c = (methodS f c).pre W := by
  unfold methodS
  repeat' (refine ite_two ?_ ?_)
  all_goals rfl
theorem targetS_pre (f : Fs) (W : List Ms) (c : UInt8) : targetS (f.pre W) c = (targetS f c).pre W := by
  unfold targetS
  repeat' (refine ite_two ?_ ?_)
  all_goals rfl
theorem versionS_pre (f : Fs) (W : List Ms) (c : UInt8) : versionS (f.pre W) c = (versionS f c).pre W := by
  unfold versionS
  repeat' (refine ite_two ?_ ?_)
  all_goals rfl
theorem statusS_pre (f : Fs) (W : List Ms) (c : UInt8) : statusS (f.pre W) c = (statusS f c).pre W := by
  unfold statusS
  repeat' (refine ite_two ?_ ?_)
  all_goals rfl
theorem reasonS_pre (f : Fs) (W : List Ms) (c : UInt8) : reasonS (f.pre W) c = (reasonS f c).pre W := by
  unfold reasonS
  repeat' (refine ite_two ?_ ?_)
  all_goals rfl
theorem nameS_pre (f : Fs) (W : List Ms) (c : UInt8) : nameS (f.pre W) c = (nameS f c).pre W := by
  unfold nameS
  repeat' (refine ite_two ?_ ?_)
  all_goals rfl
theorem valueS_pre (f : Fs) (W : List Ms) (c : UInt8) : valueS (f.pre W) c = (valueS f c).pre W := by
  unfold valueS
  repeat' (refine ite_two ?_ ?_)
  all_goals rfl
theorem digitsS_pre (f : Fs) (W : List Ms) (c : UInt8) : digitsS (f.pre W) c = (digitsS f c).pre W := by
  unfold digitsS
  repeat' (refine ite_two ?_ ?_)
  all_goals rfl
theorem sizedS_pre (f : Fs) (W : List Ms) (c : UInt8) : sizedS (f.pre W) c = (sizedS f c).pre W := by
  unfold sizedS
  repeat' (refine ite_two ?_ ?_)
  all_goals rfl
theorem pieceS_pre (f : Fs) (W : List Ms) (c : UInt8) : pieceS (f.pre W) c = (pieceS f c).pre W := by
  unfold pieceS
  repeat' (refine ite_two ?_ ?_)
  all_goals rfl
theorem tailS_pre (f : Fs) (W : List Ms) (c : UInt8) : tailS (f.pre W) c = (tailS f c).pre W := by
  unfold tailS
  repeat' (refine ite_two ?_ ?_)
  all_goals rfl
theorem bodyS_pre (f : Fs) (W : List Ms) : bodyS (f.pre W) = (bodyS f).pre W := by
  unfold bodyS
  repeat' (refine ite_two ?_ ?_)
  all_goals first | rfl | exact ok_pre _ _ W rfl
theorem lineS_pre (f : Fs) (W : List Ms) (c : UInt8) : lineS (f.pre W) c = (lineS f c).pre W := by
  unfold lineS
  repeat' (refine ite_two ?_ ?_)
  all_goals first | rfl | exact ok_pre _ _ W rfl | exact bodyS_pre f W
theorem bytesS_pre (f : Fs) (W : List Ms) (c : UInt8) : bytesS (f.pre W) c = (bytesS f c).pre W := by
  unfold bytesS
  repeat' (refine ite_two ?_ ?_)
  all_goals first | rfl | exact ok_pre _ _ W rfl
theorem lastS_pre (f : Fs) (W : List Ms) (c : UInt8) : lastS (f.pre W) c = (lastS f c).pre W := by
  unfold lastS
  repeat' (refine ite_two ?_ ?_)
  all_goals first | rfl | exact ok_pre _ _ W rfl
theorem step_pre (f : Fs) (W : List Ms) (c : UInt8) : stepS (f.pre W) c = (stepS f c).pre W := by
  unfold stepS
  show (match f.next with
  | 0 => methodS (f.pre W) c | 1 => targetS (f.pre W) c | 2 => versionS (f.pre W) c | 3 => statusS (f.pre W) c | 4 => reasonS (f.pre W) c | 5 => lineS (f.pre W) c | 6 => nameS (f.pre W) c | 7 => valueS (f.pre W) c
  | 8 => bytesS (f.pre W) c | 9 => digitsS (f.pre W) c | 10 => sizedS (f.pre W) c | 11 => pieceS (f.pre W) c | 12 => tailS (f.pre W) c | 13 => lastS (f.pre W) c | _ => .bad 0) = _
  generalize f.next = n
  split
  · exact methodS_pre f W c
  · exact targetS_pre f W c
  · exact versionS_pre f W c
  · exact statusS_pre f W c
  · exact reasonS_pre f W c
  · exact lineS_pre f W c
  · exact nameS_pre f W c
  · exact valueS_pre f W c
  · exact bytesS_pre f W c
  · exact digitsS_pre f W c
  · exact sizedS_pre f W c
  · exact pieceS_pre f W c
  · exact tailS_pre f W c
  · exact lastS_pre f W c
  · split <;> first | rfl | (rename_i h; exact absurd rfl (by assumption))
theorem one_pre (f : Fs) (W : List Ms) (c : UInt8) : oneS (f.pre W) c = (oneS f c).pre W := by
  unfold oneS
  show (if 8192 ≤ f.head then St.bad 2 else match stepS (({ f with head := if 0 ≤ f.head then f.head + 1 else f.head } : Fs).pre W) c with
    | .bad e => .bad e
    | .ok g => .ok { g with pos := g.pos + 1 }) = _
  rw [step_pre]
  refine ite_two rfl ?_
  cases stepS { f with head := if 0 ≤ f.head then f.head + 1 else f.head } c <;> rfl
def RunR : Type := Fs ⊕ (Int × Nat × List Ms)
def preR (r : Fs ⊕ (Int × Nat × List Ms)) (W : List Ms) : Fs ⊕ (Int × Nat × List Ms) := match r with
  | .inl f => .inl (f.pre W)
  | .inr (c, p, L) => .inr (c, p, W ++ L)
theorem runS_cons (f : Fs) (c : UInt8) (r : List UInt8) : runS f (c :: r) = match oneS f c with
  | .bad e => .inr (e, f.pos, f.whole)
  | .ok g => runS g r := rfl
theorem run_pre : ∀ (l : List UInt8) (f : Fs) (W : List Ms), runS (f.pre W) l = preR (runS f l) W
  | [], f, W => rfl
  | c :: r, f, W => by
    unfold runS
    rw [one_pre]
    cases h : oneS f c with
    | bad e => rfl
    | ok g => exact run_pre r g W
theorem run_app : ∀ (a b : List UInt8) (f : Fs), runS f (a ++ b) = match runS f a with | .inl g => runS g b | .inr e => .inr e
  | [], b, f => rfl
  | c :: r, b, f => by
    rw [List.cons_append, runS_cons, runS_cons]
    cases oneS f c with
    | bad e => rfl
    | ok g => exact run_app r b g
/-- One call of Feed: the messages that were whole before are gone. -/
def feedS (f : Fs) (l : List UInt8) : Fs ⊕ (Int × Nat × List Ms) := runS { f with whole := [] } l
/-- Bytes in two pieces. -/
theorem feed_two (f : Fs) (a b : List UInt8) : feedS f (a ++ b) = match feedS f a with
  | .inl g => preR (feedS g b) g.whole
  | .inr e => .inr e := by
  unfold feedS
  rw [run_app]
  cases h : runS { f with whole := [] } a with
  | inr e => rfl
  | inl g =>
    have : g = ({ g with whole := [] } : Fs).pre g.whole := by unfold Fs.pre; simp
    simp only
    conv => lhs; rw [this]
    exact run_pre b _ _
theorem run_FI : ∀ (l : List UInt8) (f g : Fs), FI f → runS f l = .inl g → FI g
  | [], f, g, h, e => by injection e with e; exact e ▸ h
  | c :: r, f, g, h, e => by
    unfold runS at e
    cases h1 : oneS f c with
    | bad x => rw [h1] at e; cases e
    | ok g2 =>
      rw [h1] at e
      refine run_FI r g2 g ?_ e
      unfold oneS at h1
      split at h1
      · cases h1
      · split at h1
        · cases h1
        · rename_i hh _ g3 hg3
          injection h1 with h1
          subst h1
          have := FI.step h (by omega) hg3
          exact ⟨this.shut, this.head, this.tok, this.heads, this.body, this.next, this.ver, this.sta, this.val, this.wide, this.size, this.dig, this.early, this.state, this.some_, this.none_⟩
end Go.Proofs.YtbehakabglegjaaGreatDoor
namespace Go.Proofs.YtbehakabglegjaaGreatDoor
set_option linter.unusedVariables false
set_option linter.unusedSimpArgs false
def HZ (F : Fs) : Prop := ∀ p ∈ F.m.heads, p.1.size ≤ 8192 ∧ p.2.size ≤ 8192
theorem HZ.end_ (f : Fs) : HZ f.end_ := fun p hp => by cases hp
theorem dropWhile_le {α : Type} (p : α → Bool) : ∀ l : List α, (l.dropWhile p).length ≤ l.length
  | [] => Nat.le_refl _
  | a :: r => by
    rw [List.dropWhile_cons]
    split
    · exact Nat.le_trans (dropWhile_le p r) (Nat.le_succ _)
    · exact Nat.le_refl _
theorem trimL_le (l : List UInt8) : (trimL l).length ≤ l.length := by
  unfold trimL Lib.trimS Lib.trimLeftS Lib.trimRightS
  refine Nat.le_trans (dropWhile_le _ _) ?_
  rw [List.length_reverse]
  refine Nat.le_trans (dropWhile_le _ _) ?_
  rw [List.length_reverse]
  exact Nat.le_refl _
theorem txt_size (l : List UInt8) : (txt l).size = l.length := rfl
theorem HZ.step {f g : Fs} {c : UInt8} (h : HZ f) (ht : f.tok.length ≤ 8192) (hn : f.next ≤ 13) (e : stepS f c = .ok g) : HZ g := by
  have hc : f.next = 0 ∨ f.next = 1 ∨ f.next = 2 ∨ f.next = 3 ∨ f.next = 4 ∨ f.next = 5 ∨ f.next = 6 ∨ f.next = 7 ∨ f.next = 8 ∨ f.next = 9 ∨ f.next = 10 ∨ f.next = 11 ∨ f.next = 12 ∨ f.next = 13 := by omega
  have hs : ∀ g2 : Fs, g2.m.heads = f.m.heads → HZ g2 := fun g2 e2 => by unfold HZ; rw [e2]; exact h
  rcases hc with hn | hn | hn | hn | hn | hn | hn | hn | hn | hn | hn | hn | hn | hn
  all_goals simp only [stepS, hn] at e
  · unfold methodS at e; repeat' split at e
    all_goals first | (cases e; done) | (injection e with e; subst e; exact hs _ rfl)
  · unfold targetS at e; repeat' split at e
    all_goals first | (cases e; done) | (injection e with e; subst e; exact hs _ rfl)
  · unfold versionS at e; repeat' split at e
    all_goals first | (cases e; done) | (injection e with e; subst e; exact hs _ rfl)
  · unfold statusS at e; repeat' split at e
    all_goals first | (cases e; done) | (injection e with e; subst e; exact hs _ rfl)
  · unfold reasonS at e; repeat' split at e
    all_goals first | (cases e; done) | (injection e with e; subst e; exact hs _ rfl)
  · unfold lineS bodyS at e; simp only at e; repeat' split at e
    all_goals first | (cases e; done) | (injection e with e; subst e; first | exact hs _ rfl | exact HZ.end_ _)
  · unfold nameS at e; repeat' split at e
    all_goals first | (cases e; done) | (injection e with e; subst e)
    all_goals first
      | exact hs _ rfl
      | skip
    intro p hp
    rcases List.mem_append.1 hp with hp | hp
    · exact h p hp
    · rw [List.mem_singleton.1 hp]
      exact ⟨by rw [txt_size]; exact ht, Nat.zero_le _⟩
  · unfold valueS at e; repeat' split at e
    all_goals first | (cases e; done) | (injection e with e; subst e)
    all_goals first
      | exact hs _ rfl
      | skip
    intro p hp
    have hp2 : p ∈ setLast f.m.heads (txt (trimL f.tok)) := hp
    unfold setLast at hp2
    cases hl : f.m.heads.getLast? with
    | none => rw [hl] at hp2; cases hp2
    | some q =>
      rw [hl] at hp2
      rcases List.mem_append.1 hp2 with hp2 | hp2
      · exact h p ((List.dropLast_sublist _).subset hp2)
      · rw [List.mem_singleton.1 hp2]
        exact ⟨(h q (List.mem_of_getLast? hl)).1, by rw [txt_size]; exact Nat.le_trans (trimL_le _) ht⟩
  · unfold bytesS at e; simp only at e; repeat' split at e
    all_goals first | (cases e; done) | (injection e with e; subst e; first | exact hs _ rfl | exact HZ.end_ _)
  · unfold digitsS at e; repeat' split at e
    all_goals first | (cases e; done) | (injection e with e; subst e; exact hs _ rfl)
  · unfold sizedS at e; repeat' split at e
    all_goals first | (cases e; done) | (injection e with e; subst e; exact hs _ rfl)
  · unfold pieceS at e; simp only at e; repeat' split at e
    all_goals first | (cases e; done) | (injection e with e; subst e; exact hs _ rfl)
  · unfold tailS at e; repeat' split at e
    all_goals first | (cases e; done) | (injection e with e; subst e; exact hs _ rfl)
  · unfold lastS at e; repeat' split at e
    all_goals first | (cases e; done) | (injection e with e; subst e; first | exact hs _ rfl | exact HZ.end_ _)
theorem puM_digits : ∀ (l : List UInt8) (acc u : Nat), Lib.parseUintM (2 ^ 64 - 1) acc l = .ok u → l.all isDigB = true
  | [], _, _, _ => rfl
  | c :: r, acc, u, h => by
    unfold Lib.parseUintM at h
    split at h
    · rename_i hc
      split at h
      · cases h
      · split at h
        · cases h
        · rw [List.all_cons, puM_digits r _ u h, Bool.and_true]
          unfold isDigB
          simp [hc.1, hc.2]
    · cases h
theorem puM_ok : ∀ (l : List UInt8) (acc : Nat), l.all isDigB = true → (acc + 1) * 10 ^ l.length ≤ 10000000000 → Lib.parseUintM (2 ^ 64 - 1) acc l = .ok (l.foldl (fun n c => 10 * n + (c.toNat - 48)) acc)
  | [], _, _, _ => rfl
  | c :: r, acc, h, hb => by
    rw [List.all_cons, Bool.and_eq_true] at h
    have hc : 48 ≤ c.toNat ∧ c.toNat ≤ 57 := by simpa [isDigB] using h.1
    have hp : 1 ≤ 10 ^ r.length := Nat.one_le_pow _ _ (by decide)
    rw [List.length_cons, Nat.pow_succ] at hb
    have h1 : (acc + 1) * 10 * 10 ^ r.length ≤ 10000000000 := by rw [Nat.mul_assoc, Nat.mul_comm 10]; exact hb
    have h2 : (acc + 1) * 10 ≤ 10000000000 := Nat.le_trans (Nat.le_mul_of_pos_right _ hp) h1
    have h3 : (acc * 10 + (c.toNat - 48) + 1) * 10 ^ r.length ≤ 10000000000 := Nat.le_trans (Nat.mul_le_mul_right _ (by omega)) h1
    unfold Lib.parseUintM
    rw [if_pos hc, if_neg (by omega), if_neg (by have : (2 : Nat) ^ 64 - 1 = 18446744073709551615 := rfl; omega), puM_ok r _ h.2 h3, List.foldl_cons, Nat.mul_comm acc 10]
theorem decV_lt : ∀ (l : List UInt8), l.all isDigB = true → decV l < 10 ^ l.length := fun l => by
  have key : ∀ (l : List UInt8) (acc : Nat), l.all isDigB = true → l.foldl (fun n c => 10 * n + (c.toNat - 48)) acc < (acc + 1) * 10 ^ l.length := by
    intro l
    induction l with
    | nil => intro acc _; simp
    | cons c r ih =>
      intro acc h
      rw [List.all_cons, Bool.and_eq_true] at h
      have hc : 48 ≤ c.toNat ∧ c.toNat ≤ 57 := by simpa [isDigB] using h.1
      have h1 := ih (10 * acc + (c.toNat - 48)) h.2
      rw [List.foldl_cons, List.length_cons, Nat.pow_succ]
      refine Nat.lt_of_lt_of_le h1 ?_
      rw [show (acc + 1) * (10 ^ r.length * 10) = ((acc + 1) * 10) * 10 ^ r.length by rw [Nat.mul_assoc, Nat.mul_comm 10]]
      exact Nat.mul_le_mul_right _ (by omega)
  intro h
  have := key l 0 h
  unfold decV
  simpa using this
/-- A length's text that holds: what the library reads. -/
theorem pu_some {l : List UInt8} {n : Nat} (h : decS l = some n) : Lib.parseUintB 64 l = .ok n ∧ l.length ≤ 10 ∧ n < 10000000000 := by
  unfold decS at h
  split at h
  · rename_i hc
    obtain ⟨h0, h1, h2⟩ := hc
    injection h with h
    have hpw : 10 ^ l.length ≤ 10 ^ 10 := Nat.pow_le_pow_right (by decide) h1
    have h10 : (10 : Nat) ^ 10 = 10000000000 := rfl
    refine ⟨?_, h1, by have := decV_lt l h2; omega⟩
    unfold Lib.parseUintB
    rw [if_neg h0, puM_ok l 0 h2 (by omega), ← h]
    rfl
  · cases h
theorem pu_none {l : List UInt8} {u : Nat} (h : decS l = none) (hp : Lib.parseUintB 64 l = .ok u) : 10 < l.length ∧ u ≤ 18446744073709551615 := by
  unfold Lib.parseUintB at hp
  split at hp
  · cases hp
  · rename_i h0
    have hd := puM_digits l 0 u hp
    refine ⟨?_, Lib.parseUintM_le _ l 0 u (Nat.zero_le _) hp⟩
    unfold decS at h
    split at h
    · cases h
    · rename_i hc
      exact Nat.lt_of_not_le fun h1 => hc ⟨h0, h1, hd⟩
end Go.Proofs.YtbehakabglegjaaGreatDoor
namespace Go.Proofs.YtbehakabglegjaaGreatDoor
set_option linter.unusedVariables false
set_option linter.unusedSimpArgs false
/-- What is amiss has a code, and at most one message ends at a byte. -/
def StK (f : Fs) : St → Prop
  | .bad k => k = 2 ∨ k = 3 ∨ k = 31 ∨ k = 32
  | .ok g => g.whole.length ≤ f.whole.length + 1 ∧ g.ans = f.ans ∧ g.pos = f.pos
theorem stk_ite {f : Fs} {p : Prop} [Decidable p] {a b : St} (h1 : StK f a) (h2 : StK f b) : StK f (if p then a else b) := by
  by_cases h : p
  · rw [if_pos h]; exact h1
  · rw [if_neg h]; exact h2
theorem stk_same {f g : Fs} (h : g.whole = f.whole) (h2 : g.ans = f.ans) (h3 : g.pos = f.pos) : StK f (.ok g) := ⟨by rw [h]; exact Nat.le_succ _, h2, h3⟩
theorem stk_end {f g : Fs} (h : g.whole = f.whole) (h2 : g.ans = f.ans) (h3 : g.pos = f.pos) : StK f (.ok g.end_) := ⟨by show (g.whole ++ [g.m]).length ≤ _; rw [List.length_append, h]; exact Nat.le_refl _, h2, h3⟩
theorem step_k {f : Fs} {c : UInt8} (hn : f.next ≤ 13) : StK f (stepS f c) := by
  have hc : f.next = 0 ∨ f.next = 1 ∨ f.next = 2 ∨ f.next = 3 ∨ f.next = 4 ∨ f.next = 5 ∨ f.next = 6 ∨ f.next = 7 ∨ f.next = 8 ∨ f.next = 9 ∨ f.next = 10 ∨ f.next = 11 ∨ f.next = 12 ∨ f.next = 13 := by omega
  rcases hc with hn | hn | hn | hn | hn | hn | hn | hn | hn | hn | hn | hn | hn | hn
  all_goals simp only [stepS, hn]
  · unfold methodS
    repeat' (refine stk_ite ?_ ?_)
    all_goals first | exact stk_same rfl rfl rfl | (simp [StK])
  · unfold targetS
    repeat' (refine stk_ite ?_ ?_)
    all_goals first | exact stk_same rfl rfl rfl | (simp [StK])
  · unfold versionS
    repeat' (refine stk_ite ?_ ?_)
    all_goals first | exact stk_same rfl rfl rfl | (simp [StK])
  · unfold statusS
    repeat' (refine stk_ite ?_ ?_)
    all_goals first | exact stk_same rfl rfl rfl | (simp [StK])
  · unfold reasonS
    repeat' (refine stk_ite ?_ ?_)
    all_goals first | exact stk_same rfl rfl rfl | (simp [StK])
  · unfold lineS bodyS
    repeat' (refine stk_ite ?_ ?_)
    all_goals first | exact stk_same rfl rfl rfl | exact stk_end rfl rfl rfl | (simp [StK])
  · unfold nameS
    repeat' (refine stk_ite ?_ ?_)
    all_goals first | exact stk_same rfl rfl rfl | (simp [StK])
  · unfold valueS
    repeat' (refine stk_ite ?_ ?_)
    all_goals first | exact stk_same rfl rfl rfl | (simp [StK])
  · unfold bytesS
    repeat' (refine stk_ite ?_ ?_)
    all_goals first | exact stk_same rfl rfl rfl | exact stk_end rfl rfl rfl | (simp [StK])
  · unfold digitsS
    repeat' (refine stk_ite ?_ ?_)
    all_goals first | exact stk_same rfl rfl rfl | (simp [StK])
  · unfold sizedS
    repeat' (refine stk_ite ?_ ?_)
    all_goals first | exact stk_same rfl rfl rfl | (simp [StK])
  · unfold pieceS
    repeat' (refine stk_ite ?_ ?_)
    all_goals first | exact stk_same rfl rfl rfl | (simp [StK])
  · unfold tailS
    repeat' (refine stk_ite ?_ ?_)
    all_goals first | exact stk_same rfl rfl rfl | (simp [StK])
  · unfold lastS
    repeat' (refine stk_ite ?_ ?_)
    all_goals first | exact stk_same rfl rfl rfl | exact stk_end rfl rfl rfl | (simp [StK])
theorem run_next {f g : Fs} {l : List UInt8} {i : Nat} {c : UInt8} (hc : l[i]? = some c) (h : runS f (l.take i) = .inl g) : (∀ g2, oneS g c = .ok g2 → runS f (l.take (i + 1)) = .inl g2) ∧ (∀ k, oneS g c = .bad k → runS f l = .inr (k, g.pos, g.whole)) := by
  have e : l.take (i + 1) = l.take i ++ [c] := by rw [List.take_add_one, hc]; rfl
  have e2 : l = l.take i ++ (c :: l.drop (i + 1)) := by
    have h1 := (List.getElem?_eq_some_iff.1 hc).1
    have h2 := (List.getElem?_eq_some_iff.1 hc).2
    rw [← h2, List.getElem_cons_drop, List.take_append_drop]
  refine ⟨fun g2 hg => ?_, fun k hk => ?_⟩
  · rw [e, run_app, h]
    show runS g [c] = _
    rw [runS_cons, hg]
    rfl
  · rw [e2, run_app, h]
    show runS g (c :: _) = _
    rw [runS_cons, hk]
/-- A feed's next state: what holds of it goes on holding. -/
theorem one_keep {f g : Fs} {c : UInt8} (hi : FI f) (hz : HZ f) (e : oneS f c = .ok g) : FI g ∧ HZ g ∧ g.whole.length ≤ f.whole.length + 1 ∧ g.ans = f.ans ∧ g.pos = f.pos + 1 := by
  have hr : runS f [c] = .inl g := by rw [runS_cons, e]; rfl
  refine ⟨run_FI [c] f g hi hr, ?_⟩
  unfold oneS at e
  split at e
  · cases e
  · split at e
    · cases e
    · rename_i hh _ g3 hg3
      injection e with e
      subst e
      have ht : f.tok.length ≤ 8192 := by
        have h1 := hi.tok
        have h2 := hi.head
        by_cases h0 : 0 ≤ f.head <;> omega
      have hk := step_k (f := { f with head := if 0 ≤ f.head then f.head + 1 else f.head }) (c := c) hi.next
      rw [hg3] at hk
      have hz2 : ∀ n, HZ { f with head := n } := fun n => hz
      have hz3 := HZ.step (hz2 (if 0 ≤ f.head then f.head + 1 else f.head)) ht hi.next hg3
      exact ⟨hz3, hk.1, hk.2.1, by show g3.pos + 1 = f.pos + 1; rw [hk.2.2]⟩
end Go.Proofs.YtbehakabglegjaaGreatDoor
namespace Go.Proofs.YtbehakabglegjaaGreatDoor
set_option linter.unusedVariables false
set_option linter.unusedSimpArgs false
/-- The feed, with other messages that are whole. -/
def Fs.wh (f : Fs) (M : List Ms) : Fs := { f with whole := M }
theorem run_wh (f : Fs) (M : List Ms) (l : List UInt8) : runS (f.wh M) l = preR (feedS f l) M := by
  have : f.wh M = ({ f with whole := [] } : Fs).pre M := by unfold Fs.wh Fs.pre; simp
  rw [this]
  exact run_pre l _ M
theorem piece_ok {f G G2 : Fs} {M : List Ms} {a p : List UInt8} (h : runS f a = .inl (G.wh M)) (h2 : feedS G p = .inl G2) : runS f (a ++ p) = .inl (G2.wh (M ++ G2.whole)) := by
  rw [run_app, h]
  show runS (G.wh M) p = _
  rw [run_wh, h2]
  rfl
theorem piece_bad {f G : Fs} {M W : List Ms} {a p r : List UInt8} {k : Int} {q : Nat} (h : runS f a = .inl (G.wh M)) (h2 : feedS G p = .inr (k, q, W)) : runS f (a ++ p ++ r) = .inr (k, q, M ++ W) := by
  rw [List.append_assoc, run_app, h]
  show runS (G.wh M) (p ++ r) = _
  rw [run_app, run_wh, h2]
  rfl
theorem run_count : ∀ (l : List UInt8) (f : Fs), FI f → HZ f → (∀ g, runS f l = .inl g → FI g ∧ HZ g ∧ g.whole.length ≤ f.whole.length + l.length ∧ g.ans = f.ans ∧ g.pos = f.pos + l.length) ∧
    (∀ k p W, runS f l = .inr (k, p, W) → (k = 2 ∨ k = 3 ∨ k = 31 ∨ k = 32) ∧ W.length ≤ f.whole.length + l.length ∧ p ≤ f.pos + l.length)
  | [], f, h1, h2 => ⟨fun g e => by injection e with e; subst e; exact ⟨h1, h2, Nat.le_refl _, rfl, rfl⟩, fun k p W e => by cases e⟩
  | c :: r, f, h1, h2 => by
    rw [runS_cons]
    cases h : oneS f c with
    | bad x =>
      refine ⟨fun g e => by (simp only at e; cases e), fun k p W e => ?_⟩
      simp only at e
      injection e with e
      injection e with e1 e2
      injection e2 with e2 e3
      subst e1 e2 e3
      refine ⟨?_, by omega, by omega⟩
      unfold oneS at h
      split at h
      · injection h with h; exact .inl h.symm
      · have hk := step_k (f := { f with head := if 0 ≤ f.head then f.head + 1 else f.head }) (c := c) h1.next
        split at h
        · rename_i e hh
          rw [hh] at hk
          injection h with h
          subst h
          exact hk
        · cases h
    | ok g2 =>
      obtain ⟨k1, k2, k3, k4, k5⟩ := one_keep h1 h2 h
      obtain ⟨i1, i2⟩ := run_count r g2 k1 k2
      refine ⟨fun g e => ?_, fun k p W e => ?_⟩
      · obtain ⟨j1, j2, j3, j4, j5⟩ := i1 g e
        refine ⟨j1, j2, ?_, j4.trans k4, ?_⟩
        · rw [List.length_cons]; omega
        · rw [List.length_cons]; omega
      · obtain ⟨j1, j2, j3⟩ := i2 k p W e
        refine ⟨j1, ?_, ?_⟩
        · rw [List.length_cons]; omega
        · rw [List.length_cons]; omega
theorem newS_whole (b : Bool) : (newS b).whole = [] := rfl
theorem newS_feed (b : Bool) (l : List UInt8) : feedS (newS b) l = runS (newS b) l := by
  unfold feedS
  have : ({ newS b with whole := [] } : Fs) = newS b := by cases b <;> rfl
  rw [this]
end Go.Proofs.YtbehakabglegjaaGreatDoor
namespace Go.Proofs.YtbehakabglegjaaGreatDoor
open Go.RowKit
set_option linter.unusedVariables false

/-! ### Boxes: blocks of the call's own, known whole -/
def IBox (w : World) (g : Nat) (t : TypeId) (arr : Array Value) : Prop := w.heap[g]? = some (.cells arr t (0, 0))
theorem IBox.cell {w : World} {g : Nat} {t : TypeId} {arr : Array Value} (h : IBox w g t arr) (j : Nat) : w.cell? ⟨g, j, none⟩ = arr[j]? := cell_of_row w g j arr t (0, 0) h
theorem IBox.frozen {w : World} {g : Nat} {t : TypeId} {arr : Array Value} (h : IBox w g t arr) (j : Nat) : w.frozen? ⟨g, j, none⟩ = false := frozen_of_row w g j arr t h
theorem IBox.lt {w : World} {g : Nat} {t : TypeId} {arr : Array Value} (h : IBox w g t arr) : g < w.heap.size := by
  rcases Nat.lt_or_ge g w.heap.size with hlt | hge
  · exact hlt
  · unfold IBox at h; rw [Array.getElem?_eq_none hge] at h; cases h
theorem IBox.new (w : World) (t : TypeId) (arr : Array Value) : IBox (w.alloc (.cells arr t)) w.heap.size t arr := by
  show (w.heap.push _)[w.heap.size]? = _
  simp
theorem IBox.alloc {w : World} {g : Nat} {t : TypeId} {arr : Array Value} (h : IBox w g t arr) (o : Obj) : IBox (w.alloc o) g t arr := (Below.heap_alloc w o g h.lt).trans h
theorem IBox.below {w w' : World} {g B : Nat} {t : TypeId} {arr : Array Value} (h : IBox w g t arr) (hb : Below B w w') (hg : g < B) : IBox w' g t arr := (hb.block g hg).trans h
theorem IBox.row {w : World} {g : Nat} {t : TypeId} {old : Array Value} (h : IBox w g t old) (arr : Array Value) : IBox (w.setRow g arr) g t arr := setRow_heap w g old arr t (0, 0) h
theorem IBox.row_other {w : World} {g k : Nat} {t : TypeId} {arr : Array Value} (h : IBox w g t arr) (cs : Array Value) (hk : g ≠ k) : IBox (w.setRow k cs) g t arr := (setRow_other w k g cs hk).trans h
theorem below_setRow {B : Nat} {a w : World} (h : Below B a w) {g : Nat} (hg : B ≤ g) (cs : Array Value) : Below B a (w.setRow g cs) :=
  h.trans ⟨rfl, rfl, rfl, by rw [size_setRow]; exact Nat.le_refl _, fun k hk => setRow_other w g k cs (by omega)⟩

theorem wpl_store_row {P : Program} {ops : Array Oper} {rest : List Oper} {o : Oper} {a : Act} {w : World} {Q : Exit → Act → World → Prop} (hgd : o.guard = none) (ty : TypeId) (x y : Operand) (ho : o.op = .store ty x y)
    (g : Nat) (cells : Array Value) (hx : a.eval x = .pointer (some ⟨g, 0, none⟩)) (hy : a.eval y = .agg cells)
    (t : TypeId) (old : Array Value) (hg : w.heap[g]? = some (.cells old t (0, 0))) (hi : (P.info? ty).map (·.size) = some cells.size)
    (hold : old.size = cells.size) (h1 : cells.all (·.oneCell') = true)
    (h : wpList P ops Q rest (a.put o.dst undef) (w.setRow g cells)) : wpList P ops Q (o :: rest) a w :=
  wpList_plain hgd fun _ hK => wp_store_row ty x y ho g cells hx hy t old hg hi hold h1 (hK _ _ h)

/-- Two results, the first a struct in a box of the call's own. -/
theorem results_box_tmp {P : Program} {fn : Func} {p q : Tmp} {ty : TypeId} (h : fn.results = #[.cell p ty, .tmp q]) (tmps : Array Value) (w : World) (g : Nat) (t : TypeId) (cs : Array Value) (d : TypeDesc)
    (hp : tmps.getD p undef = .pointer (some ⟨g, 0, none⟩)) (hg : IBox w g t cs)
    (hu : P.underlying ty = some d) (hd : (match d with | .struct _ | .array _ _ => true | _ => false) = true) (hi : (P.info? ty).map (·.size) = some cs.size) :
    (results fn tmps).run P w = .ok (.tuple #[.agg cs, tmps.getD q undef]) w := by
  have hp' : tmps[p]?.getD undef = .pointer (some ⟨g, 0, none⟩) := by simpa using hp
  simp [results, h, hp', asAddr, run_loadVar_row w g t ty cs (0, 0) d hg hu hd hi]
theorem results_box {P : Program} {fn : Func} {p : Tmp} {ty : TypeId} (h : fn.results = #[.cell p ty]) (tmps : Array Value) (w : World) (g : Nat) (t : TypeId) (cs : Array Value) (d : TypeDesc)
    (hp : tmps.getD p undef = .pointer (some ⟨g, 0, none⟩)) (hg : IBox w g t cs)
    (hu : P.underlying ty = some d) (hd : (match d with | .struct _ | .array _ _ => true | _ => false) = true) (hi : (P.info? ty).map (·.size) = some cs.size) :
    (results fn tmps).run P w = .ok (.agg cs) w := results_cell_row h tmps w g t cs (0, 0) d hp hg hu hd hi

/-! ### JSON values -/
/-- A value as its six cells say it. -/
structure VM where
  kind : Int
  b : Bool
  i : Int
  t : ByteArray
  LA : Option Addr
  Ln : Nat
  Lc : Nat
  FA : Option Addr
  Fn : Nat
  Fc : Nat
def VM.cells (v : VM) : Array Value := #[.int .i64 v.kind, .bool v.b, .int .i64 v.i, .string v.t, .slice v.LA v.Ln v.Lc, .slice v.FA v.Fn v.Fc]
def VM.zero : VM := ⟨0, false, 0, ⟨#[]⟩, none, 0, 0, none, 0, 0⟩

/-- A value with all that is within it, each with its own cells. -/
inductive JV where
  | mk (v : VM) (l : List JV) (ns : List ByteArray) (vs : List JV)
def JV.v : JV → VM | .mk v _ _ _ => v
def JV.l : JV → List JV | .mk _ l _ _ => l
def JV.ns : JV → List ByteArray | .mk _ _ n _ => n
def JV.vs : JV → List JV | .mk _ _ _ s => s
def JV.cells (j : JV) : Array Value := j.v.cells
def JV.zero : JV := .mk VM.zero [] [] []
instance : Inhabited JV := ⟨JV.zero⟩

/-- What fits an int64, and a length that may be. -/
def I64 (n : Int) : Prop := -9223372036854775808 ≤ n ∧ n ≤ 9223372036854775807
def reach : Nat := 140737488355328

/-- Names at the heads of cells, one behind the other. -/
def NamesAt (w : World) (A : Option Addr) (step : Nat) : Nat → List ByteArray → Prop
  | _, [] => True
  | k, n :: r => (∃ b off, A = some ⟨b, off, none⟩ ∧ w.cell? ⟨b, off + k * step, none⟩ = some (.string n)) ∧ n.size ≤ reach ∧ NamesAt w A step (k + 1) r

mutual
def IsJV (w : World) : JV → Prop
  | .mk v l ns vs => (I64 v.kind ∧ I64 v.i ∧ v.t.size ≤ reach ∧ v.Ln = l.length ∧ v.Fn = vs.length ∧ ns.length = vs.length ∧ v.Ln * 80 ≤ reach ∧ v.Fn * 96 ≤ reach ∧ NamesAt w v.FA 7 0 ns) ∧ IsRow w v.LA 6 0 0 l ∧ IsRow w v.FA 7 1 0 vs
def IsRow (w : World) (A : Option Addr) (step shift : Nat) : Nat → List JV → Prop
  | _, [] => True
  | k, x :: r => (∃ b off, A = some ⟨b, off, none⟩ ∧ w.rangeAt b (off + k * step + shift) x.cells.toList) ∧ IsJV w x ∧ IsRow w A step shift (k + 1) r
end

theorem NamesAt.get {w : World} {A : Option Addr} {step : Nat} : ∀ {l : List ByteArray} {k : Nat}, NamesAt w A step k l → ∀ {j : Nat} {n : ByteArray}, l[j]? = some n →
    (∃ b off, A = some ⟨b, off, none⟩ ∧ w.cell? ⟨b, off + (k + j) * step, none⟩ = some (.string n)) ∧ n.size ≤ reach
  | [], _, _, j, n, hj => by simp at hj
  | m :: r, k, h, 0, n, hj => by
    unfold NamesAt at h
    simp only [List.getElem?_cons_zero, Option.some.injEq] at hj
    subst hj
    exact ⟨h.1, h.2.1⟩
  | m :: r, k, h, j + 1, n, hj => by
    unfold NamesAt at h
    simp only [List.getElem?_cons_succ] at hj
    have := h.2.2.get hj
    rw [show k + 1 + j = k + (j + 1) from by omega] at this
    exact this
theorem IsRow.get {w : World} {A : Option Addr} {step shift : Nat} : ∀ {l : List JV} {k : Nat}, IsRow w A step shift k l → ∀ {j : Nat} {x : JV}, l[j]? = some x →
    (∃ b off, A = some ⟨b, off, none⟩ ∧ w.rangeAt b (off + (k + j) * step + shift) x.cells.toList) ∧ IsJV w x
  | [], _, _, j, n, hj => by simp at hj
  | m :: r, k, h, 0, n, hj => by
    unfold IsRow at h
    simp only [List.getElem?_cons_zero, Option.some.injEq] at hj
    subst hj
    exact ⟨h.1, h.2.1⟩
  | m :: r, k, h, j + 1, n, hj => by
    unfold IsRow at h
    simp only [List.getElem?_cons_succ] at hj
    have := h.2.2.get hj
    rw [show k + 1 + j = k + (j + 1) from by omega] at this
    exact this

/-- Cells that stand in w stand in w', a world that is as w was below w's own size. -/
theorem range_below {w w' : World} (hb : Below w.heap.size w w') {b o : Nat} {cs : List Value} (h : w.rangeAt b o cs) : w'.rangeAt b o cs := fun j v hv => by
  have hc := h j v hv
  rw [hb.cell (p := ⟨b, o + j, none⟩) (block_lt_of_cell hc)]
  exact hc
theorem cell_below {w w' : World} (hb : Below w.heap.size w w') {a : Addr} {v : Value} (h : w.cell? a = some v) : w'.cell? a = some v := by
  rw [hb.cell (p := a) (block_lt_of_cell h)]
  exact h

theorem jv_zero (w : World) : IsJV w JV.zero := by
  unfold JV.zero IsJV
  refine ⟨⟨?_, ?_, ?_, rfl, rfl, rfl, ?_, ?_, ?_⟩, ?_, ?_⟩
  · exact ⟨by decide, by decide⟩
  · exact ⟨by decide, by decide⟩
  · decide
  · decide
  · decide
  · exact True.intro
  · unfold IsRow; exact True.intro
  · unfold IsRow; exact True.intro

theorem NamesAt.below {w w' : World} (hb : Below w.heap.size w w') {A : Option Addr} {step : Nat} : ∀ {l : List ByteArray} {k : Nat}, NamesAt w A step k l → NamesAt w' A step k l
  | [], _, _ => by unfold NamesAt; exact True.intro
  | n :: r, k, h => by
    unfold NamesAt at h ⊢
    obtain ⟨⟨b, off, e, hc⟩, h2, h3⟩ := h
    exact ⟨⟨b, off, e, cell_below hb hc⟩, h2, h3.below hb⟩

/-- The seven cells of field k. -/
structure FieldCells (w : World) (bl o : Nat) (n : ByteArray) (x : VM) : Prop where
  c0 : w.cell? ⟨bl, o, none⟩ = some (.string n)
  c1 : w.cell? ⟨bl, o + 1, none⟩ = some (.int .i64 x.kind)
  c2 : w.cell? ⟨bl, o + 2, none⟩ = some (.bool x.b)
  c3 : w.cell? ⟨bl, o + 3, none⟩ = some (.int .i64 x.i)
  c4 : w.cell? ⟨bl, o + 4, none⟩ = some (.string x.t)
  c5 : w.cell? ⟨bl, o + 5, none⟩ = some (.slice x.LA x.Ln x.Lc)
  c6 : w.cell? ⟨bl, o + 6, none⟩ = some (.slice x.FA x.Fn x.Fc)
theorem FieldCells.below {w w' : World} (hb : Below w.heap.size w w') {bl o : Nat} {n : ByteArray} {x : VM} (h : FieldCells w bl o n x) : FieldCells w' bl o n x :=
  ⟨cell_below hb h.c0, cell_below hb h.c1, cell_below hb h.c2, cell_below hb h.c3, cell_below hb h.c4, cell_below hb h.c5, cell_below hb h.c6⟩
theorem field_cells {w : World} {FA : Option Addr} {ns : List ByteArray} {vs : List JV} (h1 : NamesAt w FA 7 0 ns) (h2 : IsRow w FA 7 1 0 vs) {k : Nat} {n : ByteArray} {x : JV} (hn : ns[k]? = some n) (hx : vs[k]? = some x) :
    ∃ bl off, FA = some ⟨bl, off, none⟩ ∧ FieldCells w bl (off + k * 7) n x.v := by
  obtain ⟨⟨b, off, e1, hc⟩, _⟩ := h1.get hn
  obtain ⟨⟨b', off', e2, hr⟩, _⟩ := h2.get hx
  rw [e1] at e2
  simp only [Option.some.injEq, Addr.mk.injEq] at e2
  obtain ⟨rfl, rfl, _⟩ := e2
  rw [Nat.zero_add] at hc hr
  exact ⟨b, off, e1, hc, hr 0 _ rfl, hr 1 _ rfl, hr 2 _ rfl, hr 3 _ rfl, hr 4 _ rfl, hr 5 _ rfl⟩

/-! ### A field of an object: what program and document say -/
def look : List ByteArray → List JV → ByteArray → Option JV
  | n :: ns, x :: vs, name => if (n.toList == name.toList) = true then some x else look ns vs name
  | _, _, _ => none
def fieldS (j : JV) (name : ByteArray) : Option JV := if (j.v.kind == 5) = true then look j.ns j.vs name else none
def fieldD (j : JV) (name : ByteArray) : JV := (fieldS j name).getD JV.zero
theorem look_mem : ∀ {ns : List ByteArray} {vs : List JV} {name : ByteArray} {x : JV}, look ns vs name = some x → ∃ i : Nat, vs[i]? = some x
  | [], _, _, _, h => by simp [look] at h
  | _ :: _, [], _, _, h => by simp [look] at h
  | n :: ns, y :: vs, name, x, h => by
    unfold look at h
    split at h
    · exact ⟨0, by simpa using h⟩
    · obtain ⟨i, hi⟩ := look_mem h
      exact ⟨i + 1, by simpa using hi⟩
theorem field_is {w : World} {j : JV} (h : IsJV w j) (name : ByteArray) : IsJV w (fieldD j name) := by
  unfold fieldD
  cases hf : fieldS j name with
  | none => exact jv_zero w
  | some x =>
    obtain ⟨v, l, ns, vs⟩ := j
    unfold fieldS at hf
    split at hf
    · obtain ⟨i, hi⟩ := look_mem hf
      unfold IsJV at h
      exact (h.2.2.get hi).2
    · cases hf
theorem look_drop {ns : List ByteArray} {vs : List JV} {name n : ByteArray} {x : JV} {k : Nat} (h1 : ns[k]? = some n) (h2 : vs[k]? = some x) :
    look (ns.drop k) (vs.drop k) name = if (n.toList == name.toList) = true then some x else look (ns.drop (k + 1)) (vs.drop (k + 1)) name := by
  obtain ⟨l1, e1⟩ := List.getElem?_eq_some_iff.1 h1
  obtain ⟨l2, e2⟩ := List.getElem?_eq_some_iff.1 h2
  rw [List.drop_eq_getElem_cons l1, List.drop_eq_getElem_cons l2, e1, e2]
  rfl
end Go.Proofs.YtbehakabglegjaaGreatDoor
