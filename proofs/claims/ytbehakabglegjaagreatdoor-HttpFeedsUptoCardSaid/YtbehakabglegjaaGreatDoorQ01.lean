/- Layer 9: the document's reader beside the feed's steps (plain): what each byte makes of the feed while a message is read. -/
import Derived.Test.YtbehakabglegjaaGreatDoorQ00
namespace Go.Proofs.YtbehakabglegjaaGreatDoor
set_option linter.unusedVariables false
set_option linter.unusedSimpArgs false
/-- A new feed that stands at byte a. -/
def newA (ans : Bool) (a : Nat) : Fs := { newS ans with pos := a }
/-- Behind the first k bytes the feed is F. -/
def Atk (b : List UInt8) (ans : Bool) (a k : Nat) (F : Fs) : Prop := k ≤ b.length ∧ runS (newA ans a) (b.take k) = .inl F
section
variable {b : List UInt8} {ans : Bool} {a k : Nat} {F G : Fs} {c : UInt8} {x : Int}
theorem Atk.start (b : List UInt8) (ans : Bool) (a : Nat) : Atk b ans a 0 (newA ans a) := ⟨Nat.zero_le _, by rw [List.take_zero]; rfl⟩
theorem Atk.step (h : Atk b ans a k F) (hc : b[k]? = some c) (e : oneS F c = .ok G) : Atk b ans a (k + 1) G := by
  refine ⟨(List.getElem?_eq_some_iff.1 hc).1, ?_⟩
  rw [List.take_add_one, hc, run_app, h.2]
  show runS F [c] = _
  rw [runS_cons, e]
  rfl
theorem Atk.amiss (h : Atk b ans a k F) (hc : b[k]? = some c) (e : oneS F c = .bad x) : runS (newA ans a) b = .inr (x, F.pos, F.whole) := by
  have hb : b = b.take k ++ c :: b.drop (k + 1) := by
    have h1 := (List.getElem?_eq_some_iff.1 hc).1
    have h2 := (List.getElem?_eq_some_iff.1 hc).2
    rw [← h2, List.getElem_cons_drop, List.take_append_drop]
  conv => lhs; rw [hb]
  rw [run_app, h.2]
  simp only
  rw [runS_cons, e]
theorem Atk.all (h : Atk b ans a b.length F) : runS (newA ans a) b = .inl F := by
  have := h.2
  rw [List.take_length] at this
  exact this
/-- While the head of the first message is read. -/
def hF (ans : Bool) (a k nx : Nat) (tok : List UInt8) (m : Ms) (ab : Int) : Fs := ⟨ans, false, a + k, (k : Int), nx, tok, m, [], 0, 0, ab⟩
def hS (ans : Bool) (a k nx : Nat) (tok : List UInt8) (m : Ms) (ab : Int) : Fs := ⟨ans, false, a + k, (k : Int) + 1, nx, tok, m, [], 0, 0, ab⟩
/-- While its body is read. -/
def bF (ans : Bool) (a k nx : Nat) (tok : List UInt8) (m : Ms) (left size ab : Int) : Fs := ⟨ans, false, a + k, -1, nx, tok, m, [], left, size, ab⟩
/-- Behind the first message. -/
def eF (ans : Bool) (a k : Nat) (m : Ms) : Fs := { newA ans (a + k) with whole := [m] }
theorem newA_hF : newA ans a = hF ans a 0 (if ans then 2 else 0) [] Ms.zero 0 := by cases ans <;> rfl
def nxt (s : St) : St := match s with | .bad e => .bad e | .ok g => .ok { g with pos := g.pos + 1 }
theorem nx_pos {p : Prop} [d : Decidable p] {x y z : St} (hp : p) (h : nxt x = z) : nxt (if p then x else y) = z := by rw [if_pos hp]; exact h
theorem nx_neg {p : Prop} [d : Decidable p] {x y z : St} (hp : ¬ p) (h : nxt y = z) : nxt (if p then x else y) = z := by rw [if_neg hp]; exact h
theorem it_neg {p : Prop} [d : Decidable p] {x y z : St} (hp : ¬ p) (h : y = z) : (if p then x else y) = z := by rw [if_neg hp]; exact h
variable {nx : Nat} {tok : List UInt8} {m : Ms} {ab left size : Int}
theorem stp_h (hk : k < 8192) : oneS (hF ans a k nx tok m ab) c = nxt (stepS (hS ans a k nx tok m ab) c) := by
  unfold oneS
  refine it_neg (show ¬ (8192 : Int) ≤ (k : Int) by omega) ?_
  have e : ({ hF ans a k nx tok m ab with head := if 0 ≤ (hF ans a k nx tok m ab).head then (hF ans a k nx tok m ab).head + 1 else (hF ans a k nx tok m ab).head } : Fs) = hS ans a k nx tok m ab := by
    have e2 : (if 0 ≤ (hF ans a k nx tok m ab).head then (hF ans a k nx tok m ab).head + 1 else (hF ans a k nx tok m ab).head) = (k : Int) + 1 := if_pos (show (0 : Int) ≤ (k : Int) by omega)
    rw [e2]
    rfl
  rw [e]
  rfl
theorem stp_b : oneS (bF ans a k nx tok m left size ab) c = nxt (stepS (bF ans a k nx tok m left size ab) c) := rfl
theorem meth_put (hk : k < 8192) (h1 : 65 ≤ c.toNat ∧ c.toNat ≤ 90) (h2 : tok.length < 16) : oneS (hF ans a k 0 tok m ab) c = .ok (hF ans a (k + 1) 0 (tok ++ [c]) m ab) := by
  rw [stp_h hk]; show nxt (methodS _ c) = _; unfold methodS; refine nx_pos ⟨h1, h2⟩ ?_; rfl
theorem meth_end (hk : k < 8192) (h1 : c.toNat = 32) (h2 : 0 < tok.length) : oneS (hF ans a k 0 tok m ab) c = .ok (hF ans a (k + 1) 1 [] { m with meth := txt tok } ab) := by
  rw [stp_h hk]; show nxt (methodS _ c) = _; unfold methodS; refine nx_neg (by omega) (nx_pos ⟨h1, h2⟩ ?_); rfl
theorem meth_bad (hk : k < 8192) (h1 : ¬ ((65 ≤ c.toNat ∧ c.toNat ≤ 90) ∧ tok.length < 16)) (h2 : ¬ (c.toNat = 32 ∧ 0 < tok.length)) : oneS (hF ans a k 0 tok m ab) c = .bad 3 := by
  rw [stp_h hk]; show nxt (methodS _ c) = _; unfold methodS; refine nx_neg h1 (nx_neg h2 ?_); rfl
theorem targ_put (hk : k < 8192) (h1 : 33 ≤ c.toNat ∧ c.toNat ≤ 126) (h2 : tok.length < 2048) : oneS (hF ans a k 1 tok m ab) c = .ok (hF ans a (k + 1) 1 (tok ++ [c]) m ab) := by
  rw [stp_h hk]; show nxt (targetS _ c) = _; unfold targetS; refine nx_neg (by omega) (nx_neg (by omega) (nx_neg (show ¬ tok.length = 2048 by omega) ?_)); rfl
theorem targ_end (hk : k < 8192) (h1 : c.toNat = 32) (h2 : 0 < tok.length) : oneS (hF ans a k 1 tok m ab) c = .ok (hF ans a (k + 1) 2 [] { m with targ := txt tok } ab) := by
  rw [stp_h hk]; show nxt (targetS _ c) = _; unfold targetS; refine nx_pos ⟨h1, h2⟩ ?_; rfl
theorem targ_long (hk : k < 8192) (h1 : 33 ≤ c.toNat ∧ c.toNat ≤ 126) (h2 : tok.length = 2048) : oneS (hF ans a k 1 tok m ab) c = .bad 2 := by
  rw [stp_h hk]; show nxt (targetS _ c) = _; unfold targetS; refine nx_neg (by omega) (nx_neg (by omega) (nx_pos h2 ?_)); rfl
theorem targ_bad (hk : k < 8192) (h1 : c.toNat < 33 ∨ 126 < c.toNat) (h2 : ¬ (c.toNat = 32 ∧ 0 < tok.length)) : oneS (hF ans a k 1 tok m ab) c = .bad 3 := by
  rw [stp_h hk]; show nxt (targetS _ c) = _; unfold targetS; refine nx_neg h2 (nx_pos h1 ?_); rfl
theorem ver_put (hk : k < 8192) (h1 : (wantL ans)[tok.length]? = some c) (h2 : tok.length + 1 < 9) : oneS (hF ans a k 2 tok m ab) c = .ok (hF ans a (k + 1) 2 (tok ++ [c]) m ab) := by
  rw [stp_h hk]; show nxt (versionS _ c) = _; unfold versionS; refine nx_neg (show ¬ (wantL ans)[tok.length]? ≠ some c by rw [h1]; simp) (nx_pos h2 ?_); rfl
theorem ver_end (hk : k < 8192) (h1 : (wantL ans)[tok.length]? = some c) (h2 : ¬ tok.length + 1 < 9) : oneS (hF ans a k 2 tok m ab) c = .ok (hF ans a (k + 1) (if ans then 3 else 5) [] m ab) := by
  rw [stp_h hk]; show nxt (versionS _ c) = _; unfold versionS; refine nx_neg (show ¬ (wantL ans)[tok.length]? ≠ some c by rw [h1]; simp) (nx_neg h2 ?_); rfl
theorem ver_bad (hk : k < 8192) (h1 : (wantL ans)[tok.length]? ≠ some c) : oneS (hF ans a k 2 tok m ab) c = .bad 31 := by
  rw [stp_h hk]; show nxt (versionS _ c) = _; unfold versionS; refine nx_pos h1 ?_; rfl
theorem stat_put (hk : k < 8192) (h1 : isDigB c = true) (h2 : tok.length < 3) (h3 : ¬ (tok.length = 0 ∧ (c.toNat = 48 ∨ 53 < c.toNat))) : oneS (hF ans a k 3 tok m ab) c = .ok (hF ans a (k + 1) 3 (tok ++ [c]) m ab) := by
  rw [stp_h hk]; show nxt (statusS _ c) = _; unfold statusS
  refine nx_neg (show ¬ (tok.length = 3 ∧ c.toNat = 32) by omega) (nx_neg (show ¬ (tok.length = 3 ∨ isDigB c = false ∨ (tok.length = 0 ∧ (c.toNat = 48 ∨ 53 < c.toNat))) from fun hx => hx.elim (fun h => by omega) (fun hx => hx.elim (fun h => by rw [h1] at h; cases h) h3)) ?_); rfl
theorem stat_end (hk : k < 8192) (h1 : c.toNat = 32) (h2 : tok.length = 3) : oneS (hF ans a k 3 tok m ab) c = .ok (hF ans a (k + 1) 4 [] { m with stat := (decV tok : Int) } ab) := by
  rw [stp_h hk]; show nxt (statusS _ c) = _; unfold statusS; refine nx_pos (show tok.length = 3 ∧ c.toNat = 32 from ⟨h2, h1⟩) ?_; rfl
theorem stat_bad (hk : k < 8192) (h1 : ¬ (tok.length = 3 ∧ c.toNat = 32)) (h2 : tok.length = 3 ∨ isDigB c = false ∨ (tok.length = 0 ∧ (c.toNat = 48 ∨ 53 < c.toNat))) : oneS (hF ans a k 3 tok m ab) c = .bad 3 := by
  rw [stp_h hk]; show nxt (statusS _ c) = _; unfold statusS
  refine nx_neg (show ¬ (tok.length = 3 ∧ c.toNat = 32) from h1) (nx_pos (show (tok.length = 3 ∨ isDigB c = false ∨ (tok.length = 0 ∧ (c.toNat = 48 ∨ 53 < c.toNat))) from h2) ?_); rfl
theorem reas_put (hk : k < 8192) (h1 : 32 ≤ c.toNat ∧ c.toNat ≤ 126) : oneS (hF ans a k 4 tok m ab) c = .ok (hF ans a (k + 1) 4 (tok ++ [c]) m ab) := by
  rw [stp_h hk]; show nxt (reasonS _ c) = _; unfold reasonS; refine nx_neg (by omega) (nx_neg (by omega) ?_); rfl
theorem reas_end (hk : k < 8192) (h1 : c.toNat = 13) : oneS (hF ans a k 4 tok m ab) c = .ok (hF ans a (k + 1) 5 [] { m with reas := txt tok } ab) := by
  rw [stp_h hk]; show nxt (reasonS _ c) = _; unfold reasonS; refine nx_pos h1 ?_; rfl
theorem reas_bad (hk : k < 8192) (h1 : c.toNat < 32 ∨ 126 < c.toNat) (h2 : c.toNat ≠ 13) : oneS (hF ans a k 4 tok m ab) c = .bad 3 := by
  rw [stp_h hk]; show nxt (reasonS _ c) = _; unfold reasonS; refine nx_neg h2 (nx_pos h1 ?_); rfl
theorem line_put (hk : k < 8192) (h1 : c.toNat = 10) (h2 : ab ≠ 2) : oneS (hF ans a k 5 tok m ab) c = .ok (hF ans a (k + 1) 6 tok m 1) := by
  rw [stp_h hk]; show nxt (lineS _ c) = _; unfold lineS; refine nx_neg (by omega) (nx_pos (show ab ≠ 2 from h2) ?_); rfl
theorem line_bad (hk : k < 8192) (h1 : c.toNat ≠ 10) : oneS (hF ans a k 5 tok m ab) c = .bad 3 := by
  rw [stp_h hk]; show nxt (lineS _ c) = _; unfold lineS; refine nx_pos h1 ?_; rfl
theorem name_cr (hk : k < 8192) (h1 : c.toNat = 13) : oneS (hF ans a k 6 [] m ab) c = .ok (hF ans a (k + 1) 5 [] m 2) := by
  rw [stp_h hk]; show nxt (nameS _ c) = _; unfold nameS; refine nx_pos (show c.toNat = 13 ∧ ([] : List UInt8).length = 0 from ⟨h1, rfl⟩) ?_; rfl
theorem name_full (hk : k < 8192) (h1 : c.toNat ≠ 13) (h2 : m.heads.length = 64) : oneS (hF ans a k 6 [] m ab) c = .bad 2 := by
  rw [stp_h hk]; show nxt (nameS _ c) = _; unfold nameS; refine nx_neg (by omega) (nx_pos (show ([] : List UInt8).length = 0 ∧ m.heads.length = 64 from ⟨rfl, h2⟩) ?_); rfl
theorem name_put (hk : k < 8192) (h1 : isNameB c = true) (h2 : c.toNat ≠ 13) (h4 : c.toNat ≠ 58) (h3 : m.heads.length < 64) : oneS (hF ans a k 6 tok m ab) c = .ok (hF ans a (k + 1) 6 (tok ++ [c]) m ab) := by
  rw [stp_h hk]; show nxt (nameS _ c) = _; unfold nameS
  refine nx_neg (by omega) (nx_neg (show ¬ (tok.length = 0 ∧ m.heads.length = 64) by omega) (nx_neg (by omega) (nx_neg (by rw [h1]; simp) ?_))); rfl
theorem name_end (hk : k < 8192) (h1 : c.toNat = 58) (h2 : 0 < tok.length) (h3 : m.heads.length < 64) : oneS (hF ans a k 6 tok m ab) c = .ok (hF ans a (k + 1) 7 [] { m with heads := m.heads ++ [(txt tok, ⟨#[]⟩)] } ab) := by
  rw [stp_h hk]; show nxt (nameS _ c) = _; unfold nameS
  refine nx_neg (by omega) (nx_neg (show ¬ (tok.length = 0 ∧ m.heads.length = 64) by omega) (nx_pos (show c.toNat = 58 ∧ 0 < tok.length from ⟨h1, h2⟩) ?_)); rfl
theorem name_bad (hk : k < 8192) (h1 : isNameB c = false) (h2 : ¬ (c.toNat = 13 ∧ tok.length = 0)) (h4 : ¬ (c.toNat = 58 ∧ 0 < tok.length)) (h3 : m.heads.length < 64) : oneS (hF ans a k 6 tok m ab) c = .bad 3 := by
  rw [stp_h hk]; show nxt (nameS _ c) = _; unfold nameS
  refine nx_neg (show ¬ (c.toNat = 13 ∧ tok.length = 0) from h2) (nx_neg (show ¬ (tok.length = 0 ∧ m.heads.length = 64) by omega) (nx_neg (show ¬ (c.toNat = 58 ∧ 0 < tok.length) from h4) (nx_pos h1 ?_))); rfl
theorem val_put (hk : k < 8192) (h1 : isValueB c = true) (h2 : c.toNat ≠ 13) : oneS (hF ans a k 7 tok m ab) c = .ok (hF ans a (k + 1) 7 (tok ++ [c]) m ab) := by
  rw [stp_h hk]; show nxt (valueS _ c) = _; unfold valueS; refine nx_neg h2 (nx_neg (by rw [h1]; simp) ?_); rfl
theorem val_bad (hk : k < 8192) (h1 : isValueB c = false) (h2 : c.toNat ≠ 13) : oneS (hF ans a k 7 tok m ab) c = .bad 3 := by
  rw [stp_h hk]; show nxt (valueS _ c) = _; unfold valueS; refine nx_neg h2 (nx_pos h1 ?_); rfl
theorem setLast_snoc (l : List (ByteArray × ByteArray)) (p : ByteArray × ByteArray) (v : ByteArray) : setLast (l ++ [p]) v = l ++ [(p.1, v)] := by
  unfold setLast
  rw [List.getLast?_append]
  simp
theorem val_end (hk : k < 8192) (h1 : c.toNat = 13) {l : List (ByteArray × ByteArray)} {nm : ByteArray} : oneS (hF ans a k 7 tok { m with heads := l ++ [(nm, ⟨#[]⟩)] } ab) c = .ok (hF ans a (k + 1) 5 [] { m with heads := l ++ [(nm, txt (trimL tok))] } ab) := by
  rw [stp_h hk]; show nxt (valueS _ c) = _; unfold valueS; rw [if_pos h1]
  show St.ok _ = St.ok _
  simp only [hS, setLast_snoc]
  rfl
/-- The head's last byte. -/
theorem line_body (hk : k < 8192) (h1 : c.toNat = 10) : oneS (hF ans a k 5 [] m 2) c =
    if 1 < (headsS m.heads 0).many ∨ (headsS m.heads 0).bad = true then .bad 32
    else if (headsS m.heads 0).pieces then .ok (bF ans a (k + 1) 9 [] m (headsS m.heads 0).left 0 2)
    else if 65536 < (headsS m.heads 0).left then .bad 2
    else if (headsS m.heads 0).left = 0 then .ok (eF ans a (k + 1) m)
    else .ok (bF ans a (k + 1) 8 [] m (headsS m.heads 0).left 0 2) := by
  rw [stp_h hk]; show nxt (lineS _ c) = _; unfold lineS; refine nx_neg (by omega) (nx_neg (show ¬ (2 : Int) ≠ 2 by omega) ?_)
  unfold bodyS
  show nxt (if 1 < (headsS m.heads 0).many ∨ (headsS m.heads 0).bad = true then St.bad 32 else _) = _
  split
  · rfl
  · show nxt (if (headsS m.heads 0).pieces = true then _ else _) = _
    split
    · rfl
    · show nxt (if 65536 < (headsS m.heads 0).left then _ else _) = _
      split
      · rfl
      · show nxt (if (headsS m.heads 0).left = 0 then _ else _) = _
        split
        · cases ans <;> rfl
        · rfl
theorem bytes_one2 (h : left ≠ 1) : oneS (bF ans a k 8 tok m left size ab) c = .ok (bF ans a (k + 1) 8 tok { m with body := m.body ++ [c] } (left - 1) size ab) := by
  rw [stp_b]
  change nxt (if left - 1 = 0 then _ else _) = _
  refine nx_neg (show ¬ left - 1 = 0 by omega) ?_; rfl
theorem bytes_last : oneS (bF ans a k 8 tok m 1 size ab) c = .ok (eF ans a (k + 1) { m with body := m.body ++ [c] }) := by
  rw [stp_b]
  show nxt (bytesS (bF ans a k 8 tok m 1 size ab) c) = _
  unfold bytesS
  refine nx_pos (show (1 : Int) - 1 = 0 by omega) ?_; (cases ans <;> rfl)
theorem dig_put (h1 : 0 ≤ hexB c) (h2 : tok.length ≠ 8) : oneS (bF ans a k 9 tok m left size ab) c = .ok (bF ans a (k + 1) 9 (tok ++ [c]) m left (size * 16 + hexB c) ab) := by
  rw [stp_b]; show nxt (digitsS _ c) = _; unfold digitsS
  have h13 : ¬ (c.toNat = 13 ∧ 0 < tok.length) := fun h => by
    have : hexB c = -1 := by unfold hexB; rw [if_neg (by omega), if_neg (by omega), if_neg (by omega)]
    omega
  exact nx_neg h13 (nx_neg (show ¬ (hexB c < 0 ∨ tok.length = 8) by omega) rfl)
theorem dig_end (h1 : c.toNat = 13) (h2 : 0 < tok.length) : oneS (bF ans a k 9 tok m left size ab) c = .ok (bF ans a (k + 1) 10 [] m left size ab) := by
  rw [stp_b]; show nxt (digitsS _ c) = _; unfold digitsS
  refine nx_pos (show c.toNat = 13 ∧ 0 < tok.length from ⟨h1, h2⟩) ?_; rfl
theorem dig_bad (h1 : ¬ (c.toNat = 13 ∧ 0 < tok.length)) (h2 : hexB c < 0 ∨ tok.length = 8) : oneS (bF ans a k 9 tok m left size ab) c = .bad 32 := by
  rw [stp_b]; show nxt (digitsS _ c) = _; unfold digitsS
  refine nx_neg (show ¬ (c.toNat = 13 ∧ 0 < tok.length) from h1) (nx_pos (show (hexB c < 0 ∨ tok.length = 8) from h2) ?_); rfl
theorem sized_bad (h1 : c.toNat ≠ 10) : oneS (bF ans a k 10 tok m left size ab) c = .bad 32 := by
  rw [stp_b]; show nxt (sizedS _ c) = _; unfold sizedS
  refine nx_pos h1 ?_; rfl
theorem sized_long (h1 : c.toNat = 10) (h2 : 65536 < m.body.length + size) : oneS (bF ans a k 10 tok m left size ab) c = .bad 2 := by
  rw [stp_b]; show nxt (sizedS _ c) = _; unfold sizedS
  refine nx_neg (by omega) (nx_pos (show (65536 : Int) < m.body.length + size from h2) ?_); rfl
theorem sized_zero (h1 : c.toNat = 10) (h2 : ¬ 65536 < (m.body.length : Int) + 0) : oneS (bF ans a k 10 tok m left 0 ab) c = .ok (bF ans a (k + 1) 12 tok m left 0 ab) := by
  rw [stp_b]; show nxt (sizedS _ c) = _; unfold sizedS
  refine nx_neg (by omega) (nx_neg (show ¬ (65536 : Int) < m.body.length + 0 from h2) (nx_pos (show (0 : Int) = 0 from rfl) ?_)); rfl
theorem sized_put (h1 : c.toNat = 10) (h2 : ¬ 65536 < m.body.length + size) (h3 : size ≠ 0) : oneS (bF ans a k 10 tok m left size ab) c = .ok (bF ans a (k + 1) 11 tok m size size ab) := by
  rw [stp_b]; show nxt (sizedS _ c) = _; unfold sizedS
  refine nx_neg (by omega) (nx_neg (show ¬ (65536 : Int) < m.body.length + size from h2) (nx_neg (show ¬ size = 0 from h3) ?_)); rfl
theorem piece_put (h : left ≠ 1) : oneS (bF ans a k 11 tok m left size ab) c = .ok (bF ans a (k + 1) 11 tok { m with body := m.body ++ [c] } (left - 1) size ab) := by
  rw [stp_b]; show nxt (pieceS _ c) = _; unfold pieceS
  refine nx_neg (show ¬ left - 1 = 0 by omega) ?_; rfl
theorem piece_last : oneS (bF ans a k 11 tok m 1 size ab) c = .ok (bF ans a (k + 1) 12 tok { m with body := m.body ++ [c] } 0 size ab) := by
  rw [stp_b]
  show nxt (pieceS (bF ans a k 11 tok m 1 size ab) c) = _
  unfold pieceS
  refine nx_pos (show (1 : Int) - 1 = 0 by omega) ?_; rfl
theorem tail_put (h1 : c.toNat = 13) : oneS (bF ans a k 12 tok m left size ab) c = .ok (bF ans a (k + 1) 13 tok m left size ab) := by
  rw [stp_b]; show nxt (tailS _ c) = _; unfold tailS
  refine nx_neg (by omega) ?_; rfl
theorem tail_bad (h1 : c.toNat ≠ 13) : oneS (bF ans a k 12 tok m left size ab) c = .bad 32 := by
  rw [stp_b]; show nxt (tailS _ c) = _; unfold tailS
  refine nx_pos h1 ?_; rfl
theorem last_bad (h1 : c.toNat ≠ 10) : oneS (bF ans a k 13 tok m left size ab) c = .bad 32 := by
  rw [stp_b]; show nxt (lastS _ c) = _; unfold lastS
  refine nx_pos h1 ?_; rfl
theorem last_end (h1 : c.toNat = 10) : oneS (bF ans a k 13 tok m left 0 ab) c = .ok (eF ans a (k + 1) m) := by
  rw [stp_b]; show nxt (lastS _ c) = _; unfold lastS
  refine nx_neg (by omega) (nx_pos (show (0 : Int) = 0 from rfl) ?_); (cases ans <;> rfl)
theorem last_more (h1 : c.toNat = 10) (h2 : size ≠ 0) : oneS (bF ans a k 13 tok m left size ab) c = .ok (bF ans a (k + 1) 9 tok m left 0 ab) := by
  rw [stp_b]; show nxt (lastS _ c) = _; unfold lastS
  refine nx_neg (by omega) (nx_neg (show ¬ size = 0 from h2) ?_); rfl
/-- The reader has stopped: at a byte that is amiss, or where the bytes end. -/
inductive Stp (b : List UInt8) (ans : Bool) (a : Nat) : Nat → Int → Bool → Prop
  | bad {k : Nat} {x : Int} {F : Fs} {c : UInt8} (h : Atk b ans a k F) (hw : F.whole = []) (hp : F.pos = a + k) (hc : b[k]? = some c) (e : oneS F c = .bad x) (hx : x = 2 ∨ x = 3 ∨ x = 31 ∨ x = 32) : Stp b ans a k x false
  | more {k : Nat} {F : Fs} (h : Atk b ans a b.length F) (hw : F.whole = []) (hk : k ≤ b.length) : Stp b ans a k 0 true
theorem Stp.run_bad (h : Stp b ans a k x false) : runS (newA ans a) b = .inr (x, a + k, []) := by
  cases h with
  | bad h hw hp hc e hx => rw [h.amiss hc e, hw, hp]
theorem Stp.run_more (h : Stp b ans a k x true) : ∃ F, runS (newA ans a) b = .inl F ∧ F.whole = [] := by
  cases h with
  | more h hw hk => exact ⟨_, h.all, hw⟩
theorem Stp.on {mo : Bool} (h : Stp b ans a k x mo) : (x ≠ 0 ∧ mo = false) ∨ (x = 0 ∧ mo = true) := by
  cases h with
  | bad h hw hp hc e hx => exact .inl ⟨by omega, rfl⟩
  | more h hw hk => exact .inr ⟨rfl, rfl⟩
theorem Stp.le {mo : Bool} (h : Stp b ans a k x mo) : k ≤ b.length := by
  cases h with
  | bad h hw hp hc e hx => exact h.1
  | more h hw hk => exact hk
/-- A stretch of the body. -/
theorem Atk.bytes : ∀ (n k : Nat) (m : Ms), Atk b ans a k (bF ans a k 8 [] m ((n : Int) + 1) size ab) →
    (k + (n + 1) ≤ b.length → Atk b ans a (k + (n + 1)) (eF ans a (k + (n + 1)) { m with body := m.body ++ (b.drop k).take (n + 1) })) ∧ (b.length < k + (n + 1) → ∃ F, Atk b ans a b.length F ∧ F.whole = []) := by
  intro n
  induction n with
  | zero =>
    intro k m h
    refine ⟨fun hk => ?_, fun hk => ?_⟩
    · obtain ⟨c, hc⟩ : ∃ c, b[k]? = some c := ⟨_, List.getElem?_eq_getElem (show k < b.length by omega)⟩
      have e : (b.drop k).take (0 + 1) = [c] := by rw [List.take_add_one, List.take_zero, List.getElem?_drop, Nat.add_zero, hc]; rfl
      rw [e]
      exact h.step hc (by have h2 := bytes_last (ans := ans) (a := a) (k := k) (tok := []) (m := m) (size := size) (ab := ab) (c := c); exact h2)
    · obtain rfl : k = b.length := by have := h.1; omega
      exact ⟨_, h, rfl⟩
  | succ n ih =>
    intro k m h
    by_cases hlt : k < b.length
    · obtain ⟨c, hc⟩ : ∃ c, b[k]? = some c := ⟨_, List.getElem?_eq_getElem hlt⟩
      have h2 := h.step hc (bytes_one2 (by omega))
      rw [show ((n + 1 : Nat) : Int) + 1 - 1 = (n : Int) + 1 by omega] at h2
      obtain ⟨i1, i2⟩ := ih (k + 1) _ h2
      have e : (b.drop k).take (n + 1 + 1) = c :: (b.drop (k + 1)).take (n + 1) := by
        have h3 : b.drop k = c :: b.drop (k + 1) := by
          have h1 := (List.getElem?_eq_some_iff.1 hc).1
          have h2 := (List.getElem?_eq_some_iff.1 hc).2
          rw [← h2, List.getElem_cons_drop]
        rw [h3, List.take_succ_cons]
      refine ⟨fun hk => ?_, fun hk => i2 (by omega)⟩
      have h3 := i1 (by omega)
      rw [show k + 1 + (n + 1) = k + (n + 1 + 1) by omega] at h3
      rw [e, ← List.append_cons] at *
      simpa using h3
    · obtain rfl : k = b.length := by have := h.1; omega
      exact ⟨fun hk => by omega, fun _ => ⟨_, h, rfl⟩⟩
/-- A piece's bytes. -/
theorem Atk.piece : ∀ (n k : Nat) (m : Ms), Atk b ans a k (bF ans a k 11 [] m ((n : Int) + 1) size ab) →
    (k + (n + 1) ≤ b.length → Atk b ans a (k + (n + 1)) (bF ans a (k + (n + 1)) 12 [] { m with body := m.body ++ (b.drop k).take (n + 1) } 0 size ab)) ∧ (b.length < k + (n + 1) → ∃ F, Atk b ans a b.length F ∧ F.whole = []) := by
  intro n
  induction n with
  | zero =>
    intro k m h
    refine ⟨fun hk => ?_, fun hk => ?_⟩
    · obtain ⟨c, hc⟩ : ∃ c, b[k]? = some c := ⟨_, List.getElem?_eq_getElem (show k < b.length by omega)⟩
      have e : (b.drop k).take (0 + 1) = [c] := by rw [List.take_add_one, List.take_zero, List.getElem?_drop, Nat.add_zero, hc]; rfl
      rw [e]
      exact h.step hc (by have h2 := piece_last (ans := ans) (a := a) (k := k) (tok := []) (m := m) (size := size) (ab := ab) (c := c); exact h2)
    · obtain rfl : k = b.length := by have := h.1; omega
      exact ⟨_, h, rfl⟩
  | succ n ih =>
    intro k m h
    by_cases hlt : k < b.length
    · obtain ⟨c, hc⟩ : ∃ c, b[k]? = some c := ⟨_, List.getElem?_eq_getElem hlt⟩
      have h2 := h.step hc (piece_put (by omega))
      rw [show ((n + 1 : Nat) : Int) + 1 - 1 = (n : Int) + 1 by omega] at h2
      obtain ⟨i1, i2⟩ := ih (k + 1) _ h2
      have e : (b.drop k).take (n + 1 + 1) = c :: (b.drop (k + 1)).take (n + 1) := by
        have h3 : b.drop k = c :: b.drop (k + 1) := by
          have h1 := (List.getElem?_eq_some_iff.1 hc).1
          have h2 := (List.getElem?_eq_some_iff.1 hc).2
          rw [← h2, List.getElem_cons_drop]
        rw [h3, List.take_succ_cons]
      refine ⟨fun hk => ?_, fun hk => i2 (by omega)⟩
      have h3 := i1 (by omega)
      rw [show k + 1 + (n + 1) = k + (n + 1 + 1) by omega] at h3
      rw [e]
      simpa using h3
    · obtain rfl : k = b.length := by have := h.1; omega
      exact ⟨fun hk => by omega, fun _ => ⟨_, h, rfl⟩⟩
/-- What the document says of a body's length: -1 in pieces, -2 amiss. -/
def lenS (h : Hs) : Int := if 1 < h.many ∨ h.bad = true then -2 else if h.pieces then -1 else h.left
/-- Has the feed been opened? -/
theorem step_open {f g : Fs} (hf : f.head ≠ 0) (e : stepS f c = .ok g) : g.head ≠ 0 ∨ g.whole ≠ [] := by
  have he : ∀ f2 : Fs, f2.end_.whole ≠ [] := fun f2 => by unfold Fs.end_ Fs.begin; simp
  unfold stepS at e
  split at e
  · unfold methodS at e; repeat' split at e
    all_goals first | (cases e; done) | (injection e with e; subst e; exact .inl hf)
  · unfold targetS at e; repeat' split at e
    all_goals first | (cases e; done) | (injection e with e; subst e; exact .inl hf)
  · unfold versionS at e; repeat' split at e
    all_goals first | (cases e; done) | (injection e with e; subst e; exact .inl hf)
  · unfold statusS at e; repeat' split at e
    all_goals first | (cases e; done) | (injection e with e; subst e; exact .inl hf)
  · unfold reasonS at e; repeat' split at e
    all_goals first | (cases e; done) | (injection e with e; subst e; exact .inl hf)
  · unfold lineS at e
    split at e
    · cases e
    · split at e
      · injection e with e; subst e; exact .inl hf
      · unfold bodyS at e
        simp only at e
        repeat' split at e
        all_goals first | (cases e; done) | (injection e with e; subst e; first | exact .inr (he _) | (left; show (-1 : Int) ≠ 0; omega))
  · unfold nameS at e; repeat' split at e
    all_goals first | (cases e; done) | (injection e with e; subst e; exact .inl hf)
  · unfold valueS at e; repeat' split at e
    all_goals first | (cases e; done) | (injection e with e; subst e; exact .inl hf)
  · unfold bytesS at e; simp only at e; repeat' split at e
    all_goals first | (cases e; done) | (injection e with e; subst e; first | exact .inr (he _) | exact .inl hf)
  · unfold digitsS at e; repeat' split at e
    all_goals first | (cases e; done) | (injection e with e; subst e; exact .inl hf)
  · unfold sizedS at e; repeat' split at e
    all_goals first | (cases e; done) | (injection e with e; subst e; exact .inl hf)
  · unfold pieceS at e; simp only at e; repeat' split at e
    all_goals first | (cases e; done) | (injection e with e; subst e; exact .inl hf)
  · unfold tailS at e; repeat' split at e
    all_goals first | (cases e; done) | (injection e with e; subst e; exact .inl hf)
  · unfold lastS at e; repeat' split at e
    all_goals first | (cases e; done) | (injection e with e; subst e; first | exact .inr (he _) | exact .inl hf)
  · cases e
theorem stp_open {f g : Fs} (e : oneS f c = .ok g) : g.head ≠ 0 ∨ g.whole ≠ [] := by
  unfold oneS at e
  split at e
  · cases e
  · split at e
    · cases e
    · rename_i g2 hs
      injection e with e
      subst e
      have h9 := step_open (g := g2) (f := { f with head := if 0 ≤ f.head then f.head + 1 else f.head }) (by show (if 0 ≤ f.head then f.head + 1 else f.head) ≠ 0; split <;> omega) (c := c) hs
      exact h9
/-- The feed holds a message that is not whole just if there are bytes of it. -/
theorem run_open {o : List UInt8} (h : runS (newA ans a) o = .inl F) (hw : F.whole = []) : (F.head ≠ 0) ↔ o ≠ [] := by
  cases ho : o.reverse with
  | nil =>
    have : o = [] := by simpa using ho
    subst this
    injection h with h
    subst h
    constructor
    · intro h; exact absurd (show (newA ans a).head = 0 by cases ans <;> rfl) h
    · intro h; exact absurd rfl h
  | cons c r =>
    have e : o = r.reverse ++ [c] := by rw [← List.reverse_cons, ← ho, List.reverse_reverse]
    rw [e, run_app] at h
    cases h1 : runS (newA ans a) r.reverse with
    | inr x => rw [h1] at h; cases h
    | inl f =>
      rw [h1] at h
      simp only at h
      rw [runS_cons] at h
      cases h2 : oneS f c with
      | bad x => rw [h2] at h; cases h
      | ok g =>
        rw [h2] at h
        injection h with h
        subst h
        refine ⟨fun _ => by rw [e]; simp, fun _ => ?_⟩
        rcases stp_open h2 with h3 | h3
        · exact h3
        · exact absurd hw h3
/-- Behind the first message the feed is a new one. -/
theorem Atk.done (h : Atk b ans a k (eF ans a k m)) : runS (newA ans a) b = preR (runS (newA ans (a + k)) (b.drop k)) [m] := by
  conv => lhs; rw [← List.take_append_drop k b]
  rw [run_app, h.2]
  show runS (eF ans a k m) (b.drop k) = _
  rw [show eF ans a k m = (newA ans (a + k)).pre [m] by unfold eF Fs.pre; cases ans <;> rfl]
  exact run_pre _ _ _
end
end Go.Proofs.YtbehakabglegjaaGreatDoor
