/- Layer 3, plain: names in order; each name laid ahead of the first that is greater; bytes stand in order as characters do. Layer 3: an object's fields put in order (slices.SortFunc at fields), and t -/
import Derived.Lib.Bytealg
import Derived.Test.YtnjhmnolngdfaaaGreatDoorShelf
import Derived.Test.YtnjhmnolngdfaaaGreatDoorSortF
import Derived.PlainAid
import Derived.Laws.RangeAny
import Derived.Lib.OthersKept
import Derived.Deep.QuietTactic
import Derived.IntWalk
import Derived.Test.YtnjhmnolngdfaaaGreatDoorQ00
import Derived.Test.YtnjhmnolngdfaaaGreatDoorQ01
import Derived.Test.YtnjhmnolngdfaaaGreatDoorQ09
import Derived.Test.YtnjhmnolngdfaaaGreatDoorQ10
import Derived.Test.YtnjhmnolngdfaaaGreatDoorQ07
import Derived.Test.YtnjhmnolngdfaaaGreatDoorQ03
import Derived.Test.YtnjhmnolngdfaaaGreatDoorQZip
set_option linter.unusedVariables false
set_option linter.unusedSimpArgs false
set_option maxHeartbeats 16000000
set_option maxRecDepth 100000
namespace Go.Proofs.YtnjhmnolngdfaaaGreatDoor
section
open Lib (compareBytes)
theorem qDx (a b : UInt8) (s t : List UInt8) : compareBytes (a :: s) (b :: t) = if a.toNat < b.toNat then -1 else if b.toNat < a.toNat then 1 else compareBytes s t := by
  conv => lhs; unfold compareBytes
  simp only [UInt8.lt_iff_toNat_lt]
theorem qIH : ∀ a b : List UInt8, compareBytes b a = - compareBytes a b
  | [], [] => rfl
  | [], _ :: _ => rfl
  | _ :: _, [] => rfl
  | x :: a, y :: b => by
    rw [qDx, qDx, qIH a b]
    repeat' split
    all_goals first | rfl | omega
theorem qLQ : ∀ a : List UInt8, compareBytes a a = 0
  | [] => rfl
  | x :: a => by rw [qDx, if_neg (by omega), if_neg (by omega), qLQ a]
theorem qOw : ∀ a b : List UInt8, compareBytes a b = 0 → a = b
  | [], [], _ => rfl
  | [], _ :: _, h => by simp [compareBytes] at h
  | _ :: _, [], h => by simp [compareBytes] at h
  | x :: a, y :: b, h => by
    rw [qDx] at h
    split at h
    · omega
    · split at h
      · omega
      · have e : x = y := UInt8.toNat_inj.1 (by omega); rw [e, qOw a b h]
theorem qJK : ∀ a b c : List UInt8, compareBytes a b < 0 → compareBytes b c < 0 → compareBytes a c < 0
 | [], [], _, h, _ => by simp [compareBytes] at h
 | _ :: _, [], _, h, _ => by simp [compareBytes] at h
 | _, _ :: _, [], _, h => by simp [compareBytes] at h
 | [], _ :: _, _ :: _, _, _ => by simp [compareBytes]
 | x :: a, y :: b, z :: c, h, k => by
  rw [qDx] at h k ⊢
  split at h
  ·rw [if_pos]
   ·omega
   ·split at k
    ·omega
    ·split at k <;> omega
  ·split at h
   ·omega
   ·split at k
    ·rw [if_pos (by omega)]; omega
    ·split at k
     ·omega
     ·rw [if_neg (by omega), if_neg (by omega)]; exact qJK a b c h k
def qCz (a b : ByteArray) : Int := compareBytes a.data.toList b.data.toList
theorem qEL (a b : ByteArray) : qCz b a = - qCz a b := qIH _ _
theorem qFX (a : ByteArray) : qCz a a = 0 := qLQ _
theorem qH9 {a b : ByteArray} (h : qCz a b = 0) : a = b := ByteArray.ext (Array.toList_inj.1 (qOw _ _ h))
theorem qCx {a b c : ByteArray} (h : qCz a b < 0) (k : qCz b c < 0) : qCz a c < 0 := qJK _ _ _ h k
theorem qOj {a b : ByteArray} (h : ¬ 0 < qCz b a) (hn : a ≠ b) : qCz b a < 0 := by
  (have h0 : qCz b a ≠ 0 := fun e => hn (qH9 e).symm); omega
section
variable {α : Type}
def qES (L : List (ByteArray × α)) (nm : ByteArray) : Nat → Nat
  | 0 => 0
  | k + 1 => match L[k]? with
    | some p => if 0 < qCz p.1 nm then qES L nm k else k + 1
    | none => k + 1
def qFs (L : List (ByteArray × α)) (f : ByteArray × α) : List (ByteArray × α) := L.take (qES L f.1 L.length) ++ f :: L.drop (qES L f.1 L.length)
def qIG (L : List (ByteArray × α)) : List (ByteArray × α) := L.foldl qFs []
theorem qKI (L : List (ByteArray × α)) (nm : ByteArray) : ∀ k, qES L nm k ≤ k
  | 0 => Nat.le_refl _
  | k + 1 => by
    unfold qES
    split
    · split
      · have := qKI L nm k; omega
      · exact Nat.le_refl _
    · exact Nat.le_refl _
theorem qHr {L : List (ByteArray × α)} {nm : ByteArray} {k : Nat} {p : ByteArray × α} (hp : L[k]? = some p) (h : 0 < qCz p.1 nm) : qES L nm (k + 1) = qES L nm k := by
  conv => lhs; unfold qES
  rw [hp]; exact if_pos h
theorem qFf {L : List (ByteArray × α)} {nm : ByteArray} {k : Nat} {p : ByteArray × α} (hp : L[k]? = some p) (h : ¬ 0 < qCz p.1 nm) : qES L nm (k + 1) = k + 1 := by
  unfold qES; rw [hp]; exact if_neg h
theorem qGC {L : List (ByteArray × α)} {nm : ByteArray} : ∀ (k i : Nat) (p : ByteArray × α), qES L nm k ≤ i → i < k → L[i]? = some p → 0 < qCz p.1 nm
 | 0, i, p, h1, h2, _ => by omega
 | k + 1, i, p, h1, h2, hp => by
  cases hk : L[k]? with
  | none =>
   (have e : qES L nm (k + 1) = k + 1 := by unfold qES; rw [hk]); omega
  | some q =>
   by_cases hq : 0 < qCz q.1 nm
   ·rw [qHr hk hq] at h1
    by_cases e : i = k
    ·subst e; rw [hk] at hp; injection hp with hp; rw [← hp]; exact hq
    ·exact qGC k i p h1 (by omega) hp
   ·rw [qFf hk hq] at h1; omega
theorem qGA {L : List (ByteArray × α)} {nm : ByteArray} : ∀ (k j : Nat), qES L nm k = j + 1 → k ≤ L.length → ∃ p, L[j]? = some p ∧ ¬ 0 < qCz p.1 nm
  | 0, j, h, _ => by simp [qES] at h
  | k + 1, j, h, hk => by
    (have hl : k < L.length := by omega); have hp : L[k]? = some L[k] := List.getElem?_eq_getElem hl
    by_cases hq : 0 < qCz L[k].1 nm
    · rw [qHr hp hq] at h; exact qGA k j h (by omega)
    · rw [qFf hp hq] at h; (have e : j = k := by omega); subst e; exact ⟨_, hp, hq⟩
theorem qCS (L : List (ByteArray × α)) (f : ByteArray × α) : (qFs L f).Perm (f :: L) := by
  unfold qFs; exact List.perm_middle.trans (by rw [List.take_append_drop])
def Asc (L : List (ByteArray × α)) : Prop := L.Pairwise fun a b => qCz a.1 b.1 < 0
theorem qMB {L : List (ByteArray × α)} {f : ByteArray × α} (h : Asc L) (hf : ∀ p ∈ L, p.1 ≠ f.1) : Asc (qFs L f) := by
 have hle := qKI L f.1 L.length
 have hup : ∀ p ∈ L.drop (qES L f.1 L.length), qCz f.1 p.1 < 0 := fun p hp => by
  obtain ⟨i, hi⟩ := List.getElem?_of_mem hp; rw [List.getElem?_drop] at hi; have := qGC L.length _ p (Nat.le_add_right _ _) (List.getElem?_eq_some_iff.1 hi).1 hi; rw [qEL p.1 f.1]; omega
 have hdn : ∀ p ∈ L.take (qES L f.1 L.length), qCz p.1 f.1 < 0 := fun p hp => by
  have hne : p.1 ≠ f.1 := hf p (List.mem_of_mem_take hp)
  cases hk : qES L f.1 L.length with
  | zero => rw [hk] at hp; simp at hp
  | succ j =>
   obtain ⟨q, hq, hq2⟩ := qGA L.length j hk (Nat.le_refl _); have hqn : q.1 ≠ f.1 := hf q (List.mem_of_getElem? hq); have hql : qCz q.1 f.1 < 0 := qOj hq2 (fun e => hqn e.symm); obtain ⟨i, hi⟩ := List.getElem?_of_mem hp; rw [hk, List.getElem?_take] at hi
   split at hi
   ·rename_i hij
    by_cases e : i = j
    ·subst e; rw [hq] at hi; injection hi with hi; rw [← hi]; exact hql
    ·(have hlt : i < j := by omega); obtain ⟨g1, g2⟩ := List.getElem?_eq_some_iff.1 hi; obtain ⟨g3, g4⟩ := List.getElem?_eq_some_iff.1 hq; have := List.pairwise_iff_getElem.1 h i j g1 g3 hlt; rw [g2, g4] at this; exact qCx this hql
   ·cases hi
 unfold qFs Asc; rw [List.pairwise_append]; refine ⟨h.sublist (List.take_sublist _ _), ?_, ?_⟩
 ·rw [List.pairwise_cons]; exact ⟨hup, h.sublist (List.drop_sublist _ _)⟩
 ·intro a ha b hb; rcases List.mem_cons.1 hb with rfl | hb
  ·exact hdn a ha
  ·exact qCx (hdn a ha) (hup b hb)
theorem qGM : ∀ (M L : List (ByteArray × α)), (L ++ M).Pairwise (fun a b => a.1 ≠ b.1) → Asc L → (M.foldl qFs L).Perm (L ++ M) ∧ Asc (M.foldl qFs L)
  | [], L, _, h => by simpa using h
  | f :: M, L, hn, h => by
    have hn2 := List.pairwise_append.1 hn; (have hf : ∀ p ∈ L, p.1 ≠ f.1 := fun p hp => hn2.2.2 p hp f (by simp)); have hp := qCS L f; have hpm : (qFs L f ++ M).Perm (L ++ f :: M) := (hp.append_right M).trans (by rw [List.cons_append]; exact List.perm_middle.symm); (have hs : ∀ {a b : ByteArray × α}, a.1 ≠ b.1 → b.1 ≠ a.1 := fun h e => h e.symm); have h3 := qGM M (qFs L f) ((hpm.pairwise_iff hs).2 hn) (qMB h hf); exact ⟨h3.1.trans hpm, h3.2⟩
def qMT (L : List (ByteArray × α)) : Prop := L.Pairwise fun a b => a.1 ≠ b.1
theorem qJp {L : List (ByteArray × α)} (h : qMT L) : (qIG L).Perm L := (qGM L [] h List.Pairwise.nil).1
theorem qKL {L : List (ByteArray × α)} (h : qMT L) : Asc (qIG L) := (qGM L [] h List.Pairwise.nil).2
theorem qIq : ∀ {L M : List (ByteArray × α)}, Asc L → Asc M → L.Perm M → L = M
 | [], M, _, _, h => (List.nil_perm.1 h).symm ▸ rfl
 | x :: L, [], _, _, h => absurd h.length_eq (by simp)
 | x :: L, y :: M, hl, hm, h => by
  unfold Asc at hl hm; rw [List.pairwise_cons] at hl hm
  have hxy : x = y := by
   have h1 : x ∈ y :: M := h.mem_iff.1 (by simp); have h2 : y ∈ x :: L := h.mem_iff.2 (by simp); rcases List.mem_cons.1 h1 with e | h1
   ·exact e
   ·rcases List.mem_cons.1 h2 with e | h2
    ·exact e.symm
    ·have a := hm.1 x h1; have b := hl.1 y h2; have c := qEL x.1 y.1; omega
  subst hxy; rw [qIq hl.2 hm.2 (List.perm_cons _ |>.1 h)]
theorem qJi {L M : List (ByteArray × α)} (hd : qMT L) (hm : Asc M) (hp : M.Perm L) : M = qIG L := qIq hm (qKL hd) (hp.trans (qJp hd).symm)
theorem qFR {L M : List (ByteArray × α)} (h : L.Perm M) : qMT L ↔ qMT M := h.pairwise_iff fun h e => h e.symm
theorem qPG {M : List (ByteArray × α)} (hs : M.Pairwise fun a b => ¬ qCz b.1 a.1 < 0) (hn : ∀ i p q, M[i]? = some p → M[i + 1]? = some q → p.1 ≠ q.1) : Asc M := by
 induction M with
 | nil => exact List.Pairwise.nil
 | cons x M ih =>
  rw [List.pairwise_cons] at hs; have h2 := ih hs.2 (fun i p q hp hq => hn (i + 1) p q (by simpa using hp) (by simpa using hq)); refine List.pairwise_cons.2 ⟨fun y hy => ?_, h2⟩
  cases M with
  | nil => cases hy
  | cons z M =>
   have hz : qCz x.1 z.1 < 0 := by
    have a := hs.1 z (by simp); have b := hn 0 x z rfl rfl; (have c : qCz x.1 z.1 ≠ 0 := fun e => b (qH9 e)); have d := qEL x.1 z.1; omega
   rcases List.mem_cons.1 hy with rfl | hy
   ·exact hz
   ·exact qCx hz ((List.pairwise_cons.1 h2).1 y hy)
theorem qMk {M : List (ByteArray × α)} {i : Nat} {p q : ByteArray × α} (hp : M[i]? = some p) (hq : M[i + 1]? = some q) (h : p.1 = q.1) : ¬ qMT M := fun hd => by
  obtain ⟨g1, g2⟩ := List.getElem?_eq_some_iff.1 hp; obtain ⟨g3, g4⟩ := List.getElem?_eq_some_iff.1 hq; have := List.pairwise_iff_getElem.1 hd i (i + 1) g1 g3 (by omega); rw [g2, g4] at this; exact this h
end
def qLy : List Int → List Int → Int
  | [], [] => 0
  | [], _ :: _ => -1
  | _ :: _, [] => 1
  | a :: r1, b :: r2 => if a < b then -1 else if b < a then 1 else qLy r1 r2
theorem qHE {r : Int} (h : qDp r) : (r ≤ 127 ∧ ∃ a, Lib.encodeRune r = [a] ∧ (a.toNat : Int) = r) ∨ (128 ≤ r ∧ r ≤ 2047 ∧ ∃ a b, Lib.encodeRune r = [a, b] ∧ (a.toNat : Int) = 192 + r / 64 ∧ (b.toNat : Int) = 128 + r % 64)
    ∨ (2048 ≤ r ∧ r ≤ 65535 ∧ ∃ a b c, Lib.encodeRune r = [a, b, c] ∧ (a.toNat : Int) = 224 + r / 4096 ∧ (b.toNat : Int) = 128 + r / 64 % 64 ∧ (c.toNat : Int) = 128 + r % 64)
    ∨ (65536 ≤ r ∧ r ≤ 1114111 ∧ ∃ a b c d, Lib.encodeRune r = [a, b, c, d] ∧ (a.toNat : Int) = 240 + r / 262144 ∧ (b.toNat : Int) = 128 + r / 4096 % 64 ∧ (c.toNat : Int) = 128 + r / 64 % 64 ∧ (d.toNat : Int) = 128 + r % 64) := by
  unfold qDp at h; unfold Lib.encodeRune; have k : ∀ x : Int, 0 ≤ x → x < 256 → ((x.toNat.toUInt8).toNat : Int) = x := fun x h0 h1 => by rw [u8n h0 h1]; omega
  by_cases c1 : r ≤ 127
  · rw [Lib.encodeRuneZ_one (by omega) c1]; exact .inl ⟨c1, _, rfl, k _ (by omega) (by omega)⟩
  · by_cases c2 : r ≤ 2047
    · rw [Lib.encodeRuneZ_two (by omega) c2]; exact .inr (.inl ⟨by omega, c2, _, _, rfl, k _ (by omega) (by omega), k _ (by omega) (by omega)⟩)
    · by_cases c3 : r ≤ 65535
      · rw [Lib.encodeRuneZ_three (by omega)]; exact .inr (.inr (.inl ⟨by omega, c3, _, _, _, rfl, k _ (by omega) (by omega), k _ (by omega) (by omega), k _ (by omega) (by omega)⟩))
      · rw [Lib.encodeRuneZ_four (by omega) (by omega)]; exact .inr (.inr (.inr ⟨by omega, by omega, _, _, _, _, rfl, k _ (by omega) (by omega), k _ (by omega) (by omega), k _ (by omega) (by omega), k _ (by omega) (by omega)⟩))
theorem qNP {p q : Int} (hp : qDp p) (hq : qDp q) (h : p < q) (s t : List UInt8) : compareBytes (Lib.encodeRune p ++ s) (Lib.encodeRune q ++ t) = -1 := by
  rcases qHE hp with ⟨p1, a, ep, e1⟩ | ⟨p1, p2, a, b, ep, e1, e2⟩ | ⟨p1, p2, a, b, c, ep, e1, e2, e3⟩ | ⟨p1, p2, a, b, c, d, ep, e1, e2, e3, e4⟩ <;>
  rcases qHE hq with ⟨q1, x, eq, f1⟩ | ⟨q1, q2, x, y, eq, f1, f2⟩ | ⟨q1, q2, x, y, z, eq, f1, f2, f3⟩ | ⟨q1, q2, x, y, z, u, eq, f1, f2, f3, f4⟩ <;>
  rw [ep, eq] <;> simp only [List.cons_append, List.nil_append, qDx] <;> repeat' split
  all_goals first | rfl | omega
theorem qMP (p : List UInt8) (s t : List UInt8) : compareBytes (p ++ s) (p ++ t) = compareBytes s t := by
  induction p with
  | nil => rfl
  | cons x p ih => rw [List.cons_append, List.cons_append, qDx, if_neg (by omega), if_neg (by omega), ih]
theorem qK4 : ∀ (P Q : List Int), (∀ p ∈ P, qDp p) → (∀ q ∈ Q, qDp q) → compareBytes (P.flatMap Lib.encodeRune) (Q.flatMap Lib.encodeRune) = qLy P Q
 | [], [], _, _ => rfl
 | [], q :: Q, _, _ => by
  rw [List.flatMap_cons]
  cases he : Lib.encodeRune q with
  | nil => exact absurd he (qHX q)
  | cons c r => rfl
 | p :: P, [], _, _ => by
  rw [List.flatMap_cons]
  cases he : Lib.encodeRune p with
  | nil => exact absurd he (qHX p)
  | cons c r => rfl
 | p :: P, q :: Q, hP, hQ => by
  rw [List.flatMap_cons, List.flatMap_cons]; unfold qLy
  by_cases h1 : p < q
  ·rw [if_pos h1, qNP (hP p (by simp)) (hQ q (by simp)) h1]
  ·rw [if_neg h1]
   by_cases h2 : q < p
   ·rw [if_pos h2, qIH, qNP (hQ q (by simp)) (hP p (by simp)) h2]; rfl
   ·rw [if_neg h2]; (have e : p = q := by omega); subst e; rw [qMP]; exact qK4 P Q (fun x hx => hP x (by simp [hx])) (fun x hx => hQ x (by simp [hx]))
end
end Go.Proofs.YtnjhmnolngdfaaaGreatDoor
namespace Go.Proofs.YtnjhmnolngdfaaaGreatDoor
section
open Go.RowKit Go.PlainAid
def qG0 (p : ByteArray × JV) : List Value := (qBB p).toList
theorem qE2 (p : ByteArray × JV) : (qG0 p).length = 7 := rfl
theorem qL8 (p : ByteArray × JV) : ∀ v ∈ qG0 p, v.oneCell' = true := by
  intro v hv; have h := qAw p; rw [Array.all_eq_true_iff_forall_mem] at h; exact h v (by simpa [qG0] using hv)
def qOP (x y : ByteArray × JV) : Int := qCz x.1 y.1
theorem ltF (x y : ByteArray × JV) : ltOf qOP x y = decide (qCz x.1 y.1 < 0) := rfl
theorem qQb : Sort.SWO (ltOf qOP) where
  irrefl x := by rw [ltF, qFX]; rfl
  trans x y z h1 h2 := by
    rw [ltF, decide_eq_true_eq] at *; exact qCx h1 h2
  ntrans x y z h1 h2 := by
    rw [ltF, decide_eq_false_iff_not] at *; intro h3
    by_cases e : qCz x.1 y.1 = 0
    · rw [qH9 e] at h3; exact h2 h3
    · (have h4 : qCz y.1 x.1 < 0 := by rw [qEL x.1 y.1]; omega); exact h2 (qCx h4 h3)
theorem qML (x y : ByteArray × JV) (W : World) : Calls Tryz.prog 85 #[.agg (qBB x), .agg (qBB y)] W fun e w' => e = .returned (.int .i64 (qOP x y)) ∧ ∃ q os', w' = Sort.grow (W.drewN q) os' := by
  (have hcon := fun W' => Tryz.strings_Compare x.1 y.1 W'); have hr : Lib.compareBytes x.1.data.toList y.1.data.toList = qOP x y := rfl; rw [hr] at hcon; clear hr; generalize qOP x y = r at hcon ⊢; show Calls Tryz.prog 85 #[.agg #[.string x.1, .int .i64 x.2.v.kind, .bool x.2.v.b, .int .i64 x.2.v.i, .string x.2.v.t, .slice x.2.v.LA x.2.v.Ln x.2.v.Lc, .slice x.2.v.FA x.2.v.Fn x.2.v.Fc], .agg #[.string y.1, .int .i64 y.2.v.kind, .bool y.2.v.b, .int .i64 y.2.v.i, .string y.2.v.t, .slice y.2.v.LA y.2.v.Ln y.2.v.Lc, .slice y.2.v.FA y.2.v.Fn y.2.v.Fc]] W _; go_enter Tryz.func85, Tryz.ntmps85
  go_wp2_with (go_at_call 86; refine (hcon _).mono ?_; rintro e w' ⟨rfl, rfl⟩)
  go_ret; exact ⟨rfl, 0, _, by rw [Sort.alloc_eq_grow, Sort.alloc_eq_grow, Sort.grow_grow]; rfl⟩
theorem qKy (blk off size : Nat) (w : World) : CmpLays Tryz.prog 85 #[] qG0 7 qOP blk off size w := fun _ _ _ _ x y => qML x y _
theorem qIE : ∀ args w, (callFunc 85 args).run Tryz.prog w = .ok (.enter 85 args) w := enters_of Tryz.func85 (by kernel_rfl) rfl
theorem qC3 {α : Type} [Inhabited α] {l : List α} {i : Nat} (h : i < l.length) : l[i]? = some l[i]! := by
  rw [List.getElem!_eq_getElem?_getD, List.getElem?_eq_getElem h]; rfl
theorem qLl (w : World) {blk k : Nat} (f : Array Value → Array Value) (h : k ≠ blk) : (Sort.mapBlock w blk f).heap[k]? = w.heap[k]? := by
  unfold Sort.mapBlock; rw [Array.getElem?_modify, if_neg (fun e => h e.symm)]
theorem qL0 {w : World} {blk : Nat} (f : Array Value → Array Value) {c : Array Value} {t : TypeId} {fr : Nat × Nat} (h : w.heap[blk]? = some (.cells c t fr)) : (Sort.mapBlock w blk f).heap[blk]? = some (.cells (f c) t fr) := by
  unfold Sort.mapBlock; rw [Array.getElem?_modify, if_pos rfl, h]; rfl
theorem qGc (w : World) (blk : Nat) (f : Array Value → Array Value) : (Sort.mapBlock w blk f).heap.size = w.heap.size := by
  unfold Sort.mapBlock; simp
theorem qEc (L : List (ByteArray × JV)) (k : Nat) (hk : k < L.length * 7) : (qCB L)[k]? = (qG0 L[k / 7]!)[k % 7]? := by
  (have h1 : k / 7 < L.length := by omega); (have h2 : k % 7 < 7 := by omega); have h3 : L[k / 7]? = some L[k / 7]! := qC3 h1; obtain ⟨v, hv⟩ : ∃ v, (qG0 L[k / 7]!)[k % 7]? = some v := ⟨_, List.getElem?_eq_getElem (by rw [qE2]; exact h2)⟩; have := qEJ h3 (k % 7) v hv; rw [show k / 7 * 7 + k % 7 = k by omega] at this; rw [this, hv]
theorem qKj {w : World} {base g cap n : Nat} {L : List (ByteArray × JV)} (h : w.ownsRow base 52 7 (.slice (some ⟨g, 0, none⟩) n cap) n (qCB L)) (hn : n = L.length) : Sort.HoldsK qG0 7 w g 0 L.toArray := by
  rcases h.2 with ⟨hv, _⟩ | ⟨g', cap', cur, hv, hg, hb, hnc, hc, hsz, htake⟩
  · cases hv
  · injection hv with e1 e2 e3; injection e1 with e1; (have e4 : g = g' := by injection e1); subst e4; intro k hk; rw [Sort.size_flatK] at hk; (have hk7 : k < L.length * 7 := by simpa using hk); have hI : qAW w g 52 cur := hb; rw [Nat.zero_add]; refine ⟨?_, hI.frozen k⟩; rw [hI.cell]; have h5 := qEc L k hk7; rw [← htake, List.getElem?_take, if_pos (by omega)] at h5; rw [Sort.get_flatK qG0 7 _ k hk]; (have h6 : k % 7 < (qG0 L[k / 7]!).length := by rw [qE2]; omega); (have h7 : (L.toArray)[k / 7]! = L[k / 7]! := by simp); rw [h7]; have h8 : (qG0 L[k / 7]!)[k % 7]? = some (qG0 L[k / 7]!)[k % 7]! := qC3 h6; rw [h8] at h5
    simpa using h5
theorem qMH {w : World} {base g cap n m : Nat} {L M : List (ByteArray × JV)} {os : Array Obj} (h : w.ownsRow base 52 7 (.slice (some ⟨g, 0, none⟩) n cap) n (qCB L)) (hn : n = L.length) (hM : M.length = n) :
    (sortWorldK qG0 7 w g 0 m M.toArray os).ownsRow base 52 7 (.slice (some ⟨g, 0, none⟩) n cap) n (qCB M) ∧ Bes (fun q => q = g) w (sortWorldK qG0 7 w g 0 m M.toArray os) := by
  have hbes : Bes (fun q => q = g) w (sortWorldK qG0 7 w g 0 m M.toArray os) := by
    refine ⟨rfl, rfl, rfl, ?_, fun k hk hne => ?_⟩
    · unfold sortWorldK Sort.putRowK Sort.putRow; rw [Sort.size_grow, qGc]; exact Nat.le_add_right _ _
    · unfold sortWorldK Sort.putRowK Sort.putRow; rw [Sort.heap_grow_old _ _ (by rw [qGc]; exact hk), qLl _ _ hne]; rfl
  refine ⟨?_, hbes⟩; rcases h.2 with ⟨hv, _⟩ | ⟨g', cap', cur, hv, hg, hb, hnc, hc, hsz, htake⟩
  · cases hv
  · injection hv with e1 e2 e3; injection e1 with e1; (have e4 : g = g' := by injection e1); subst e4 e3; have hgl : g < w.heap.size := (Array.getElem?_eq_some_iff.1 hb).1; refine ⟨by rw [qDG, hM], .inr ⟨g, cap, Sort.putCells id 0 (Sort.flatK qG0 7 M.toArray) cur, rfl, hg, ?_, hnc, hc, ?_, ?_⟩⟩
    · unfold sortWorldK Sort.putRowK Sort.putRow; rw [Sort.heap_grow_old _ _ (by rw [qGc]; exact hgl)]; exact qL0 _ hb
    · unfold Sort.putCells
      simpa using hsz
    · apply List.ext_getElem?; intro k; rw [List.getElem?_take]
      by_cases hk : k < n * 7
      · have hcap : n * 7 ≤ cap * 7 := Nat.mul_le_mul_right 7 hnc; (have hkc : k < cur.size := by omega); rw [if_pos hk, qEc M k (by omega)]; unfold Sort.putCells
        rw [Array.getElem?_toList, Array.getElem?_mapIdx, Array.getElem?_eq_getElem hkc, Option.map_some, if_pos ⟨Nat.zero_le _, by rw [Sort.size_flatK]; simpa [hM] using hk⟩, Nat.sub_zero,
          Sort.get_flatK qG0 7 _ k (by simpa [hM] using hk)]
        (have h6 : k % 7 < (qG0 M[k / 7]!).length := by rw [qE2]; omega); (have h7 : (M.toArray)[k / 7]! = M[k / 7]! := by simp); rw [h7]; exact (qC3 h6).symm
      · rw [if_neg hk, List.getElem?_eq_none (by rw [qDG, hM]; omega)]
def Srt (M : List (ByteArray × JV)) : Prop := M.Pairwise fun a b => ¬ qCz b.1 a.1 < 0
def SrV (base : Nat) (A : Option Addr) (n cap : Nat) (L : List (ByteArray × JV)) (w : World) (e : Ending) (w' : World) : Prop :=
  e = .returned (.tuple #[]) ∧ ∃ M : List (ByteArray × JV), M.Perm L ∧ Srt M ∧ w'.ownsRow base 52 7 (.slice A n cap) n (qCB M) ∧ Bes (fun q => (Value.slice A n cap).ownBlock = some q) w w'
theorem qMM {w : World} {base : Nat} {A : Option Addr} {n cap : Nat} {L : List (ByteArray × JV)} (hO : w.ownsRow base 52 7 (.slice A n cap) n (qCB L)) (hn : n = L.length) (hsz : n < 4611686018427387904) :
    Calls Tryz.prog 84 #[.slice A n cap, .func (.func 85) #[] #[]] w (SrV base A n cap L w) := by
  have hO2 := hO; rcases hO.2 with ⟨hv, h0⟩ | ⟨g, cap', cur, hv, hg, hb, _⟩
  · injection hv with e1 e2 e3; subst e1 h0 e3; have hL : L = [] := List.eq_nil_of_length_eq_zero hn.symm; subst hL; refine (AnyF.slices_SortFunc_none Tryz.sortFields none 0 _ w).mono ?_; rintro e w' ⟨rfl, rfl⟩; exact ⟨rfl, [], List.Perm.refl _, List.Pairwise.nil, hO2, Bes.of_below (Below.refl _ _)⟩
  · injection hv with e1 e2 e3; subst e1; have hgl : g < w.heap.size := (Array.getElem?_eq_some_iff.1 hb).1; have hH := qKj hO2 hn; have hcon := AnyQ.slices_SortFunc Tryz.sortFields 7 Tryz.isAgg52 Tryz.sizeOf52 qG0 qE2 qL8 qOP qQb 85 #[] g 0 cap L.toArray w qIE (qKy g 0 _ w) hH hgl (by simpa [← hn] using hsz); rw [show L.toArray.size = n by simp [hn]] at hcon; refine hcon.mono ?_; rintro e w' ⟨rfl, d', m, os, hp, hs, rfl⟩; (have hsize : d'.size = n := by have := hp.1; simpa [← hn] using this); (have hM : d'.toList.length = n := by simpa using hsize); have h3 := qMH (m := m) (os := os) hO2 hn hM; (have e4 : d'.toList.toArray = d' := by simp); rw [e4] at h3; refine ⟨rfl, d'.toList, ?_, ?_, h3.1, ⟨h3.2.os, h3.2.tape, h3.2.output, h3.2.size, fun k hk hne => h3.2.block k hk (fun e => hne (by rw [e]; rfl))⟩⟩
    · have := hp.2.2; rw [Array.extract_eq_self_of_le (by omega), Array.extract_eq_self_of_le (by simp [hn])] at this
      simpa using this
    · unfold Srt; rw [List.pairwise_iff_getElem]; intro i j hi hj hij; have h5 := hs i j (Nat.zero_le _) hij (by simpa [hsize] using hj); rw [ltF, decide_eq_false_iff_not] at h5; (have hi' : i < d'.size := by simpa using hi); (have hj' : j < d'.size := by simpa using hj); rw [getElem!_pos d' i hi', getElem!_pos d' j hj'] at h5
      simpa using h5
end
end Go.Proofs.YtnjhmnolngdfaaaGreatDoor
namespace Go.Proofs.YtnjhmnolngdfaaaGreatDoor
section
open Go.RowKit Go.PlainAid
theorem qJW : ∀ (k x : Nat), x < 10 ^ (k + 1) → (dig x).length ≤ k + 1
  | 0, x, h => by rw [qGG (by simpa using h)]; simp
  | k + 1, x, h => by
    by_cases h1 : x < 10
    · rw [qGG h1]; simp
    · rw [qHd h1, List.length_append]; have := qJW k (x / 10) (by rw [Nat.pow_succ] at h; omega); simp; omega
theorem qNl {n : Int} (h1 : n ≤ 9007199254740991) (h2 : -9007199254740991 ≤ n) : (qFt n).length ≤ 17 := by
  have := qJW 15 n.natAbs (by
    have : n.natAbs ≤ 9007199254740991 := by omega
    exact Nat.lt_of_le_of_lt this (by decide))
  unfold qFt
  split <;> simp <;> omega
theorem qJq (X : ByteArray) : X.data.toList.length = X.size := Array.length_toList
theorem qLW (t : ByteArray) : (quo t).length ≤ 6 * t.size + 2 := by
  have h := qGe t.data.toList; have e : t.data.toList.length = t.size := qJq t; unfold quo; simp only [List.length_cons, List.length_append, List.length_nil]; omega
mutual
theorem qIl {G : List UInt8} (hG : G.length ≤ 5) : ∀ (t : JT) (d : Int), qBc t d = true → (pr G t).length + 11 ≤ 60 * SzT t
 | .mk k b i t l ns vs, d, h => by
  rw [qDr]; unfold pr; unfold qBc at h
  by_cases k0 : k = 0
  ·rw [if_pos k0]; have : qFD.length = 4 := rfl; omega
  ·rw [if_neg k0]
   by_cases k1 : k = 1
   ·rw [if_pos k1]; have h1 : qGW.length = 4 := rfl; have h2 : qEA.length = 5 := rfl
    split <;> omega
   ·rw [if_neg k1]; rw [if_neg (fun e => e.elim k0 k1)] at h
    by_cases k2 : k = 2
    ·rw [if_pos k2]; rw [if_pos k2] at h; (have h3 : i ≤ 9007199254740991 ∧ -9007199254740991 ≤ i := by simpa using h); have := qNl h3.1 h3.2; omega
    ·rw [if_neg k2]; rw [if_neg k2] at h
     by_cases k3 : k = 3
     ·rw [if_pos k3]; have := qLW t; omega
     ·rw [if_neg k3]; rw [if_neg k3] at h
      by_cases k4 : k = 4
      ·rw [if_pos k4]; rw [if_pos k4] at h; (have h2 : qLx l (qEm d) = true := by simp at h; exact h.1); have := qLh hG true l _ h2; simp only [List.length_cons, List.length_append, List.length_nil]; omega
      ·rw [if_neg k4]; rw [if_neg k4] at h
       by_cases k5 : k = 5
       ·rw [if_pos k5] at h; (have h2 : qKn [] ns vs (qEm d) = true := by simp at h; exact h.1); have := qKB hG true [] ns vs _ h2; simp only [List.length_cons, List.length_append, List.length_nil]; omega
       ·rw [if_neg k5] at h; cases h
theorem qLh {G : List UInt8} (hG : G.length ≤ 5) : ∀ (f : Bool) (l : List JT) (d : Int), qLx l d = true → (prL G f l).length ≤ 60 * SzL l
  | f, [], d, h => by unfold prL; simp
  | f, x :: r, d, h => by
    unfold qLx at h; (have h2 : qBc x d = true ∧ qLx r d = true := by simpa using h); have h3 := qIl hG x d h2.1; have h4 := qLh hG false r d h2.2; unfold prL SzL; (have h5 : (if f = true then [] else [44] : List UInt8).length ≤ 1 := by split <;> simp); simp only [List.length_append]; omega
theorem qKB {G : List UInt8} (hG : G.length ≤ 5) : ∀ (f : Bool) (seen ns : List ByteArray) (vs : List JT) (d : Int), qKn seen ns vs d = true → (prF G f ns vs).length ≤ 60 * (SzN ns + SzL vs)
  | f, seen, [], vs, d, h => by unfold prF; simp
  | f, seen, _ :: _, [], d, h => by unfold prF; simp
  | f, seen, n :: ns, x :: vs, d, h => by
    unfold qKn at h
    have h2 : qBc x d = true ∧ qKn (seen ++ [n]) ns vs d = true := by
      rw [Bool.and_eq_true, Bool.and_eq_true, Bool.and_eq_true] at h; exact ⟨h.1.2, h.2.2⟩
    have h3 := qIl hG x d h2.1; have h4 := qKB hG false (seen ++ [n]) ns vs d h2.2; have h6 := qLW n; unfold prF SzN SzL; (have h5 : (if f = true then [] else [44] : List UInt8).length ≤ 1 := by split <;> simp); simp only [List.length_append, List.length_cons]; omega
end
mutual
theorem qK9 {w : World} : ∀ {j : JV}, qAi w j → qHM (er j)
  | .mk v l ns vs, h => by
    unfold qAi at h; unfold er qHM; exact ⟨qH7 h.2.1, by rw [qBj]; exact h.1.2.2.2.2.2.1, qH7 h.2.2⟩
theorem qH7 {w : World} {A : Option Addr} {step shift : Nat} : ∀ {l : List JV} {k : Nat}, qBf w A step shift k l → qMe (erL l)
  | [], _, _ => by unfold erL qMe; exact True.intro
  | x :: r, k, h => by unfold qBf at h; unfold erL qMe; exact ⟨qK9 h.2.1, qH7 h.2.2⟩
end
end
end Go.Proofs.YtnjhmnolngdfaaaGreatDoor
namespace Go.Proofs.YtnjhmnolngdfaaaGreatDoor
section
open Go.RowKit Go.PlainAid
mutual
def qDz : JT → Int → Int
  | .mk k b i t l ns vs, n => if k = 4 then qDs l (n + 1) else if k = 5 then qDs vs (n + 1) else n + 1
def qDs : List JT → Int → Int
  | [], n => n
  | x :: r, n => if n ≤ 65536 then qDs r (qDz x n) else n
end
theorem qKw (j : JV) (n : Int) : qDz (er j) n = if j.v.kind = 4 then qDs (erL j.l) (n + 1) else if j.v.kind = 5 then qDs (erL j.vs) (n + 1) else n + 1 := by
  rw [qBs]
  conv => lhs; unfold qDz
theorem qD8 (x : JT) (r : List JT) (n : Int) : qDs (x :: r) n = if n ≤ 65536 then qDs r (qDz x n) else n := by conv => lhs; unfold qDs
theorem qEB (l : List JT) {n : Int} (h : ¬ n ≤ 65536) : qDs l n = n := by
  cases l with
  | nil => unfold qDs; rfl
  | cons x r => rw [qD8, if_neg h]
mutual
theorem qFN : ∀ (t : JT) (n : Int), n ≤ 65536 → n ≤ qDz t n ∧ qDz t n ≤ 65537
  | .mk k b i t l ns vs, n, h => by
    unfold qDz
    split
    · have := qHx l (n + 1) (by omega); omega
    · split
      · have := qHx vs (n + 1) (by omega); omega
      · omega
theorem qHx : ∀ (l : List JT) (n : Int), n ≤ 65537 → n ≤ qDs l n ∧ qDs l n ≤ 65537
  | [], n, h => by unfold qDs; omega
  | x :: r, n, h => by
    rw [qD8]
    split
    · rename_i h1; have h2 := qFN x n h1; have h3 := qHx r (qDz x n) h2.2; omega
    · omega
end
theorem qD2 {l : List JV} {q : Nat} {x : JV} (hx : l[q]? = some x) {r : Int} (hr : r ≤ 65536) : qDs ((erL l).drop q) r = qDs ((erL l).drop (q + 1)) (qDz (er x) r) := by
  have hl := (List.getElem?_eq_some_iff.1 hx).1
  have h1 : (erL l).drop q = er x :: (erL l).drop (q + 1) := by
    rw [qBw, List.drop_eq_getElem_cons (by rw [List.length_map]; exact hl)]
    congr 1
    obtain ⟨_, e⟩ := List.getElem?_eq_some_iff.1 hx; rw [List.getElem_map, e]
  rw [h1, qD8, if_pos hr]
theorem qHt : (Tryz.prog.info? 52).map (fun i => (i.zero, i.size)) = some (some (.agg (qBB (⟨#[]⟩, JV.zero))), 7) := by kernel_rfl
theorem qCh (w : World) : (zeroValue 52).run Tryz.prog w = .ok (.agg (qBB (⟨#[]⟩, JV.zero))) w := (Go.zero_of_info qHt).1 w
theorem qDw {w : World} {b off : Nat} {nm : ByteArray} {x : JV} (h1 : w.cell? ⟨b, off, none⟩ = some (.string nm)) (h2 : w.rangeAt b (off + 1) x.cells.toList) : w.rangeAt b off (qBB (nm, x)).toList := fun j v hv => by
  cases j with
  | zero =>
    (obtain rfl : Value.string nm = v := by simpa [qBB] using hv); exact h1
  | succ n =>
    have h3 := h2 n v (by simpa [qBB, JV.cells, VM.cells] using hv)
    rwa [show off + 1 + n = off + (n + 1) by omega] at h3
theorem qBE {w : World} {g : Nat} {t : TypeId} {nm : ByteArray} {x : JV} (h : qAW w g t (qBB (nm, x))) : w.rangeAt g 1 x.cells.toList := fun j v hv => by
  have h3 := qKq h (1 + j) v (by
    rw [Nat.add_comm]
    simpa [qBB, JV.cells, VM.cells] using hv)
  rwa [Nat.zero_add] at h3
def CtV (j : JV) (n : Int) (w : World) (e : Ending) (w' : World) : Prop := e = .returned (.int .i64 (65536 - qDz (er j) n)) ∧ Below w.heap.size w w'
theorem qQE (sz : Nat) : ∀ (j : JV) (n : Int) (w : World), SizeOf.sizeOf j < sz → qAi w j → 0 ≤ n → n ≤ 65536 →
    Calls Tryz.prog 41 #[.agg j.cells, .int .i64 (65536 - n)] w (CtV j n w) := by
  induction sz with
  | zero => intro j n w h; omega
  | succ sz ih =>
    intro j n w hsz HJ hn0 hn1; obtain ⟨l1, l2, l3, l4, l5⟩ := qCI HJ; have LL := Lib.hid l1; have LV := Lib.hid l2; have SZ := Lib.hid hsz; have IH := Lib.hid ih; have HC := Lib.hid (qKw j n); clear ih l1 l2 l3 hsz; have HB := Below.refl w.heap.size w; obtain ⟨u, hu⟩ : ∃ u, u = 65536 - n := ⟨_, rfl⟩; rw [← hu]; have HU := Lib.hid hu; (have hu0 : 0 ≤ u := by omega); (have hu1 : u ≤ 65536 := by omega); (have hun : u - 1 = 65536 - (n + 1) := by omega); have HUN := Lib.hid hun; clear hu hun
    by_cases hk4 : j.v.kind = 4
    · have HK : Hid (qDz (er j) n = qDs (erL j.l) (n + 1)) := Lib.hid (by rw [HC.out]; simp [hk4]); have HKD := Lib.hid hk4; clear hk4; go_enter Tryz.func41, Tryz.ntmps41
      go_wp2_with (first
        | (refine qAM rfl 25 (.tmp 0) rfl _ rfl ?_; intro w1 hw; have hb := qAD hw; have B2 := (qAC hw).1; replace HB := zT HB hb; replace HJ := HJ.below hb; clear hb hw; have c2_0 : w1.cell? ⟨_, 0, none⟩ = some (.int .i64 4) := (B2.cell 0).trans (by rw [← HKD.out]; rfl); have c2_4 : w1.cell? ⟨_, 4, none⟩ = some (.slice j.v.LA j.v.Ln j.v.Lc) := B2.cell 4; have c2_5 : w1.cell? ⟨_, 5, none⟩ = some (.slice j.v.FA j.v.Fn j.v.Fc) := B2.cell 5))
      clear c2_0 c2_5
      go_loopw [1, 18] (fun m i wr => ∃ (q : Nat) (r : Int), q ≤ j.v.Ln ∧ i = .int .i64 q ∧ m = .int .i64 (65536 - r) ∧ 0 ≤ r ∧ r ≤ 65537 ∧ Hid (qDs (erL j.l) (n + 1) = qDs ((erL j.l).drop q) r) ∧ Below w1.heap.size w1 wr) (fun m i _ => j.v.Ln - (intOf i).toNat)
      case atStart => exact ⟨0, n + 1, Nat.zero_le _, rfl, by rw [← HUN.out], by omega, by omega, Lib.hid rfl, Below.refl _ _⟩
      case round =>
        obtain ⟨q, r, hq, rfl, rfl, hr0, hr1, HR, hb⟩ := hrel; have HBW := Lib.hid hb; replace HB := zT HB hb; replace HJ := HJ.below hb; clear hb
        by_cases hlt : q < j.v.Ln
        · obtain ⟨bl, off, x, hA, hx, RX, HX⟩ := qDv HJ (show q < j.l.length by have := LL.out; omega); have HSZ := Lib.hid (show SizeOf.sizeOf x < sz by have := qFB hx; have := SZ.out; omega); have HX0 := Lib.hid hx; (have hbd : 0 ≤ (q : Int) ∧ (q : Int) < j.v.Ln := by omega); (have hlt2 : (q : Int) < j.v.Ln := by omega); have HA := Lib.hid hA; clear hx hA; rw [HA.out]
          by_cases hrn : r ≤ 65536
          · (have hnl : ¬ (65536 - r : Int) < 0 := by omega); have hle := qFN (er x) r hrn; have HST := Lib.hid (qD2 (HX0.out) hrn)
            go_wp2_with (first
              | ((with_reducible refine qAR ?_); refine qAX rfl 25 (.tmp 20) rfl _ _ rfl x.cells _ RX Tryz.underlying25 rfl qAA ?_)
              | ((with_reducible refine qAG ?_); refine qAO 6 rfl rfl 25 rfl rfl (.tmp 21) rfl _ qAY x.cells rfl rfl qAA rfl (qAP _) ?_; intro w5 hw; have hb := qAD hw; have B6 := (qAC hw).1; replace HB := zT HB hb; replace HJ := HJ.below hb; (try replace HX := HX.below hb); replace HBW := Lib.hid (HBW.out.trans (hb.mono HBW.out.size)); clear hb hw)
              | ((with_reducible refine qAR ?_); refine qAL rfl 25 (.tmp 6) rfl _ rfl _ _ _ B6 Tryz.underlying25 rfl qAA ?_)
              | (go_at_call 41; (refine (IH.out x r _ HSZ.out HX hr0 hrn).mono ?_); rintro e w3 ⟨rfl, hb⟩; have HBX := Lib.hid hb; clear hb))
            go_roundw
            case rel => exact ⟨q + 1, qDz (er x) r, by omega, by go_num, rfl, by omega, hle.2, Lib.hid (by rw [HR.out, HST.out]), HBW.out.trans (HBX.out.mono HBW.out.size)⟩
            case measure => simp [intOf]; omega
          · (have hnl : (65536 - r : Int) < 0 := by omega); have HFIN := Lib.hid (show qDz (er j) n = r by rw [HK.out, HR.out, qEB _ hrn])
            go_wp2_with (first
              | ((with_reducible refine qAR ?_); refine qAX rfl 25 (.tmp 20) rfl _ _ rfl x.cells _ RX Tryz.underlying25 rfl qAA ?_)
              | ((with_reducible refine qAG ?_); refine qAO 6 rfl rfl 25 rfl rfl (.tmp 21) rfl _ qAY x.cells rfl rfl qAA rfl (qAP _) ?_; intro w5 hw; have hb := qAD hw; have B6 := (qAC hw).1; replace HB := zT HB hb; replace HJ := HJ.below hb; (try replace HX := HX.below hb); replace HBW := Lib.hid (HBW.out.trans (hb.mono HBW.out.size)); clear hb hw)
              | ((with_reducible refine qAR ?_); refine qAL rfl 25 (.tmp 6) rfl _ rfl _ _ _ B6 Tryz.underlying25 rfl qAA ?_))
            go_ret; exact ⟨qBD (by rw [HFIN.out]), HB⟩
        · (obtain rfl : q = j.v.Ln := by omega); (have hlt2 : ¬ ((j.v.Ln : Nat) : Int) < j.v.Ln := by omega); have HFIN := Lib.hid (show qDz (er j) n = r by rw [HK.out, HR.out, List.drop_eq_nil_of_le (by rw [qBj]; have := LL.out; omega)]; unfold qDs; rfl); go_wp2; go_ret; exact ⟨qBD (by rw [HFIN.out]), HB⟩
    · by_cases hk5 : j.v.kind = 5
      · have HK : Hid (qDz (er j) n = qDs (erL j.vs) (n + 1)) := Lib.hid (by rw [HC.out]; simp [hk5]); have HKD := Lib.hid hk5; clear hk4 hk5; go_enter Tryz.func41, Tryz.ntmps41
        go_wp2_with (first
          | (refine qAM rfl 25 (.tmp 0) rfl _ rfl ?_; intro w1 hw; have hb := qAD hw; have B2 := (qAC hw).1; replace HB := zT HB hb; replace HJ := HJ.below hb; clear hb hw; have c2_0 : w1.cell? ⟨_, 0, none⟩ = some (.int .i64 5) := (B2.cell 0).trans (by rw [← HKD.out]; rfl); have c2_4 : w1.cell? ⟨_, 4, none⟩ = some (.slice j.v.LA j.v.Ln j.v.Lc) := B2.cell 4; have c2_5 : w1.cell? ⟨_, 5, none⟩ = some (.slice j.v.FA j.v.Fn j.v.Fc) := B2.cell 5))
        clear c2_0 c2_4
        go_loopw [1, 33] (fun m i wr => ∃ (q : Nat) (r : Int), q ≤ j.v.Fn ∧ i = .int .i64 q ∧ m = .int .i64 (65536 - r) ∧ 0 ≤ r ∧ r ≤ 65537 ∧ Hid (qDs (erL j.vs) (n + 1) = qDs ((erL j.vs).drop q) r) ∧ Below w1.heap.size w1 wr) (fun m i _ => j.v.Fn - (intOf i).toNat)
        case atStart => exact ⟨0, n + 1, Nat.zero_le _, rfl, by rw [← HUN.out], by omega, by omega, Lib.hid rfl, Below.refl _ _⟩
        case round =>
          obtain ⟨q, r, hq, rfl, rfl, hr0, hr1, HR, hb⟩ := hrel; have HBW := Lib.hid hb; replace HB := zT HB hb; replace HJ := HJ.below hb; clear hb
          by_cases hlt : q < j.v.Fn
          · obtain ⟨bl, off, nm, x, hA, hx, hnx, n1, RX, HX⟩ := qEI HJ (show q < j.vs.length by have := LV.out; omega); have HSZ := Lib.hid (show SizeOf.sizeOf x < sz by have := qDu hx; have := SZ.out; omega); have FC : wr.rangeAt bl (off + q * 7) (qBB (nm, x)).toList := qDw n1 RX; have HX0 := Lib.hid hx; (have hbd : 0 ≤ (q : Int) ∧ (q : Int) < j.v.Fn := by omega); (have hlt2 : (q : Int) < j.v.Fn := by omega); have HA := Lib.hid hA; clear hx hA hnx; rw [HA.out]
            by_cases hrn : r ≤ 65536
            · (have hnl : ¬ (65536 - r : Int) < 0 := by omega); have hle := qFN (er x) r hrn; have HST := Lib.hid (qD2 (HX0.out) hrn)
              go_wp2_with (first
                | ((with_reducible refine qAR ?_); refine qAX rfl 52 (.tmp 35) rfl _ _ rfl (qBB (nm, x)) _ FC Tryz.underlying52 rfl qAV ?_)
                | ((with_reducible refine qAG ?_); refine qAO 8 rfl rfl 52 rfl rfl (.tmp 36) rfl _ qCh (qBB (nm, x)) rfl rfl qAV rfl (qAw _) ?_; intro w5 hw; have hb := qAD hw; have B6 := (qAC hw).1; replace HB := zT HB hb; replace HJ := HJ.below hb; (try replace HX := HX.below hb); replace HBW := Lib.hid (HBW.out.trans (hb.mono HBW.out.size)); clear hb hw; have RV : w5.rangeAt _ 1 x.cells.toList := qBE B6)
                | ((with_reducible refine qAR ?_); refine qAX rfl 25 (.tmp 39) rfl _ _ rfl x.cells _ RV Tryz.underlying25 rfl qAA ?_)
                | (go_at_call 41; (refine (IH.out x r _ HSZ.out HX hr0 hrn).mono ?_); rintro e w3 ⟨rfl, hb⟩; have HBX := Lib.hid hb; clear hb))
              go_roundw
              case rel => exact ⟨q + 1, qDz (er x) r, by omega, by go_num, rfl, by omega, hle.2, Lib.hid (by rw [HR.out, HST.out]), HBW.out.trans (HBX.out.mono HBW.out.size)⟩
              case measure => simp [intOf]; omega
            · (have hnl : (65536 - r : Int) < 0 := by omega); have HFIN := Lib.hid (show qDz (er j) n = r by rw [HK.out, HR.out, qEB _ hrn])
              go_wp2_with (first
                | ((with_reducible refine qAR ?_); refine qAX rfl 52 (.tmp 35) rfl _ _ rfl (qBB (nm, x)) _ FC Tryz.underlying52 rfl qAV ?_)
                | ((with_reducible refine qAG ?_); refine qAO 8 rfl rfl 52 rfl rfl (.tmp 36) rfl _ qCh (qBB (nm, x)) rfl rfl qAV rfl (qAw _) ?_; intro w5 hw; have hb := qAD hw; have B6 := (qAC hw).1; replace HB := zT HB hb; replace HJ := HJ.below hb; (try replace HX := HX.below hb); replace HBW := Lib.hid (HBW.out.trans (hb.mono HBW.out.size)); clear hb hw; have RV : w5.rangeAt _ 1 x.cells.toList := qBE B6)
                | ((with_reducible refine qAR ?_); refine qAX rfl 25 (.tmp 39) rfl _ _ rfl x.cells _ RV Tryz.underlying25 rfl qAA ?_))
              go_ret; exact ⟨qBD (by rw [HFIN.out]), HB⟩
          · (obtain rfl : q = j.v.Fn := by omega); (have hlt2 : ¬ ((j.v.Fn : Nat) : Int) < j.v.Fn := by omega); have HFIN := Lib.hid (show qDz (er j) n = r by rw [HK.out, HR.out, List.drop_eq_nil_of_le (by rw [qBj]; have := LV.out; omega)]; unfold qDs; rfl); go_wp2; go_ret; exact ⟨qBD (by rw [HFIN.out]), HB⟩
      · have HK : Hid (qDz (er j) n = n + 1) := Lib.hid (by rw [HC.out, if_neg hk4, if_neg hk5]); (have q4 : (j.v.kind == 4) = false := by simpa using hk4); (have q5 : (j.v.kind == 5) = false := by simpa using hk5); clear hk4 hk5; go_enter Tryz.func41, Tryz.ntmps41
        go_wp2_with (first
          | (refine qAM rfl 25 (.tmp 0) rfl _ rfl ?_; intro w1 hw; have hb := qAD hw; have B2 := (qAC hw).1; replace HB := zT HB hb; replace HJ := HJ.below hb; clear hb hw; have c2_0 : w1.cell? ⟨_, 0, none⟩ = some (.int .i64 j.v.kind) := (B2.cell 0).trans (by rfl); have c2_4 : w1.cell? ⟨_, 4, none⟩ = some (.slice j.v.LA j.v.Ln j.v.Lc) := B2.cell 4; have c2_5 : w1.cell? ⟨_, 5, none⟩ = some (.slice j.v.FA j.v.Fn j.v.Fc) := B2.cell 5))
        go_ret; exact ⟨qBD (by rw [HK.out, HUN.out]), HB⟩
theorem qDl {j : JV} {w : World} (HJ : qAi w j) : Calls Tryz.prog 41 #[.agg j.cells, .int .i64 65536] w (CtV j 0 w) := qQE _ j 0 w (Nat.lt_succ_self _) HJ (by omega) (by omega)
end
end Go.Proofs.YtnjhmnolngdfaaaGreatDoor
namespace Go.Proofs.YtnjhmnolngdfaaaGreatDoor
section
open Go.RowKit Go.PlainAid
mutual
theorem qGB {P : JT → Prop} (h : ∀ k b i t l ns vs, (∀ x ∈ l, P x) → (∀ x ∈ vs, P x) → P (.mk k b i t l ns vs)) : ∀ t, P t
  | .mk k b i t l ns vs => h k b i t l ns vs (qH8 h l) (qH8 h vs)
theorem qH8 {P : JT → Prop} (h : ∀ k b i t l ns vs, (∀ x ∈ l, P x) → (∀ x ∈ vs, P x) → P (.mk k b i t l ns vs)) : ∀ l : List JT, ∀ x ∈ l, P x
  | [], x, hx => nomatch hx
  | y :: r, x, hx => (List.mem_cons.1 hx).elim (fun e => e ▸ qGB h y) (fun hx => qH8 h r x hx)
end
mutual
def qBP : JT → JT
  | .mk k b i t l ns vs =>
    if k = 1 then .mk k b 0 ⟨#[]⟩ [] [] [] else if k = 2 then .mk k false i ⟨#[]⟩ [] [] [] else if k = 3 then .mk k false 0 t [] [] []
    else if k = 4 then .mk k false 0 ⟨#[]⟩ (qNt l) [] []
    else if k = 5 then .mk k false 0 ⟨#[]⟩ [] ((qIG (ns.zip (qNt vs))).map (·.1)) ((qIG (ns.zip (qNt vs))).map (·.2))
    else .mk k false 0 ⟨#[]⟩ [] [] []
def qNt : List JT → List JT
  | [] => []
  | x :: r => qBP x :: qNt r
end
mutual
def qQQ : JT → JT
  | .mk k b i t l ns vs => .mk k b i t (qPq l) ns.reverse (qPq vs).reverse
def qPq : List JT → List JT
  | [] => []
  | x :: r => qQQ x :: qPq r
end
mutual
def qMA : JT → Nat
  | .mk k b i t l ns vs => if k = 4 then 1 + qOm l else if k = 5 then 1 + qOm vs else 1
def qOm : List JT → Nat
  | [] => 0
  | x :: r => qMA x + qOm r
end
theorem qQK {α β γ : Type} {l : List α} {g : α → β} {f : β → γ} {k : α → γ} (h : ∀ x ∈ l, f (g x) = k x) : (l.map g).map f = l.map k := by
  rw [List.map_map]; exact List.map_congr_left h
theorem qGo : ∀ l : List JT, qNt l = l.map qBP
  | [] => by unfold qNt; rfl
  | x :: r => by unfold qNt; rw [qGo r]; rfl
theorem qGz : ∀ l : List JT, qOl l = l.map qFw
  | [] => by unfold qOl; rfl
  | x :: r => by unfold qOl; rw [qGz r]; rfl
theorem qDf {k : Int} {b : Bool} {i : Int} {t : ByteArray} {l : List JT} {ns : List ByteArray} {vs : List JT} (h1 : k ≠ 1) (h2 : k ≠ 2) (h3 : k ≠ 3) (h4 : k ≠ 4) (h5 : k ≠ 5) : qBP (.mk k b i t l ns vs) = .mk k false 0 ⟨#[]⟩ [] [] [] := by
  unfold qBP; rw [if_neg h1, if_neg h2, if_neg h3, if_neg h4, if_neg h5]
theorem qHw {b : Bool} {i : Int} {t : ByteArray} {l : List JT} {ns : List ByteArray} {vs : List JT} : qBP (.mk 1 b i t l ns vs) = .mk 1 b 0 ⟨#[]⟩ [] [] [] := by
  unfold qBP; rw [if_pos rfl]
theorem qH0 {b : Bool} {i : Int} {t : ByteArray} {l : List JT} {ns : List ByteArray} {vs : List JT} : qBP (.mk 2 b i t l ns vs) = .mk 2 false i ⟨#[]⟩ [] [] [] := by
  unfold qBP; rw [if_neg (by decide), if_pos rfl]
theorem qIB {b : Bool} {i : Int} {t : ByteArray} {l : List JT} {ns : List ByteArray} {vs : List JT} : qBP (.mk 3 b i t l ns vs) = .mk 3 false 0 t [] [] [] := by
  unfold qBP; rw [if_neg (by decide), if_neg (by decide), if_pos rfl]
theorem qHy {b : Bool} {i : Int} {t : ByteArray} {l : List JT} {ns : List ByteArray} {vs : List JT} : qBP (.mk 4 b i t l ns vs) = .mk 4 false 0 ⟨#[]⟩ (l.map qBP) [] [] := by
  unfold qBP; rw [if_neg (by decide), if_neg (by decide), if_neg (by decide), if_pos rfl, qGo]
def qJ7 (ns : List ByteArray) (vs : List JT) : List (ByteArray × JT) := qIG (ns.zip (vs.map qBP))
theorem qIT {b : Bool} {i : Int} {t : ByteArray} {l : List JT} {ns : List ByteArray} {vs : List JT} : qBP (.mk 5 b i t l ns vs) = .mk 5 false 0 ⟨#[]⟩ [] ((qJ7 ns vs).map (·.1)) ((qJ7 ns vs).map (·.2)) := by
  unfold qBP; rw [if_neg (by decide), if_neg (by decide), if_neg (by decide), if_neg (by decide), if_pos rfl, qGo]; rfl
theorem qE9 {k : Int} {b : Bool} {i : Int} {t : ByteArray} {l : List JT} {ns : List ByteArray} {vs : List JT} {d : Int} (h0 : k ≠ 0) (h1 : k ≠ 1) (h2 : k ≠ 2) (h3 : k ≠ 3) (h4 : k ≠ 4) (h5 : k ≠ 5) : qBc (.mk k b i t l ns vs) d = false := by
  unfold qBc; rw [if_neg (fun e => e.elim h0 h1), if_neg h2, if_neg h3, if_neg h4, if_neg h5]
theorem qMm {b : Bool} {i : Int} {t : ByteArray} {l : List JT} {ns : List ByteArray} {vs : List JT} {d : Int} : qBc (.mk 0 b i t l ns vs) d = true := by
  unfold qBc; rw [if_pos (by decide)]
theorem qN0 {b : Bool} {i : Int} {t : ByteArray} {l : List JT} {ns : List ByteArray} {vs : List JT} {d : Int} : qBc (.mk 1 b i t l ns vs) d = true := by
  unfold qBc; rw [if_pos (by decide)]
theorem qMr {b : Bool} {i : Int} {t : ByteArray} {l : List JT} {ns : List ByteArray} {vs : List JT} {d : Int} : qBc (.mk 2 b i t l ns vs) d = (decide (i ≤ 9007199254740991) && decide (-9007199254740991 ≤ i)) := by
  unfold qBc; rw [if_neg (by decide), if_pos rfl]
theorem qMF {b : Bool} {i : Int} {t : ByteArray} {l : List JT} {ns : List ByteArray} {vs : List JT} {d : Int} : qBc (.mk 3 b i t l ns vs) d = decide (qCk t < 0) := by
  unfold qBc; rw [if_neg (by decide), if_neg (by decide), if_pos rfl]
theorem qHv {b : Bool} {i : Int} {t : ByteArray} {l : List JT} {ns : List ByteArray} {vs : List JT} {d : Int} : qBc (.mk 4 b i t l ns vs) d = (qLx l (qEm d) && decide (0 < d)) := by
  unfold qBc; rw [if_neg (by decide), if_neg (by decide), if_neg (by decide), if_pos rfl]
theorem qIX {b : Bool} {i : Int} {t : ByteArray} {l : List JT} {ns : List ByteArray} {vs : List JT} {d : Int} : qBc (.mk 5 b i t l ns vs) d = (qKn [] ns vs (qEm d) && decide (0 < d)) := by
  unfold qBc; rw [if_neg (by decide), if_neg (by decide), if_neg (by decide), if_neg (by decide), if_pos rfl]
theorem toList_inj {a b : ByteArray} (h : a.toList = b.toList) : a = b := by
  rw [qBN, qBN] at h; exact ByteArray.ext (Array.toList_inj.1 h)
theorem qJQ (l : List ByteArray) (nm : ByteArray) : qCP l nm = true ↔ nm ∈ l := by
  unfold qCP; rw [List.any_eq_true]; constructor
  · rintro ⟨m, hm, e⟩; rw [beq_iff_eq] at e; rw [← toList_inj e]; exact hm
  · intro h; exact ⟨nm, h, by simp⟩
theorem qC0 : ∀ (l : List JT) (d : Int), qLx l d = true ↔ ∀ x ∈ l, qBc x d = true
  | [], d => by unfold qLx; simp
  | x :: r, d => by unfold qLx; rw [Bool.and_eq_true, qC0 r d]; simp
theorem qCe : ∀ (seen ns : List ByteArray) (vs : List JT) (d : Int), ns.length = vs.length → (qKn seen ns vs d = true ↔ (∀ n ∈ ns, qCk n < 0 ∧ n ∉ seen) ∧ (∀ x ∈ vs, qBc x d = true) ∧ ns.Pairwise fun a b => a ≠ b)
 | seen, [], [], d, _ => by unfold qKn; simp
 | seen, [], _ :: _, d, h => by simp at h
 | seen, _ :: _, [], d, h => by simp at h
 | seen, n :: ns, x :: vs, d, h => by
  unfold qKn; rw [Bool.and_eq_true, Bool.and_eq_true, Bool.and_eq_true, qCe (seen ++ [n]) ns vs d (by simpa using h), decide_eq_true_eq, Bool.not_eq_true']; (have hh : qCP seen n = false ↔ n ∉ seen := by rw [← qJQ seen n]; simp); rw [hh, List.pairwise_cons]; constructor
  ·rintro ⟨⟨h1, h2⟩, h3, h4, h5, h6⟩; refine ⟨fun m hm => ?_, fun y hy => ?_, fun m hm e => ?_, h6⟩
   ·rcases List.mem_cons.1 hm with rfl | hm
    ·exact ⟨h1, h3⟩
    ·exact ⟨(h4 m hm).1, fun e => (h4 m hm).2 (by simp [e])⟩
   ·rcases List.mem_cons.1 hy with rfl | hy
    ·exact h2
    ·exact h5 y hy
   ·exact (h4 m hm).2 (by simp [e])
  ·rintro ⟨h1, h2, h3, h4⟩; refine ⟨⟨(h1 n (by simp)).1, h2 x (by simp)⟩, (h1 n (by simp)).2, fun m hm => ⟨(h1 m (by simp [hm])).1, fun e => ?_⟩, fun y hy => h2 y (by simp [hy]), h4⟩; rcases List.mem_append.1 e with e | e
   ·exact (h1 m (by simp [hm])).2 e
   ·(have e2 : m = n := by simpa using e); exact h3 m hm e2.symm
theorem qHh {b : Bool} {k i : Int} {t : ByteArray} {l : List JT} {ns : List ByteArray} {vs : List JT} : qHM (.mk k b i t l ns vs) ↔ (∀ x ∈ l, qHM x) ∧ ns.length = vs.length ∧ ∀ x ∈ vs, qHM x := by
  have key : ∀ l : List JT, qMe l ↔ ∀ x ∈ l, qHM x := by
    intro l
    induction l with
    | nil => unfold qMe; simp
    | cons x r ih => unfold qMe; rw [ih]; simp
  conv => lhs; unfold qHM
  rw [key, key]
theorem qN3 {α : Type} {ns : List ByteArray} {vs : List α} (h : ns.length = vs.length) : (ns.zip vs).map (·.1) = ns := List.map_fst_zip (by omega)
theorem qNp {α : Type} {ns : List ByteArray} {vs : List α} (h : ns.length = vs.length) : (ns.zip vs).map (·.2) = vs := List.map_snd_zip (by omega)
theorem qL3 {α : Type} (L : List (ByteArray × α)) : (qIG L).Perm L := by
  have key : ∀ (M L : List (ByteArray × α)), (M.foldl qFs L).Perm (L ++ M) := by
    intro M
    induction M with
    | nil => intro L; simp
    | cons f M ih => intro L; exact (ih (qFs L f)).trans (((qCS L f).append_right M).trans (by rw [List.cons_append]; exact List.perm_middle.symm))
  have := key L []; rw [List.nil_append] at this; exact this
theorem qHT (ns : List ByteArray) (vs : List JT) : (qJ7 ns vs).Perm (ns.zip (vs.map qBP)) := qL3 _
theorem qEC {ns : List ByteArray} {vs : List JT} (h : ns.length = vs.length) : ((qJ7 ns vs).map (·.2)).Perm (vs.map qBP) := by
  have := (qHT ns vs).map (·.2)
  rwa [qNp (by simpa using h)] at this
theorem qEY {ns : List ByteArray} {vs : List JT} (h : ns.length = vs.length) : ((qJ7 ns vs).map (·.1)).Perm ns := by
  have := (qHT ns vs).map (·.1)
  rwa [qN3 (by simpa using h)] at this
theorem qDb (k : Int) : k = 0 ∨ k = 1 ∨ k = 2 ∨ k = 3 ∨ k = 4 ∨ k = 5 ∨ (k ≠ 0 ∧ k ≠ 1 ∧ k ≠ 2 ∧ k ≠ 3 ∧ k ≠ 4 ∧ k ≠ 5) := by omega
theorem qJ1 {b : Bool} {i : Int} {t : ByteArray} {l : List JT} {ns : List ByteArray} {vs : List JT} : qBP (.mk 0 b i t l ns vs) = .mk 0 false 0 ⟨#[]⟩ [] [] [] := qDf (by decide) (by decide) (by decide) (by decide) (by decide)
theorem qNY {ns : List ByteArray} {M : List ByteArray} (hp : M.Perm ns) : (M.Pairwise fun a b => a ≠ b) ↔ ns.Pairwise fun a b => a ≠ b := hp.pairwise_iff fun h e => h e.symm
theorem qH1 : ∀ (t : JT) (d : Int), qHM t → qBc t d = true → qBc (qBP t) d = true := fun t => by
  induction t using qGB with
  | h k b i t l ns vs ih1 ih2 =>
    intro d hl hs; obtain ⟨g1, g2, g3⟩ := qHh.1 hl; rcases qDb k with rfl | rfl | rfl | rfl | rfl | rfl | ⟨k0, k1, k2, k3, k4, k5⟩
    · rw [qJ1]; exact qMm
    · rw [qHw]; exact qN0
    · rw [qH0, qMr]; rwa [qMr] at hs
    · rw [qIB, qMF]; rwa [qMF] at hs
    · rw [qHy, qHv, Bool.and_eq_true, qC0]; rw [qHv, Bool.and_eq_true, qC0] at hs; refine ⟨fun x hx => ?_, hs.2⟩; obtain ⟨y, hy, rfl⟩ := List.mem_map.1 hx; exact ih1 y hy _ (g1 y hy) (hs.1 y hy)
    · rw [qIT, qIX, Bool.and_eq_true, qCe _ _ _ _ (by simp)]; rw [qIX, Bool.and_eq_true, qCe _ _ _ _ g2] at hs; refine ⟨⟨fun n hn => ⟨(hs.1.1 n ((qEY g2).mem_iff.1 hn)).1, by simp⟩, fun x hx => ?_, (qNY (qEY g2)).2 hs.1.2.2⟩, hs.2⟩; obtain ⟨y, hy, rfl⟩ := List.mem_map.1 ((qEC g2).mem_iff.1 hx); exact ih2 y hy _ (g3 y hy) (hs.1.2.1 y hy)
    · rw [qE9 k0 k1 k2 k3 k4 k5] at hs; cases hs
theorem qOY : ∀ t : JT, qHM t → qHM (qBP t) := fun t => by
  induction t using qGB with
  | h k b i t l ns vs ih1 ih2 =>
    intro hl; obtain ⟨g1, g2, g3⟩ := qHh.1 hl; (have z : ∀ (k : Int) (b : Bool) (i : Int) (t : ByteArray), qHM (.mk k b i t [] [] []) := fun k b i t => qHh.2 ⟨by simp, rfl, by simp⟩); rcases qDb k with rfl | rfl | rfl | rfl | rfl | rfl | ⟨k0, k1, k2, k3, k4, k5⟩
    · rw [qJ1]; exact z _ _ _ _
    · rw [qHw]; exact z _ _ _ _
    · rw [qH0]; exact z _ _ _ _
    · rw [qIB]; exact z _ _ _ _
    · rw [qHy]; refine qHh.2 ⟨fun x hx => ?_, rfl, by simp⟩; obtain ⟨y, hy, rfl⟩ := List.mem_map.1 hx; exact ih1 y hy (g1 y hy)
    · rw [qIT]; refine qHh.2 ⟨by simp, by simp, fun x hx => ?_⟩; obtain ⟨y, hy, rfl⟩ := List.mem_map.1 ((qEC g2).mem_iff.1 hx); exact ih2 y hy (g3 y hy)
    · rw [qDf k1 k2 k3 k4 k5]; exact z _ _ _ _
theorem qPB {b : Bool} {i : Int} {t : ByteArray} {l : List JT} {ns : List ByteArray} {vs : List JT} : qFw (.mk 4 b i t l ns vs) = .mk 4 false 0 ⟨#[]⟩ (l.map qFw) [] [] := by
  unfold qFw; rw [if_neg (by decide), if_neg (by decide), if_neg (by decide), if_pos rfl, qGz]
theorem qPD {b : Bool} {i : Int} {t : ByteArray} {l : List JT} {ns : List ByteArray} {vs : List JT} : qFw (.mk 5 b i t l ns vs) = .mk 5 false 0 ⟨#[]⟩ [] ns (vs.map qFw) := by
  unfold qFw; rw [if_neg (by decide), if_neg (by decide), if_neg (by decide), if_neg (by decide), if_pos rfl, qGz]
theorem qO1 {b : Bool} {i : Int} {t : ByteArray} {l : List JT} {ns : List ByteArray} {vs : List JT} : qFw (.mk 1 b i t l ns vs) = .mk 1 b 0 ⟨#[]⟩ [] [] [] := by unfold qFw; rw [if_pos rfl]
theorem qPm {b : Bool} {i : Int} {t : ByteArray} {l : List JT} {ns : List ByteArray} {vs : List JT} : qFw (.mk 2 b i t l ns vs) = .mk 2 false i ⟨#[]⟩ [] [] [] := by unfold qFw; rw [if_neg (by decide), if_pos rfl]
theorem qPW {b : Bool} {i : Int} {t : ByteArray} {l : List JT} {ns : List ByteArray} {vs : List JT} : qFw (.mk 3 b i t l ns vs) = .mk 3 false 0 t [] [] [] := by unfold qFw; rw [if_neg (by decide), if_neg (by decide), if_pos rfl]
theorem qGw {k : Int} {b : Bool} {i : Int} {t : ByteArray} {l : List JT} {ns : List ByteArray} {vs : List JT} (h1 : k ≠ 1) (h2 : k ≠ 2) (h3 : k ≠ 3) (h4 : k ≠ 4) (h5 : k ≠ 5) : qFw (.mk k b i t l ns vs) = .mk k false 0 ⟨#[]⟩ [] [] [] := by
  unfold qFw; rw [if_neg h1, if_neg h2, if_neg h3, if_neg h4, if_neg h5]
theorem qJT {l : List JT} {f : JT → JT} (h : ∀ x ∈ l, f x = x) : l.map f = l := by
  conv => rhs; rw [← List.map_id l]
  exact List.map_congr_left h
theorem qNs : ∀ t : JT, qHM t → qFw (qBP t) = qBP t := fun t => by
 induction t using qGB with
 | h k b i t l ns vs ih1 ih2 =>
  intro hl; obtain ⟨g1, g2, g3⟩ := qHh.1 hl; rcases qDb k with rfl | rfl | rfl | rfl | rfl | rfl | ⟨k0, k1, k2, k3, k4, k5⟩
  ·rw [qJ1, qGw (by decide) (by decide) (by decide) (by decide) (by decide)]
  ·rw [qHw, qO1]
  ·rw [qH0, qPm]
  ·rw [qIB, qPW]
  ·rw [qHy, qPB, qJT (fun x hx => by
    obtain ⟨y, hy, rfl⟩ := List.mem_map.1 hx
    exact ih1 y hy (g1 y hy))]
  ·rw [qIT, qPD, qJT (fun x hx => by
    obtain ⟨y, hy, rfl⟩ := List.mem_map.1 ((qEC g2).mem_iff.1 hx)
    exact ih2 y hy (g3 y hy))]
  ·rw [qDf k1 k2 k3 k4 k5, qGw k1 k2 k3 k4 k5]
theorem qFa : ∀ l : List JT, SzL l = (l.map SzT).sum
  | [] => by unfold SzL; rfl
  | x :: r => by unfold SzL; rw [qFa r]; rfl
theorem qIA : ∀ l : List ByteArray, SzN l = (l.map fun n => n.size + 1).sum
  | [] => by unfold SzN; rfl
  | x :: r => by unfold SzN; rw [qIA r]; rfl
theorem qM7 {α : Type} {l : List α} {f g : α → Nat} (h : ∀ x ∈ l, f x ≤ g x) : (l.map f).sum ≤ (l.map g).sum := by
  induction l with
  | nil => exact Nat.le_refl _
  | cons x r ih =>
    rw [List.map_cons, List.map_cons, List.sum_cons, List.sum_cons]; have := h x (by simp); (have := ih fun y hy => h y (by simp [hy])); omega
theorem qJA {l m : List Nat} (h : l.Perm m) : l.sum = m.sum := by
  induction h with
  | nil => rfl
  | cons x _ ih => rw [List.sum_cons, List.sum_cons, ih]
  | swap x y l => rw [List.sum_cons, List.sum_cons, List.sum_cons, List.sum_cons]; omega
  | trans _ _ a b => exact a.trans b
mutual
theorem qLT : ∀ (t : JT) (n : Nat), n ≤ 65536 → qDz t n = ((min (n + qMA t) 65537 : Nat) : Int)
 | .mk k b i t l ns vs, n, h => by
  unfold qDz qMA; have e : (n : Int) + 1 = ((n + 1 : Nat) : Int) := by omega
  split
  ·rw [e, qGL l (n + 1) (by omega)]
   congr 2
   omega
  ·split
   ·rw [e, qGL vs (n + 1) (by omega)]
    congr 2
    omega
   ·omega
theorem qGL : ∀ (l : List JT) (n : Nat), n ≤ 65537 → qDs l n = ((min (n + qOm l) 65537 : Nat) : Int)
  | [], n, h => by unfold qDs qOm; omega
  | x :: r, n, h => by
    rw [qD8]
    conv => rhs; unfold qOm
    have hp : 1 ≤ qMA x := by
      obtain ⟨k, b, i, t, l, ns, vs⟩ := x; unfold qMA
      repeat' split
      all_goals omega
    split
    · rename_i h1; rw [qLT x n (by omega), qGL r _ (by omega)]; omega
    · omega
end
theorem qIv (t : JT) : qDz t 0 ≤ 65536 ↔ qMA t ≤ 65536 := by
  have := qLT t 0 (by omega); rw [show ((0 : Nat) : Int) = 0 from rfl] at this; rw [this]; omega
theorem qNO : ∀ t : JT, qHM t → SzT (qBP t) ≤ SzT t := fun t => by
 induction t using qGB with
 | h k b i t l ns vs ih1 ih2 =>
  intro hl; obtain ⟨g1, g2, g3⟩ := qHh.1 hl; (have z : ∀ (k : Int) (b : Bool) (i : Int) (t : ByteArray), SzT (.mk k b i t [] [] []) = 1 + t.size := fun k b i t => by simp [SzT, SzL, SzN]); have e0 : (⟨#[]⟩ : ByteArray).size = 0 := rfl; have z1 : SzL [] = 0 := rfl; have z2 : SzN [] = 0 := rfl; rcases qDb k with rfl | rfl | rfl | rfl | rfl | rfl | ⟨k0, k1, k2, k3, k4, k5⟩
  ·rw [qJ1, z, qDr]; omega
  ·rw [qHw, z, qDr]; omega
  ·rw [qH0, z, qDr]; omega
  ·rw [qIB, z, qDr]; omega
  ·have h1 : SzL (l.map qBP) ≤ SzL l := by
    rw [qFa, qFa, qQK (k := fun x => SzT (qBP x)) (fun _ _ => rfl)]; exact qM7 fun x hx => ih1 x hx (g1 x hx)
   rw [qHy, qDr, qDr]; omega
  ·have h1 : SzL ((qJ7 ns vs).map (·.2)) ≤ SzL vs := by
    rw [qFa, qFa, qJA ((qEC g2).map SzT), qQK (k := fun x => SzT (qBP x)) (fun _ _ => rfl)]; exact qM7 fun x hx => ih2 x hx (g3 x hx)
   have h2 : SzN ((qJ7 ns vs).map (·.1)) = SzN ns := by
    rw [qIA, qIA]; exact qJA ((qEY g2).map fun n => n.size + 1)
   rw [qIT, qDr, qDr]; omega
  ·rw [qDf k1 k2 k3 k4 k5, z, qDr]; omega
def qBz (t : JT) : Int × List UInt8 :=
  if 65536 < qMA t then (2, []) else if qBc t 32 = true then (if 65536 < (pr [] (qBP t)).length then (2, []) else (0, pr [] (qBP t))) else (8, [])
theorem qKO {t : JT} (hs : qBc t 32 = true) (hl : qHM t) : (pr [] (qBP t)).length ≤ 60 * SzT t := by
  have h1 := qIl (G := []) (by simp) (qBP t) 32 (qH1 t 32 hl hs); have h2 := qNO t hl; omega
end
end Go.Proofs.YtnjhmnolngdfaaaGreatDoor
namespace Go.Proofs.YtnjhmnolngdfaaaGreatDoor
section
open Go.RowKit Go.PlainAid
theorem qEv {s : ByteArray} {w : World} (hG : Gl w w.heap.size) (hs : s.size ≤ 140737488355328) : Calls Tryz.prog 64 #[.string s] w fun e w' => e = .returned (.int .i64 (qCk s)) ∧ Below w.heap.size w w' := by
 go_enter Tryz.func64, Tryz.ntmps64; go_wp2
 go_loopw [] (fun wr => ∃ (pos n : Nat), wr.heap[w.heap.size]? = some (.stringIter s pos) ∧ Below w.heap.size w wr ∧ pos ≤ s.size ∧ s.size ≤ pos + n ∧ Hid (qBv s n pos = qCk s)) (fun wr => s.size - wr.iterPos w.heap.size)
 case atStart =>
  refine ⟨0, s.size, ?_, (Below.refl _ w).alloc (Nat.le_refl _) _, Nat.zero_le _, by omega, Lib.hid rfl⟩; have := World.iter_heap w s 0
  simpa using this
 case round =>
  obtain ⟨pos, n, hit, HB, hps, hpn, HS⟩ := hrel; have hsz : w.heap.size < wr.heap.size := (Array.getElem?_eq_some_iff.1 hit).1; have hpos : wr.iterPos w.heap.size = pos := by simp [World.iterPos, hit]
  by_cases hp : pos < s.size
  ·(have hnx : ∀ ty, (Instr.next (.pointer (some ⟨w.heap.size, 0, none⟩)) true ty).run Tryz.prog wr = _ := fun ty => Lib.run_next_any_at wr w.heap.size s pos ty hit hp); have hdb := qB8 s pos hp; have hd1 := decode_le s pos; have hit2 := Lib.iterAt_heap wr w.heap.size s pos (pos + (Utf8.decode s pos).2) hit; have HB2 := Lib.below_iterAt HB (k := w.heap.size) (Nat.le_refl _) s (pos + (Utf8.decode s pos).2); obtain ⟨f, rfl⟩ : ∃ f, n = f + 1 := ⟨n - 1, by omega⟩; (have hA : 0 ≤ (pos : Int) ∧ (pos : Int) ≤ (s.size : Int) := by omega); have hA1 : (pos : Int) ≤ (s.size : Int) := hA.2; (have HKB : Hid (qDq s pos → qCk s = pos) := Lib.hid fun hh => HS.out.symm.trans (qKk hp hh)); (have HKG : Hid (¬ qDq s pos → qBv s f (pos + (Utf8.decode s pos).2) = qCk s) := Lib.hid fun hh => (qOL hp hh).symm.trans HS.out); have hgd := qFk s pos hp; unfold qDq at HKB HKG; generalize hD1 : (Utf8.decode s pos).1 = D1 at *; generalize hD2 : (Utf8.decode s pos).2 = D2 at *; have HD1 := Lib.hid hD1; have HD2 := Lib.hid hD2; have HGD := Lib.hid hgd; have HPO := Lib.hid hpos; clear hD1 hD2 hgd hpos; generalize hW2 : wr.iterAt w.heap.size s (pos + D2) = w2 at *; have hG2 := (Gl.below HB2 hG).tabs; clear hW2
   by_cases h65 : D1 = 65533
   ·subst h65
    by_cases hw1 : D2 ≤ 1
    ·have HF := Lib.hid (HKB.out ⟨rfl, hw1⟩); have hwI : ((D2 : Int) ≤ 1) := by omega
     go_wp2_with (go_at_call 83; (with_reducible refine (Tryz.utf8_DecodeRuneInString _ _ hG2).mono ?_); rw [HGD.out, HD1.out, HD2.out]; rintro e w9 ⟨rfl, hb3⟩)
     go_ret; exact ⟨qBD (by rw [HF.out]), zT HB2 hb3⟩
    ·(have hwI : ¬ ((D2 : Int) ≤ 1) := by omega); have HF := Lib.hid (HKG.out (fun e => hw1 e.2))
     go_wp2_with (go_at_call 83; (with_reducible refine (Tryz.utf8_DecodeRuneInString _ _ hG2).mono ?_); rw [HGD.out, HD1.out, HD2.out]; rintro e w9 ⟨rfl, hb3⟩; have hit3 := (hb3.block _ (Array.getElem?_eq_some_iff.1 hit2).1).trans hit2; have HB3 := zT HB2 hb3)
     go_roundw
     case rel => exact ⟨pos + D2, f, hit3, HB3, by omega, by omega, HF⟩
     case measure =>
      simp only [World.iterPos, hit3]; have := HPO.out; simp only [World.iterPos] at this; omega
   ·(have h65I : ((D1 : Int) == 65533) = false := by simp; omega); have HF := Lib.hid (HKG.out (fun e => h65 e.1)); go_wp2; go_roundw
    case rel => exact ⟨pos + D2, f, hit2, HB2, by omega, by omega, HF⟩
    case measure =>
     simp only [World.iterPos, hit2]; have := HPO.out; simp only [World.iterPos] at this; omega
  ·(have hnx : ∀ ty, (Instr.next (.pointer (some ⟨w.heap.size, 0, none⟩)) true ty).run Tryz.prog wr = _ := fun ty => Lib.run_next_end_at wr w.heap.size s pos ty hit hp); have HF := Lib.hid (HS.out.symm.trans (qNN hp)); go_wp2; go_ret; exact ⟨qBD (by rw [HF.out]), HB⟩
end
end Go.Proofs.YtnjhmnolngdfaaaGreatDoor
namespace Go.Proofs.YtnjhmnolngdfaaaGreatDoor
section
open Go.RowKit
structure QL (P : Program) (ops : Array Oper) (C : World → Prop) (Q : Act → Prop) (l : List Oper) (a : Act) : Prop where
  out : wpQuiet P ops C Q l a
theorem QL.step {P : Program} {ops : Array Oper} {C : World → Prop} {Q : Act → Prop} {o : Oper} {rest : List Oper} {a : Act}
    (h : ∀ K : Act → Prop, (∀ a, QL P ops C Q rest a → K a) → if Region.wanted o (yielded ops a.tmps) then o.quiet P a C K else K (a.put o.dst undef)) : QL P ops C Q (o :: rest) a :=
  ⟨wpQuiet_step fun K hK => h K (fun a hh => hK a hh.out)⟩
theorem QL.nil {P : Program} {ops : Array Oper} {C : World → Prop} {Q : Act → Prop} {a : Act} (h : Q a) : QL P ops C Q [] a := ⟨wpQuiet_nil h⟩
theorem qCJ {P : Program} {id : Nat} {Q : Exit → Act → World → Prop} {a : Act} {w : World} {l : List Oper} (hm : P.follows .mixedOrders = true) (hB : Region.lexB .any l.toArray = true)
    (h : QL P l.toArray (fun w' => ∃ n, w' = w.drewN n) (fun a' => ∀ w', (∃ n, w' = w.drewN n) → Q .normal a' w') l a) : (Code.region id l.toArray true).wp P Q a w := wp_region_quiet_lit hm hB h.out
end
end Go.Proofs.YtnjhmnolngdfaaaGreatDoor
namespace Go.Proofs.YtnjhmnolngdfaaaGreatDoor
section
open Go.RowKit Go.PlainAid
theorem glN {w w' : World} (hb : Below w.heap.size w w') (h : Gl w w.heap.size) : Gl w' w'.heap.size := by
  have h2 := Gl.below hb h; have := hb.size; exact ⟨h2.syn, h2.rng, h2.tabs, Nat.lt_of_lt_of_le h2.n1 this, Nat.lt_of_lt_of_le h2.n2 this, Nat.lt_of_lt_of_le h2.n3 this, Nat.lt_of_lt_of_le h2.n4 this⟩
structure NK (base : Nat) (E : TypeId) (size : Nat) (v : Value) (n : Nat) (xs : List Value) (acc : List JV) (w : World) : Prop where
  own : w.ownsRow base E size v n xs
  els : ∀ y ∈ acc, qAi w y ∧ Off (fun q => q < base ∨ v.ownBlock = some q) y
  st : base ≤ w.heap.size
section
variable {base : Nat} {E : TypeId} {size : Nat} {v : Value} {n : Nat} {xs : List Value} {acc : List JV} {w w' : World}
theorem NK.start (hb : base ≤ w.heap.size) : NK base E size (.slice none 0 0) 0 [] [] w := ⟨⟨by simp, .inl ⟨rfl, rfl⟩⟩, fun _ hy => (nomatch hy), hb⟩
theorem NK.bes (h : NK base E size v n xs acc w) {X : Nat → Prop} (hb : Bes X w w') (hX : ∀ q, X q → q < base) : NK base E size v n xs acc w' :=
  ⟨hb.own h.own (fun k hk hx => by have := (qAh h.own hk).1; have := hX k hx; omega), fun y hy => ⟨qAi.bes hb (h.els y hy).1 (Off.mono (fun q e => Or.inl (hX q e)) (h.els y hy).2), (h.els y hy).2⟩, Nat.le_trans h.st hb.size⟩
theorem NK.below (h : NK base E size v n xs acc w) (hb : Below w.heap.size w w') : NK base E size v n xs acc w' := h.bes (Bes.of_below (X := fun _ => False) hb) (fun _ e => e.elim)
theorem NK.more (h : NK base E size v n xs acc w) {v' : Value} {n' : Nat} {xs' : List Value} {j : JV} (ho : w'.ownsRow base E size v' n' xs') (hb : Bes (fun q => v.ownBlock = some q) w w') (hat : v'.ownBlock = v.ownBlock ∨ v'.ownBlock = some w.heap.size)
    (hj : qAi w j) (hoj : Off (fun q => q < base ∨ v.ownBlock = some q) j) : NK base E size v' n' xs' (acc ++ [j]) w' := by
  have h2 := h.st; refine ⟨ho, fun y hy => ?_, Nat.le_trans h2 hb.size⟩
  have key : ∀ y : JV, qAi w y → Off (fun q => q < base ∨ v.ownBlock = some q) y → qAi w' y ∧ Off (fun q => q < base ∨ v'.ownBlock = some q) y := fun y a b => by
    refine ⟨qAi.bes hb a (Off.mono (fun q e => Or.inr e) b), ?_⟩; refine Off.mono (fun q e => ?_) (Off.or b (qCD a)); rcases e with e | e
    · exact .inl (.inl e)
    · rcases hat with h3 | h3
      · exact .inl (.inr (h3 ▸ e))
      · rw [h3] at e; have e2 := Option.some.inj e; exact .inr (by show w.heap.size ≤ q; omega)
  rcases List.mem_append.1 hy with hy | hy
  · exact key y (h.els y hy).1 (h.els y hy).2
  · (obtain rfl : y = j := by simpa using hy); exact key y hj hoj
theorem NK.new (h : NK base E size v n xs acc w) {x : JV} (ho : Off (fun q => q < w.heap.size) x) : Off (fun q => q < base ∨ v.ownBlock = some q) x :=
  Off.mono (fun q e => e.elim (fun e => Nat.lt_of_lt_of_le e h.st) (fun e => (qAh h.own e).2)) ho
end
theorem qEH {P : Program} {ops : Array Oper} {rest : List Oper} {o : Oper} {a : Act} {w : World} {Q : Exit → Act → World → Prop} (hgd : o.guard = none) (s x : Operand) (t : TypeId)
    (ho : o.op = .call { callee := .builtin .append, args := #[s, x], argTypes := #[t, t] })
    (base : Nat) (e : TypeId) (i : TypeInfo) (z : Value) (size bytes : Nat) (ht : P.underlying t = some (.slice e)) (hi : P.info? e = some i) (hz : i.zero = some z)
    (hsize : i.size = size) (hby : i.bytes = bytes) (hzs : z.cells.size = size) (hsz : 0 < size)
    (v : Value) (n : Nat) (xs : List Value) (acc : List JV) (j : JV) (hs : a.eval s = v) (hk : NK base e size v n xs acc w)
    (g c : Nat) (cells : Array Value) (ty : TypeId) (IB : qAW w g ty cells) (hcs : cells.size = size) (hx : a.eval x = .slice (some ⟨g, 0, none⟩) 1 c) (h1 : cells.all (·.oneCell') = true)
    (hj : qAi w j) (hoj : Off (fun q => q < base ∨ v.ownBlock = some q) j) (h63 : n + 1 ≤ maxLen) (hbytes : (n + 1) * bytes ≤ 140737488355328)
    (h : ∀ v' w', NK base e size v' (n + 1) (xs ++ cells.toList) (acc ++ [j]) w' → Below base w w' → wpList P ops Q rest (a.put o.dst v') w') : wpList P ops Q (o :: rest) a w := by
  refine wpList_append_own_at w hgd s x t ho base e i z size bytes ht hi hz hsize hby hzs hsz v n xs hs hk.own ⟨g, 0, none⟩ 1 c cells.toList hx (by simp [hcs]) ?_ ?_ h63 hbytes hk.st ?_
  · intro j u hu; (have hadd : (⟨g, 0, none⟩ : Addr).add j = ⟨g, j, none⟩ := by unfold Addr.add; split <;> simp_all); rw [hadd, IB.cell]
    simpa using hu
  · intro u hu; have := Array.all_eq_true_iff_forall_mem.1 h1 u (by simpa using hu); exact this
  · intro v' w' h2 h3 _ h5; have hb := Bes.grown (X := fun q => v.ownBlock = some q) h3 (fun _ e => e); exact h v' w' (hk.more h2 hb h5 hj hoj) (hb.below (fun k e => (qAh hk.own e).1) hk.st)
def lfJ (k : Int) (b : Bool) (i : Int) (t : ByteArray) : JV := .mk ⟨k, b, i, t, none, 0, 0, none, 0, 0⟩ [] [] []
def LC (v : Value) : Array Value := #[.int .i64 4, .bool false, .int .i64 0, .string ⟨#[]⟩, v, .slice none 0 0]
def VC (v : Value) : Array Value := #[.int .i64 5, .bool false, .int .i64 0, .string ⟨#[]⟩, .slice none 0 0, v]
theorem qPH (u v : Value) : (LC u).setIfInBounds 4 v = LC v := rfl
theorem qPF (u v : Value) : (VC u).setIfInBounds 5 v = VC v := rfl
theorem qP8 (v : Value) : 4 < (LC v).size := by show 4 < 6; decide
theorem qPv (v : Value) : 5 < (VC v).size := by show 5 < 6; decide
theorem qPk (A : Option Addr) (n c : Nat) : (LC (.slice A n c)).all (·.oneCell') = true := by simp [LC, Value.oneCell']
theorem qM5 (A : Option Addr) (n c : Nat) : (VC (.slice A n c)).all (·.oneCell') = true := by simp [VC, Value.oneCell']
theorem qKP {w : World} {base : Nat} {e : TypeId} {size : Nat} {v : Value} {n : Nat} {xs : List Value} (h : w.ownsRow base e size v n xs) : v.oneCell' = true := by
  rcases h.2 with ⟨hv, h0⟩ | ⟨g, cap, cur, hv, _⟩
  · rw [hv]; rfl
  · rw [hv]; rfl
theorem qBS (k : Int) (w : World) : (Instr.build 25 #[(0, .int .i64 k)]).run Tryz.prog w = .ok (.agg (lfJ k false 0 ⟨#[]⟩).cells) w := by kernel_rfl
theorem qBH (w : World) : (Instr.build 25 #[]).run Tryz.prog w = .ok (.agg JV.zero.cells) w := by kernel_rfl
theorem qKJ : (Tryz.prog.info? 4).map (·.size) = some 1 := by kernel_rfl
theorem qKe : (Tryz.prog.info? 2).map (·.size) = some 1 := by kernel_rfl
theorem qKV : (Tryz.prog.info? 9).map (·.size) = some 1 := by kernel_rfl
theorem qLs : (Tryz.prog.info? 22).map (·.size) = some 1 := by kernel_rfl
theorem qHC : (Tryz.prog.info? 23).map (·.size) = some 1 := by kernel_rfl
theorem qLX : (Tryz.prog.info? 25).map (fun i => (i.zero, i.size, i.bytes)) = some (some (.agg JV.zero.cells), 6, 88) := by kernel_rfl
theorem qFJ : ∃ ie z, Tryz.prog.info? 25 = some ie ∧ ie.zero = some z ∧ ie.size = 6 ∧ ie.bytes = 88 ∧ z = .agg JV.zero.cells := by
  have h := qLX
  cases hq : Tryz.prog.info? 25 with
  | none => rw [hq] at h; cases h
  | some ie =>
    rw [hq] at h; simp only [Option.map_some, Option.some.injEq, Prod.mk.injEq] at h; exact ⟨ie, _, rfl, h.1, h.2.1, h.2.2, rfl⟩
theorem qK6 (j : JV) : Instr.fill (fun i => some (i * 6, 6)) ((Array.range (1 * 6)).map ((Value.agg JV.zero.cells).cells[· % (Value.agg JV.zero.cells).cells.size]!)) [(0, .agg j.cells)] = some j.cells := by kernel_rfl
theorem qIF {w : World} {k : Int} {b : Bool} {i : Int} {t : ByteArray} (hk : I64 k) (hi : I64 i) (ht : t.size ≤ qAy) : qAi w (lfJ k b i t) := by
  unfold lfJ qAi; refine ⟨⟨hk, hi, ht, rfl, rfl, rfl, qPw, (by decide : 0 * 96 ≤ qAy), ?_⟩, ?_, ?_⟩
  · unfold qBA; exact True.intro
  · unfold qBf; exact True.intro
  · unfold qBf; exact True.intro
theorem qJ5 (k : Int) (b : Bool) (i : Int) (t : ByteArray) : er (lfJ k b i t) = .mk k b i t [] [] [] := by
  unfold lfJ er erL; rfl
theorem qJa (X : Nat → Prop) (k : Int) (b : Bool) (i : Int) (t : ByteArray) : Off X (lfJ k b i t) := by
  unfold lfJ Off qCd; exact ⟨fun h => absurd rfl h, fun h => absurd rfl h, True.intro, True.intro⟩
theorem qCV {w : World} {g : Nat} {t : TypeId} {nm : ByteArray} {x : JV} (h : qAW w g t (qBB (nm, x))) : w.cell? ⟨g, 0, none⟩ = some (.string nm) := by
  rw [qAW.cell h]; simp [qBB]
theorem qDO {w : World} {base : Nat} {A : Option Addr} {n c : Nat} {M : List (ByteArray × JV)} (h : w.ownsRow base 52 7 (.slice A n c) n (qCB M)) (hn : n = M.length) {q : Nat} (hq : q < n) :
    ∃ g p, A = some ⟨g, 0, none⟩ ∧ M[q]? = some p ∧ w.rangeAt g (q * 7) (qBB p).toList := by
  rcases h.2 with ⟨hv, h0⟩ | ⟨g, cap, cur, hv, hb, hg, hnc, hc, hsz, htake⟩
  · omega
  · injection hv with e1 e2 e3; subst e1; have hp : M[q]? = some M[q] := List.getElem?_eq_getElem (by omega); refine ⟨g, M[q], rfl, hp, fun i v hv => ?_⟩; have h1 := qEJ hp i v hv
    have h2 : q * 7 + i < n * 7 := by
      have := (List.getElem?_eq_some_iff.1 hv).1; have e : (qBB M[q]).toList.length = 7 := rfl; omega
    rw [← htake, List.getElem?_take, if_pos h2] at h1; have hI : qAW w g 52 cur := hg; rw [hI.cell]
    simpa using h1
theorem qHB {w : World} {base : Nat} {e : TypeId} {size : Nat} {v : Value} {n : Nat} {xs : List Value} (h : w.ownsRow base e size v n xs) : ∃ A c, v = .slice A n c := by
  rcases h.2 with ⟨hv, h0⟩ | ⟨g, cap, cur, hv, _⟩
  · exact ⟨none, 0, by rw [hv, h0]⟩
  · exact ⟨_, _, hv⟩
theorem qKW {j : JV} {L : List (ByteArray × JV)} {q : Nat} {nm : ByteArray} {x y : JV} (hn : j.ns[q]? = some nm) (hx : j.vs[q]? = some x) (h1 : L.map (·.1) = j.ns.take q) (h2 : (L.map (·.2)).map er = ((erL j.vs).take q).map qBP) (hy : er y = qBP (er x)) :
    (L ++ [(nm, y)]).map (·.1) = j.ns.take (q + 1) ∧ ((L ++ [(nm, y)]).map (·.2)).map er = ((erL j.vs).take (q + 1)).map qBP := by
  (have hx2 : (erL j.vs)[q]? = some (er x) := by rw [qBw, List.getElem?_map, hx]; rfl); refine ⟨?_, ?_⟩
  · rw [qBe hn, List.map_append, h1]; rfl
  · rw [qBe hx2, List.map_append, List.map_append, List.map_append, h2]; show _ ++ [er y] = _ ++ [qBP (er x)]; rw [hy]
theorem qLP {l : List JV} {acc : List JV} {q : Nat} {x y : JV} (hx : l[q]? = some x) (h : acc.map er = ((erL l).take q).map qBP) (hy : er y = qBP (er x)) : (acc ++ [y]).map er = ((erL l).take (q + 1)).map qBP := by
  (have hx2 : (erL l)[q]? = some (er x) := by rw [qBw, List.getElem?_map, hx]; rfl); rw [qBe hx2, List.map_append, List.map_append, h]; show _ ++ [er y] = _ ++ [qBP (er x)]; rw [hy]
theorem qEp {l : List JV} {q : Nat} {x : JV} {p : JT → Prop} (hx : l[q]? = some x) (h : ∀ y ∈ (erL l).take q, p y) (hp : p (er x)) : ∀ y ∈ (erL l).take (q + 1), p y := by
  (have hx2 : (erL l)[q]? = some (er x) := by rw [qBw, List.getElem?_map, hx]; rfl); rw [qBe hx2]; intro y hy; rcases List.mem_append.1 hy with hy | hy
  · exact h y hy
  · (obtain rfl : y = er x := by simpa using hy); exact hp
theorem qF7 {l : List ByteArray} {q : Nat} {x : ByteArray} {p : ByteArray → Prop} (hx : l[q]? = some x) (h : ∀ y ∈ l.take q, p y) (hp : p x) : ∀ y ∈ l.take (q + 1), p y := by
  rw [qBe hx]; intro y hy; rcases List.mem_append.1 hy with hy | hy
  · exact h y hy
  · (obtain rfl : y = x := by simpa using hy); exact hp
theorem qIu {l : List JV} {q : Nat} {x : JV} (hx : l[q]? = some x) : er x ∈ erL l := by
  rw [qBw]; exact List.mem_map_of_mem (List.mem_of_getElem? hx)
theorem qNL {D : Int} (h0 : 0 ≤ D) (h1 : D ≤ 32) : qEm (32 - D) = 32 - (D + 1) := by unfold qEm; rw [if_neg (by omega)]; omega
theorem qHS {j : JV} {D : Int} (hk : j.v.kind = 4) (h0 : 0 ≤ D) (h1 : D < 32) : qBc (er j) (32 - D) = true ↔ ∀ x ∈ erL j.l, qBc x (32 - (D + 1)) = true := by
  rw [qBs, hk, qHv, qNL h0 (by omega), Bool.and_eq_true, qC0, decide_eq_true_eq]; constructor
  · exact fun h => h.1
  · exact fun h => ⟨h, by omega⟩
theorem qIN {j : JV} {D : Int} (hk : j.v.kind = 5) (hl : j.ns.length = j.vs.length) (h0 : 0 ≤ D) (h1 : D < 32) : qBc (er j) (32 - D) = true ↔ (∀ n ∈ j.ns, qCk n < 0) ∧ (∀ x ∈ erL j.vs, qBc x (32 - (D + 1)) = true) ∧ j.ns.Pairwise fun a b => a ≠ b := by
  rw [qBs, hk, qIX, qNL h0 (by omega), Bool.and_eq_true, qCe _ _ _ _ (by rw [qBj]; exact hl), decide_eq_true_eq]; constructor
  · exact fun h => ⟨fun n hn => (h.1.1 n hn).1, h.1.2⟩
  · exact fun h => ⟨⟨fun n hn => ⟨h.1 n hn, by simp⟩, h.2⟩, by omega⟩
theorem qJH {j : JV} (hk : j.v.kind = 4 ∨ j.v.kind = 5) : qBc (er j) (32 - 32) = false := by
  rw [qBs]; rcases hk with hk | hk
  · rw [hk, qHv, show decide ((0 : Int) < 32 - 32) = false from by decide, Bool.and_false]
  · rw [hk, qIX, show decide ((0 : Int) < 32 - 32) = false from by decide, Bool.and_false]
theorem qNB {k : Nat} (h : k ≤ 9223372036854775807) : IntKind.i64.wrap (k : Int) = k := by
  have := Go.IntWalk.i64_in (k : Int) (by omega); exact this
theorem qBi {b : Bool} (h : ¬ b = true) : b = false := by simpa using h
theorem qA6 {fn : Func} (h : fn.results = #[.cell 4 25, .tmp 5]) (tmps : Array Value) (w : World) (g : Nat) (cs : Array Value) (ev : Value) (hp : tmps.getD 4 undef = .pointer (some ⟨g, 0, none⟩)) (hq : tmps.getD 5 undef = ev) (hg : qAW w g 25 cs) (hi : (Tryz.prog.info? 25).map (·.size) = some cs.size) :
    (results fn tmps).run Tryz.prog w = .ok (.tuple #[.agg cs, ev]) w := by
  rw [← hq]; exact qDP h tmps w g 25 cs _ hp hg Tryz.underlying25 rfl hi
def OwO (base : Nat) (x : JV) (w : World) : Prop := x.v.kind = 5 → ∃ A c M, x = qDD A c M ∧ w.ownsRow base 52 7 (.slice A M.length c) M.length (qCB M) ∧ (∀ p ∈ M, qAi w p.2 ∧ Off (fun q => q < base ∨ (Value.slice A M.length c).ownBlock = some q) p.2) ∧ (∀ p ∈ M, p.1.size ≤ qAy) ∧ M.length ≤ 1048576
theorem OwO.no {base : Nat} {x : JV} {w : World} (h : x.v.kind ≠ 5) : OwO base x w := fun e => absurd e h
theorem OwO.bes {base : Nat} {x : JV} {w w' : World} (h : OwO base x w) {X : Nat → Prop} (hb : Bes X w w') (hX : ∀ q, X q → q < base) : OwO base x w' := fun e => by
  obtain ⟨A, c, M, h1, h2, h3, h4, h5⟩ := h e; exact ⟨A, c, M, h1, hb.own h2 (fun k hk hx => by have := (qAh h2 hk).1; have := hX k hx; omega), fun p hp => ⟨qAi.bes hb (h3 p hp).1 (Off.mono (fun q e => Or.inl (hX q e)) (h3 p hp).2), (h3 p hp).2⟩, h4, h5⟩
theorem OwO.below {base : Nat} {x : JV} {w w' : World} (h : OwO base x w) (hb : Below w.heap.size w w') : OwO base x w' := h.bes (Bes.of_below (X := fun _ => False) hb) (fun _ e => e.elim)
theorem OwO.mono {base base' : Nat} {x : JV} {w : World} (h : OwO base x w) (hb : base' ≤ base) : OwO base' x w := fun e => by
  obtain ⟨A, c, M, h1, h2, h3, h4, h5⟩ := h e; exact ⟨A, c, M, h1, qMj h2 hb, fun p hp => ⟨(h3 p hp).1, Off.mono (fun q e => e.elim (fun e => Or.inl (Nat.lt_of_lt_of_le e hb)) Or.inr) (h3 p hp).2⟩, h4, h5⟩
theorem qIn {base : Nat} {k : Int} {b : Bool} {i : Int} {t : ByteArray} {w : World} (h : k ≠ 5) : OwO base (lfJ k b i t) w := OwO.no h
def NmV (j : JV) (D : Int) (w : World) (e : Ending) (w' : World) : Prop := Below w.heap.size w w' ∧
  if qBc (er j) (32 - D) = true then ∃ x, e = .returned (.tuple #[.agg x.cells, .nilIface]) ∧ qAi w' x ∧ er x = qBP (er j) ∧ Off (fun q => q < w.heap.size) x ∧ OwO w.heap.size x w'
  else e = .returned (.tuple #[.agg JV.zero.cells, .iface 31 (.int .i64 8)])
theorem NmV.no {j : JV} {D : Int} {w w' : World} (h : qBc (er j) (32 - D) = false) (hb : Below w.heap.size w w') : NmV j D w (.returned (.tuple #[.agg JV.zero.cells, .iface 31 (.int .i64 8)])) w' := ⟨hb, by rw [h]; exact rfl⟩
theorem NmV.ok {j : JV} {D : Int} {w w' : World} (h : qBc (er j) (32 - D) = true) (hb : Below w.heap.size w w') {x : JV} (hx : qAi w' x) (he : er x = qBP (er j)) (ho : Off (fun q => q < w.heap.size) x) (hw : OwO w.heap.size x w') : NmV j D w (.returned (.tuple #[.agg x.cells, .nilIface])) w' := ⟨hb, by rw [if_pos h]; exact ⟨x, rfl, hx, he, ho, hw⟩⟩
theorem NmV.yes {j : JV} {D : Int} {w w' : World} {e : Ending} (h : qBc (er j) (32 - D) = true) (k : NmV j D w e w') : ∃ x, e = .returned (.tuple #[.agg x.cells, .nilIface]) ∧ qAi w' x ∧ er x = qBP (er j) ∧ Off (fun q => q < w.heap.size) x ∧ OwO w.heap.size x w' ∧ Below w.heap.size w w' := by
  obtain ⟨k1, k2⟩ := k; rw [if_pos h] at k2; obtain ⟨x, a, b, c, d, f⟩ := k2; exact ⟨x, a, b, c, d, f, k1⟩
theorem NmV.not {j : JV} {D : Int} {w w' : World} {e : Ending} (h : qBc (er j) (32 - D) = false) (k : NmV j D w e w') : e = .returned (.tuple #[.agg JV.zero.cells, .iface 31 (.int .i64 8)]) ∧ Below w.heap.size w w' := by
  obtain ⟨k1, k2⟩ := k; rw [h] at k2; exact ⟨k2, k1⟩
theorem qNf (j : JV) : j.v.t.size ≤ SzT (er j) := by rw [qBs, qDr]; omega
theorem qOb {l : List ByteArray} {n : ByteArray} (h : n ∈ l) : n.size ≤ SzN l := by
  induction l with
  | nil => cases h
  | cons x r ih =>
    unfold SzN; rcases List.mem_cons.1 h with rfl | h
    · omega
    · have := ih h; omega
theorem qGs (j : JV) {n : ByteArray} (h : n ∈ j.ns) : n.size ≤ SzT (er j) := by
  have := qOb h; rw [qBs, qDr]; omega
theorem qOJ {j : JV} {base : Nat} {v : Value} {acc : List JV} {w0 w : World} (hk : j.v.kind = 4) (hbase : w0.heap.size ≤ base) (h : NK base 25 6 v acc.length (qDK acc) acc w) (he : acc.map er = (erL j.l).map qBP) (hz : acc.length * 80 ≤ qAy) :
    ∃ x, LC v = x.cells ∧ qAi w x ∧ er x = qBP (er j) ∧ Off (fun q => q < w0.heap.size) x ∧ OwO w0.heap.size x w := by
  obtain ⟨A, c, rfl, hj, ha⟩ := qD7 h.own rfl (fun x hx => (h.els x hx).1) hz; refine ⟨qBy A c acc, rfl, hj, ?_, ?_, OwO.no (by show (4 : Int) ≠ 5; decide)⟩
  · rw [qIC, he, qBs, hk, qHy]
  · unfold qBy Off; refine ⟨fun _ a e hlt => ?_, fun h => absurd rfl h, qCi fun x hx => Off.mono (fun q e => Or.inl (Nat.lt_of_lt_of_le e hbase)) (h.els x hx).2, by unfold qCd; exact True.intro⟩; have := ha a e; have hlt2 : a.block < w0.heap.size := hlt; omega
theorem qGl {w : World} {base : Nat} {e : TypeId} {v : Value} {L : List (ByteArray × JV)} {n : Nat} (h : w.ownsRow base e 7 v n (qCB L)) (hn : n = L.length) (hs : ∀ p ∈ L, p.1.size ≤ qAy ∧ qAi w p.2) (hb : L.length * 96 ≤ qAy) :
    ∃ A c, v = .slice A L.length c ∧ qAi w (qDD A c L) ∧ (∀ a, A = some a → base ≤ a.block) := by
  obtain ⟨A, c, rfl, hj⟩ := qGu h hn hs hb; exact ⟨A, c, rfl, hj, qFI h⟩
def pT (L : List (ByteArray × JV)) : List (ByteArray × JT) := L.map fun p => (p.1, er p.2)
theorem qPL {L : List (ByteArray × JV)} {ns : List ByteArray} {ts : List JT} (h1 : L.map (·.1) = ns) (h2 : (L.map (·.2)).map er = ts) : pT L = ns.zip ts := by
  subst h1 h2; unfold pT
  induction L with
  | nil => rfl
  | cons x r ih => rw [List.map_cons, List.map_cons, List.map_cons, List.map_cons, List.zip_cons_cons, ih]
theorem qPX {j : JV} {base : Nat} {v : Value} {L M : List (ByteArray × JV)} {w0 w : World} (hk : j.v.kind = 5) (hbase : w0.heap.size ≤ base) (h : w.ownsRow base 52 7 v M.length (qCB M)) (hlen : j.ns.length = j.vs.length)
    (hels : ∀ y ∈ M.map (·.2), qAi w y ∧ Off (fun q => q < base ∨ v.ownBlock = some q) y) (hp : M.Perm L) (h1 : L.map (·.1) = j.ns) (h2 : (L.map (·.2)).map er = (erL j.vs).map qBP) (hasc : Asc M) (hz : M.length ≤ 1048576) (hnm : ∀ n ∈ j.ns, n.size ≤ qAy) :
    ∃ x, VC v = x.cells ∧ qAi w x ∧ er x = qBP (er j) ∧ Off (fun q => q < w0.heap.size) x ∧ OwO w0.heap.size x w := by
  (have hmem : ∀ p ∈ M, p.1 ∈ j.ns := fun p hpM => by rw [← h1]; exact List.mem_map_of_mem (hp.mem_iff.1 hpM)); obtain ⟨A, c, rfl, hj, ha⟩ := qGl h rfl (fun p hpM => ⟨hnm _ (hmem p hpM), (hels p.2 (List.mem_map_of_mem hpM)).1⟩) (by unfold qAy; omega); (have HW : OwO base (qDD A c M) w := fun _ => ⟨A, c, M, rfl, h, fun p hpM => hels p.2 (List.mem_map_of_mem hpM), fun p hpM => hnm _ (hmem p hpM), hz⟩); refine ⟨qDD A c M, rfl, hj, ?_, ?_, HW.mono hbase⟩
  · have e1 : pT L = j.ns.zip ((erL j.vs).map qBP) := qPL h1 h2; have hpp : (pT M).Perm (j.ns.zip ((erL j.vs).map qBP)) := by rw [← e1]; exact hp.map _
    have hasc2 : Asc (pT M) := by
      unfold Asc pT; rw [List.pairwise_map]; exact hasc
    (have hd : qMT (pT M) := hasc2.imp fun {a b} hab e => by rw [e, qFX] at hab; omega); have e2 : pT M = qJ7 j.ns (erL j.vs) := qJi ((qFR hpp).1 hd) hasc2 hpp; rw [qGD, qBs, hk, qIT, ← e2]; unfold pT; rw [List.map_map, List.map_map]; rfl
  · unfold qDD Off; refine ⟨fun h => absurd rfl h, fun _ a e hlt => ?_, by unfold qCd; exact True.intro, qCi fun x hx => Off.mono (fun q e => Or.inl (Nat.lt_of_lt_of_le e hbase)) (hels x hx).2⟩; have := ha a e; have hlt2 : a.block < w0.heap.size := hlt; omega
end
end Go.Proofs.YtnjhmnolngdfaaaGreatDoor
