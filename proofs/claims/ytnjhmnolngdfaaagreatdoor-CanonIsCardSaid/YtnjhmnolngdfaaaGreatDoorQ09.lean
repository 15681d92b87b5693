/- Layer 2: the names that an object has had, as a map to nothing. Layer 2: what a sound value is, in plain words; whatever is read is sound. Layer 2: a value told as a text, with blanks or without, i -/
import Derived.Maps.OwnSet
import Derived.Maps.Views
import Derived.Test.YtnjhmnolngdfaaaGreatDoorQ08
import Derived.Test.YtnjhmnolngdfaaaGreatDoorQ03
import Derived.Test.YtnjhmnolngdfaaaGreatDoorQ04
import Derived.Maps.AppendAt
import Derived.PlainAid
import Derived.Test.YtnjhmnolngdfaaaGreatDoorQ00
import Derived.Test.YtnjhmnolngdfaaaGreatDoorQ01
import Derived.Laws.AppendOwnNone
import Derived.Laws.IdiomStrings
import Derived.Test.YtnjhmnolngdfaaaGreatDoorQ02
set_option linter.unusedVariables false
set_option linter.unusedSimpArgs false
set_option maxHeartbeats 16000000
set_option maxRecDepth 100000
namespace Go.Proofs.YtnjhmnolngdfaaaGreatDoor
open Go.RowKit Go.PlainAid
def RS (v : Value) : Option (DataW Unit × List MemPlace) := match v with
  | .agg cs => if cs.size = 0 then some (.lit (.bool true), []) else none
  | _ => none
theorem qM8 : RS (.agg #[]) = some (.lit (.bool true), []) := rfl
theorem qPN {v : Value} {d : DataW Unit × List MemPlace} (h : RS v = some d) : v = .agg #[] := by
  cases v with
  | agg cs =>
    simp only [RS] at h
    split at h
    · rename_i h0; rw [Array.eq_empty_of_size_eq_zero h0]
    · cases h
  | _ => simp [RS] at h
theorem qIk : Maps.Keyed Tryz.prog 9 := Maps.string_keyed Tryz.underlying9
theorem qKA {n : ByteArray} (hn : n.size ≤ qAy) : keyOf Tryz.prog 9 (.string n) = some (.string n.toList) := by
  rw [qBN]; exact WideMaps.keyOf_string_mk Tryz.underlying9 (by unfold qAy at hn; unfold maxLen; omega)
theorem qKz : (Tryz.prog.info? 93).map (fun i => (i.zero, i.size)) = some (some (.agg #[]), 0) := by kernel_rfl
theorem qK3 (w : World) : (zeroValue 93).run Tryz.prog w = .ok (.agg #[]) w := (Go.zero_of_info qKz).1 w
def qFr (w : World) (m n : Nat) (ns : List ByteArray) : Prop := ∃ D : DataW Unit, w.ownsMap Tryz.prog 9 RS m n D ∧ ∀ nm : ByteArray, Maps.has D (.string nm.toList) = qCP ns nm
theorem qFr.lt {w : World} {m n : Nat} {ns : List ByteArray} (h : qFr w m n ns) : m < w.heap.size := by obtain ⟨D, h1, _⟩ := h; exact h1.lt
theorem qFr.new (w : World) : qFr (w.alloc (.map #[] 0)) w.heap.size 0 [] := ⟨.map [], World.ownsMap_made _ _ _ _, fun nm => rfl⟩
theorem qFr.bes {X : Nat → Prop} {w w' : World} {m n : Nat} {ns : List ByteArray} (h : qFr w m n ns) (hb : Bes X w w') (hx : ¬ X m) : qFr w' m n ns := by
  have hl := h.lt; obtain ⟨D, ⟨es, clock, hbk, F, hs, hD⟩, h2⟩ := h; exact ⟨D, ⟨es, clock, (hb.block m hl hx).trans hbk, F, hs, hD⟩, h2⟩
theorem qFr.look {w : World} {m n : Nat} {ns : List ByteArray} (h : qFr w m n ns) {nm : ByteArray} (hn : nm.size ≤ qAy) : (Instr.lookup 92 (.map (some m)) (.string nm) true).run Tryz.prog w = .ok (.tuple #[.agg #[], .bool (qCP ns nm)]) w := by
  obtain ⟨D, h1, h2⟩ := h; obtain ⟨v, ps, hrun, hv⟩ := h1.look_ok qIk Tryz.underlying92 (qK3 w) qM8 (qKA hn); rw [hrun, qPN hv, h2]
theorem qFr.put {w : World} {m n : Nat} {ns : List ByteArray} (h : qFr w m n ns) (hnb : n < maxLen) {nm : ByteArray} (hn : nm.size ≤ qAy) : ∃ w', (Instr.mapUpdate 92 (.map (some m)) (.string nm) (.agg #[])).run Tryz.prog w = .ok () w' ∧ qFr w' m (n + 1) (ns ++ [nm]) ∧ Bes (· = m) w w' := by
  obtain ⟨D, h1, h2⟩ := h; have hM := h1.isMap; obtain ⟨w', hrun, ho, hg⟩ := h1.update qIk Tryz.underlying92 hnb (qKA hn) qM8; refine ⟨w', hrun, ⟨_, ho, fun x => ?_⟩, Bes.grown hg (fun k e => (Option.some.inj e).symm)⟩; (have e1 : qCP (ns ++ [nm]) x = (qCP ns x || (nm.toList == x.toList)) := by unfold qCP; simp); rw [e1]
  by_cases he : nm.toList = x.toList
  · have h3 := Maps.has_put_same (k := Lit.string nm.toList) hM True.intro (.lit (.bool true)); rw [he] at h3; rw [he, h3]; simp
  · (have hne : Lit.string x.toList ≠ Lit.string nm.toList := fun e => he (Lit.string.inj e).symm); have h3 := Maps.has_put_other (D := D) hne (.lit (.bool true)); rw [h3, h2]; (have : (nm.toList == x.toList) = false := by simpa using he); rw [this, Bool.or_false]
theorem qDW {ops : Array Oper} {rest : List Oper} {o : Oper} {a : Act} {w : World} {Q : Exit → Act → World → Prop} (hgd : o.guard = none) (m x : Operand) (hop : o.op = Op.lookup 92 m x true)
    {mb n : Nat} {ns : List ByteArray} (hN : qFr w mb n ns) (hm : a.eval m = .map (some mb)) (nm : ByteArray) (hx : a.eval x = .string nm) (hn : nm.size ≤ qAy)
    (h : wpList Tryz.prog ops Q rest (a.put o.dst (.tuple #[.agg #[], .bool (qCP ns nm)])) w) : wpList Tryz.prog ops Q (o :: rest) a w := by
  (refine wpList_plain hgd fun _ hK => ?_); unfold Oper.wp execOp; simp only [hop, hm, hx, hN.look hn, Sem.run_bind, Sem.run_pure, Result.andThen_ok]; exact hK _ _ h
theorem qFH {ops : Array Oper} {rest : List Oper} {o : Oper} {a : Act} {w : World} {Q : Exit → Act → World → Prop} (hgd : o.guard = none) (m x y : Operand) (hop : o.op = Op.mapUpdate 92 m x y)
    {mb n : Nat} {ns : List ByteArray} (hN : qFr w mb n ns) (hnb : n < maxLen) (hm : a.eval m = .map (some mb)) (nm : ByteArray) (hx : a.eval x = .string nm) (hy : a.eval y = .agg #[]) (hn : nm.size ≤ qAy)
    (h : ∀ w', qFr w' mb (n + 1) (ns ++ [nm]) → Bes (· = mb) w w' → wpList Tryz.prog ops Q rest (a.put o.dst undef) w') : wpList Tryz.prog ops Q (o :: rest) a w := by
  obtain ⟨w', hrun, h1, h2⟩ := hN.put hnb hn; (refine wpList_plain hgd fun _ hK => ?_); unfold Oper.wp execOp; simp only [hop, hm, hx, hy, hrun, Sem.run_bind, Sem.run_pure, Result.andThen_ok]; exact hK _ _ (h w' h1 h2)
section
variable {r : Nat} {s : ByteArray} {b0 b1 gv gr gd : Nat} {dep : Int} {E : TypeId} {size k : Nat} {arr : Array Value} {v : Value} {n : Nat} {xs : List Value} {acc : List JV} {w w' : World}
theorem LK.other (h : LK r s b0 b1 gv gr gd dep E size k arr v n xs acc w) {m : Nat} (hb : Bes (· = m) w w') (hm0 : b0 ≤ m) (hm1 : m < b1) (h1 : m ≠ gv) (h2 : m ≠ gr) (h3 : m ≠ gd) : LK r s b0 b1 gv gr gd dep E size k arr v n xs acc w' := by
  obtain ⟨s1, s2, s3, s4, s5, s6, s7, s8, s9, s10⟩ := h.st; refine ⟨hb.box h.rd (fun e => by have e2 : r = m := e; omega), h.gl.bes hb (fun q hq e => by have e2 : q = m := e; omega), hb.box h.box (fun e => h1 (by have e2 : gv = m := e; omega)), hb.box h.rb (fun e => h2 (by have e2 : gr = m := e; omega)), hb.box h.db (fun e => h3 (by have e2 : gd = m := e; omega)), hb.own h.own (fun q e he => ?_), fun y hy => ?_, ⟨s1, s2, s3, s4, s5, s6, s7, s8, s9, Nat.le_trans s10 hb.size⟩⟩
  · have := (qAh h.own e).1; have he2 : q = m := he; omega
  · obtain ⟨a, b⟩ := h.els y hy; exact ⟨qAi.bes hb a (Off.mono (fun q e => Or.inl (by have e2 : q = m := e; omega)) b), b⟩
end
theorem qEb {s : ByteArray} : ∀ (n i : Nat) (acc : List UInt8) (t : ByteArray) (k : Nat), acc.length ≤ 4 * i → s.size < i + n → qBM s n i acc = .ok t k → t.size ≤ 4 * s.size
 | 0, i, acc, t, k, ha, hn, h => by unfold qBM at h; cases h
 | n + 1, i, acc, t, k, ha, hn, h => by
  unfold qBM at h
  split at h
  ·cases h
  ·rename_i h1; have hi : i < s.size := qHf (by omega)
   split at h
   ·injection h with h2 h3; subst h2; show acc.toArray.size ≤ _; simp; omega
   ·split at h
    ·split at h
     ·cases h
     ·rename_i x q hq; have hg := qCT x q hq; have hl := Lib.runeCells_le x; rw [Lib.runeCells_length] at hl; exact qEb n q _ t k (by simp; omega) (by omega) h
    ·split at h
     ·cases h
     ·have hd := qB8 s i hi; have hl := Lib.runeCells_le ((Utf8.decode s i).1 : Int); rw [Lib.runeCells_length] at hl; exact qEb n _ _ t k (by simp; omega) (by omega) h
theorem qHV {s : ByteArray} {i : Nat} {t : ByteArray} {k : Nat} (h : qBK s i = .ok t k) (hi : i < s.size) : t.size ≤ 4 * s.size := qEb _ _ [] t k (by simp) (by omega) h
end Go.Proofs.YtnjhmnolngdfaaaGreatDoor
namespace Go.Proofs.YtnjhmnolngdfaaaGreatDoor
open Go.RowKit Go.PlainAid
def qEm (d : Int) : Int := if d = -9223372036854775808 then 9223372036854775807 else d - 1
mutual
def qBc : JT → Int → Bool
  | .mk k b i t l ns vs, d =>
    if k = 0 ∨ k = 1 then true
    else if k = 2 then decide (i ≤ 9007199254740991) && decide (-9007199254740991 ≤ i)
    else if k = 3 then decide (qCk t < 0)
    else if k = 4 then qLx l (qEm d) && decide (0 < d)
    else if k = 5 then qKn [] ns vs (qEm d) && decide (0 < d)
    else false
def qLx : List JT → Int → Bool
  | [], _ => true
  | x :: r, d => qBc x d && qLx r d
def qKn : List ByteArray → List ByteArray → List JT → Int → Bool
  | seen, n :: ns, x :: xs, d => (decide (qCk n < 0) && qBc x d) && (!qCP seen n && qKn (seen ++ [n]) ns xs d)
  | _, [], _, _ => true
  | _, _ :: _, [], _ => true
end
def qLA : Nat := 17592186044400
mutual
def qPO : JT → Prop
  | .mk k b i t l ns vs => t.size ≤ qLA ∧ qK8 l ∧ (∀ n ∈ ns, n.size ≤ qLA) ∧ qK8 vs
def qK8 : List JT → Prop
  | [] => True
  | x :: r => qPO x ∧ qK8 r
end
theorem qD4 {α β : Type} {o : Out α} {f : α → β} {y : β} {k : Nat} (h : o.map f = .ok y k) : ∃ x, o = .ok x k ∧ f x = y := by
  cases o with
  | bad c p => cases h
  | ok x q => injection h with h1 h2; subst h2; exact ⟨x, rfl, h1⟩
def qQU (d : Nat) (t : JT) : Prop := qBc t (d : Int) = true ∧ qPO t
end Go.Proofs.YtnjhmnolngdfaaaGreatDoor
namespace Go.Proofs.YtnjhmnolngdfaaaGreatDoor
open Go.RowKit Go.PlainAid
def LAt (s : ByteArray) (i : Nat) (L R : List UInt8) : Prop := s.data.toList.drop i = L ++ R
section
variable {s : ByteArray} {i : Nat} {L M R : List UInt8}
theorem LAt.left (h : LAt s i (L ++ M) R) : LAt s i L (M ++ R) := by unfold LAt at *; rw [h, List.append_assoc]
theorem LAt.right (h : LAt s i (L ++ M) R) : LAt s (i + L.length) M R := by
  unfold LAt at *; rw [← List.drop_drop, h, List.append_assoc, List.drop_left]
theorem LAt.size (h : LAt s i L R) (hi : i ≤ s.size) : i + L.length ≤ s.size := by
  unfold LAt at h; have h1 := congrArg List.length h; rw [List.length_drop, List.length_append] at h1; (have : s.data.toList.length = s.size := by simp); omega
end
def qQN (G : List UInt8) : Prop := ∀ c ∈ G, qCW (c.toNat : Int) = true
def dig (x : Nat) : List UInt8 := if x < 10 then [(48 + x).toUInt8] else dig (x / 10) ++ [(48 + x % 10).toUInt8]
termination_by x
theorem qGG {x : Nat} (h : x < 10) : dig x = [(48 + x).toUInt8] := by rw [dig, if_pos h]
theorem qHd {x : Nat} (h : ¬ x < 10) : dig x = dig (x / 10) ++ [(48 + x % 10).toUInt8] := by rw [dig, if_neg h]
theorem qNq {d : Nat} (h : d < 10) : ((48 + d).toUInt8).toNat = 48 + d := by simp [Nat.toUInt8]; omega
def qO8 : Int → List UInt8 → Int
  | v, [] => v
  | v, c :: r => qO8 (10 * v + ((c.toNat : Int) - 48)) r
theorem qJE : ∀ (l m : List UInt8) (v : Int), qO8 v (l ++ m) = qO8 (qO8 v l) m
  | [], m, v => rfl
  | c :: r, m, v => qJE r m _
theorem qIw : ∀ (n x : Nat), x < n → (∀ c ∈ dig x, 48 ≤ c.toNat ∧ c.toNat ≤ 57) ∧ qO8 0 (dig x) = x ∧ (∃ c r, dig x = c :: r ∧ (x ≠ 0 → c.toNat ≠ 48))
  | 0, x, h => by omega
  | n + 1, x, h => by
    by_cases hx : x < 10
    · rw [qGG hx]; have hb := qNq hx; refine ⟨fun c hc => ?_, ?_, _, _, rfl, fun h0 => by rw [hb]; omega⟩
      · (have : c = (48 + x).toUInt8 := by simpa using hc); rw [this, hb]; omega
      · show 10 * 0 + (((48 + x).toUInt8.toNat : Int) - 48) = x; rw [hb]; omega
    · rw [qHd hx]; have hb := qNq (d := x % 10) (by omega); obtain ⟨h1, h2, c, r, h3, h4⟩ := qIw n (x / 10) (by omega); refine ⟨fun c hc => ?_, ?_, c, r ++ [(48 + x % 10).toUInt8], by rw [h3]; rfl, fun _ => h4 (by omega)⟩
      · rcases List.mem_append.1 hc with hc | hc
        · exact h1 c hc
        · (have : c = (48 + x % 10).toUInt8 := by simpa using hc); rw [this, hb]; omega
      · rw [qJE, h2]; show 10 * ((x / 10 : Nat) : Int) + (((48 + x % 10).toUInt8.toNat : Int) - 48) = x; rw [hb]; omega
def qFt (n : Int) : List UInt8 := if n < 0 then 45 :: dig n.natAbs else dig n.natAbs
def qPy (R : List UInt8) : Prop := ∀ c r, R = c :: r → qBa (c.toNat : Int) = false
def hx (d : Nat) : UInt8 := if d < 10 then (48 + d).toUInt8 else (87 + d).toUInt8
def qb (c : UInt8) : List UInt8 :=
  if c.toNat = 34 ∨ c.toNat = 92 then [92, c]
  else if c.toNat = 8 then [92, 98] else if c.toNat = 9 then [92, 116] else if c.toNat = 10 then [92, 110] else if c.toNat = 12 then [92, 102] else if c.toNat = 13 then [92, 114]
  else if c.toNat < 32 then [92, 117, 48, 48, hx (c.toNat / 16), hx (c.toNat % 16)]
  else [c]
def qFv (l : List UInt8) : List UInt8 := l.flatMap qb
def quo (t : ByteArray) : List UInt8 := 34 :: (qFv t.data.toList ++ [34])
theorem qMw (a b : List UInt8) : qFv (a ++ b) = qFv a ++ qFv b := by unfold qFv; exact List.flatMap_append
theorem qPS (c : UInt8) : 1 ≤ (qb c).length := by
    unfold qb; repeat' split
    all_goals simp
end Go.Proofs.YtnjhmnolngdfaaaGreatDoor
namespace Go.Proofs.YtnjhmnolngdfaaaGreatDoor
open Go.RowKit Go.PlainAid
def qFD : List UInt8 := [110, 117, 108, 108]
def qGW : List UInt8 := [116, 114, 117, 101]
def qEA : List UInt8 := [102, 97, 108, 115, 101]
mutual
def pr (G : List UInt8) : JT → List UInt8
  | .mk k b i t l ns vs =>
    if k = 0 then qFD else if k = 1 then (if b = true then qGW else qEA) else if k = 2 then qFt i else if k = 3 then quo t
    else if k = 4 then 91 :: (prL G true l ++ [93]) else 123 :: (prF G true ns vs ++ [125])
def prL (G : List UInt8) : Bool → List JT → List UInt8
  | _, [] => []
  | f, x :: r => (if f = true then [] else [44]) ++ (G ++ (pr G x ++ (G ++ prL G false r)))
def prF (G : List UInt8) : Bool → List ByteArray → List JT → List UInt8
  | f, n :: ns, x :: vs => (if f = true then [] else [44]) ++ (G ++ (quo n ++ (G ++ (58 :: (G ++ (pr G x ++ (G ++ prF G false ns vs)))))))
  | _, [], _ => []
  | _, _ :: _, [] => []
end
mutual
def qFw : JT → JT
  | .mk k b i t l ns vs =>
    if k = 1 then .mk k b 0 ⟨#[]⟩ [] [] [] else if k = 2 then .mk k false i ⟨#[]⟩ [] [] [] else if k = 3 then .mk k false 0 t [] [] []
    else if k = 4 then .mk k false 0 ⟨#[]⟩ (qOl l) [] [] else if k = 5 then .mk k false 0 ⟨#[]⟩ [] ns (qOl vs) else .mk k false 0 ⟨#[]⟩ [] [] []
def qOl : List JT → List JT
  | [] => []
  | x :: r => qFw x :: qOl r
end
mutual
def qHM : JT → Prop
  | .mk k b i t l ns vs => qMe l ∧ ns.length = vs.length ∧ qMe vs
def qMe : List JT → Prop
  | [] => True
  | x :: r => qHM x ∧ qMe r
end
def qQI (s : ByteArray) (G : List UInt8) (d : Nat) (t : JT) : Prop := ∀ (i : Nat) (R : List UInt8), LAt s i (pr G t) R → qPy R → qAJ s d i = .ok (qFw t) (i + (pr G t).length)
end Go.Proofs.YtnjhmnolngdfaaaGreatDoor
namespace Go.Proofs.YtnjhmnolngdfaaaGreatDoor
open Go.RowKit Go.PlainAid
theorem qBs (j : JV) : er j = .mk j.v.kind j.v.b j.v.i j.v.t (erL j.l) j.ns (erL j.vs) := by
  obtain ⟨v, l, ns, vs⟩ := j; unfold er; rfl
mutual
def SzT : JT → Nat
  | .mk k b i t l ns vs => 1 + t.size + SzL l + SzN ns + SzL vs
def SzL : List JT → Nat
  | [] => 0
  | x :: r => SzT x + SzL r
def SzN : List ByteArray → Nat
  | [] => 0
  | n :: r => n.size + 1 + SzN r
end
theorem qDr (k : Int) (b : Bool) (i : Int) (t : ByteArray) (l : List JT) (ns : List ByteArray) (vs : List JT) : SzT (.mk k b i t l ns vs) = 1 + t.size + SzL l + SzN ns + SzL vs := by conv => lhs; unfold SzT
theorem qPc (t : JT) : 1 ≤ SzT t := by obtain ⟨k, b, i, x, l, ns, vs⟩ := t; unfold SzT; omega
theorem qIV : ∀ l : List JT, l.length ≤ SzL l
  | [] => Nat.zero_le _
  | x :: r => by unfold SzL; have := qIV r; have := qPc x; rw [List.length_cons]; omega
theorem qGV {l : List JV} {i : Nat} {x : JV} (h : l[i]? = some x) : SzT (er x) ≤ SzL (erL l) := by
  induction l generalizing i with
  | nil => simp at h
  | cons y r ih =>
    unfold erL SzL
    cases i with
    | zero =>
      (have : y = x := by simpa using h); rw [this]; omega
    | succ i =>
      have := ih (i := i) (by simpa using h); omega
theorem qDZ (j : JV) : j.l.length ≤ SzT (er j) ∧ j.vs.length ≤ SzT (er j) ∧ (∀ (i : Nat) (x : JV), j.l[i]? = some x → SzT (er x) ≤ SzT (er j)) ∧ (∀ (i : Nat) (x : JV), j.vs[i]? = some x → SzT (er x) ≤ SzT (er j)) := by
  rw [qBs]; have h1 := qIV (erL j.l); have h2 := qIV (erL j.vs); rw [qBj] at h1 h2; rw [qDr]; refine ⟨by omega, by omega, fun i x hx => ?_, fun i x hx => ?_⟩
  · have := qGV hx; omega
  · have := qGV hx; omega
def LS (g bl off : Nat) (jc : Array Value) (xs : List Value) (w : World) : Prop := qAW w g 25 jc ∧ w.rangeAt bl off xs
theorem qC7 {w w' : World} {b o : Nat} {cs : List Value} (e : w'.heap[b]? = w.heap[b]?) (h : w.rangeAt b o cs) : w'.rangeAt b o cs := fun j v hv => by
  have := h j v hv; unfold World.cell? at this ⊢; simp only [e]; exact this
theorem LS.to {g bl off : Nat} {jc : Array Value} {xs : List Value} {w w' : World} (h : LS g bl off jc xs w) (e : ∀ k, k = g ∨ k = bl → w'.heap[k]? = w.heap[k]?) : LS g bl off jc xs w' :=
  ⟨(e g (.inl rfl)).trans h.1, qC7 (e bl (.inr rfl)) h.2⟩
theorem LS.lt {g bl off : Nat} {t : Array Value} {j : JV} {w : World} (h : LS g bl off t j.cells.toList w) {k : Nat} (hk : k = g ∨ k = bl) : k < w.heap.size := by
  rcases hk with rfl | rfl
  · exact h.1.lt
  · exact block_lt_of_cell (h.2 0 (.int .i64 j.v.kind) rfl)
def LSO (g bl off : Nat) (jc : Array Value) (nm : ByteArray) (xs : List Value) (w : World) : Prop := qAW w g 25 jc ∧ w.cell? ⟨bl, off, none⟩ = some (.string nm) ∧ w.rangeAt bl (off + 1) xs
theorem LSO.to {g bl off : Nat} {jc : Array Value} {nm : ByteArray} {xs : List Value} {w w' : World} (h : LSO g bl off jc nm xs w) (e : ∀ k, k = g ∨ k = bl → w'.heap[k]? = w.heap[k]?) : LSO g bl off jc nm xs w' :=
  ⟨(e g (.inl rfl)).trans h.1, qC7 (cs := [.string nm]) (o := off) (e bl (.inr rfl)) (fun j v hv => by cases j with | zero => (obtain rfl : Value.string nm = v := by simpa using hv); exact h.2.1 | succ n => simp at hv) 0 _ rfl, qC7 (e bl (.inr rfl)) h.2.2⟩
theorem LSO.lt {g bl off : Nat} {t : Array Value} {nm : ByteArray} {xs : List Value} {w : World} (h : LSO g bl off t nm xs w) {k : Nat} (hk : k = g ∨ k = bl) : k < w.heap.size := by
  rcases hk with rfl | rfl
  · exact h.1.lt
  · exact block_lt_of_cell h.2.1
theorem qHN {X : Nat → Prop} {j : JV} (h : Off X j) : (∀ (i : Nat) (x : JV), j.l[i]? = some x → Off X x ∧ ∀ a, j.v.LA = some a → ¬ X a.block) ∧ (∀ (i : Nat) (x : JV), j.vs[i]? = some x → Off X x ∧ ∀ a, j.v.FA = some a → ¬ X a.block) := by
 have key : ∀ l : List JV, qCd X l → ∀ x ∈ l, Off X x := by
  intro l
  induction l with
  | nil => intro _ x hx; cases hx
  | cons y r ih =>
   intro h x hx; unfold qCd at h; rcases List.mem_cons.1 hx with rfl | hx
   ·exact h.1
   ·exact ih h.2 x hx
 obtain ⟨v, l, ns, vs⟩ := j; unfold Off at h; refine ⟨fun i x hx => ⟨key l h.2.2.1 x (List.mem_of_getElem? hx), h.1 (fun e => ?_)⟩, fun i x hx => ⟨key vs h.2.2.2 x (List.mem_of_getElem? hx), h.2.1 (fun e => ?_)⟩⟩
 ·have e2 : l = [] := e; have hx2 : l[i]? = some x := hx; rw [e2] at hx2; simp at hx2
 ·have e2 : vs = [] := e; have hx2 : vs[i]? = some x := hx; rw [e2] at hx2; simp at hx2
theorem qC5 {P : Program} {ops : Array Oper} {S : World → Prop} {o : Oper} {a : Act} (hw : Region.wanted o (yielded ops a.tmps) = true) (ty : TypeId) (x : Operand) (ho : o.op = .load ty x) (b off : Nat)
    (hx : a.eval x = .pointer (some ⟨b, off, none⟩)) (arr : Array Value) (d : TypeDesc)
    (hc : ∀ w', S w' → w'.rangeAt b off arr.toList) (hu : P.underlying ty = some d) (hd : d.isRow = true) (hi : (P.info? ty).map (·.size) = some arr.size) :
    YieldsIf P ops S o (.agg arr) a := by
  have := yieldsIf_load_mid (P := P) (S := S) hw ty x ho b off hx arr.toList d hc hu hd (by simpa using hi)
  rwa [Array.toArray_toList] at this
end Go.Proofs.YtnjhmnolngdfaaaGreatDoor
namespace Go.Proofs.YtnjhmnolngdfaaaGreatDoor
open Go.RowKit
variable {ops : Array Oper} {rest : List Oper} {o : Oper} {a : Act} {w : World} {Q : Exit → Act → World → Prop}
abbrev qCg (w : World) (base : Nat) (v : Value) (l : List UInt8) : Prop := w.ownsRow base 5 1 v l.length (Lib.byteCells l)
theorem qCg.nil (w : World) (base : Nat) : qCg w base (.slice none 0 0) [] := ⟨rfl, .inl ⟨rfl, rfl⟩⟩
theorem qCg.bes {w w' : World} {X : Nat → Prop} {base : Nat} {v : Value} {l : List UInt8} (h : qCg w base v l) (hb : Bes X w w') (hX : ∀ k, X k → k < base) : qCg w' base v l :=
  Bes.own hb h fun k hk hx => by have := (qAh h hk).1; have := hX k hx; omega
theorem qCg.below {w w' : World} {base : Nat} {v : Value} {l : List UInt8} (h : qCg w base v l) (hb : Below w.heap.size w w') : qCg w' base v l := h.bes (X := fun _ => False) (Bes.of_below hb) (fun _ h => h.elim)
theorem qFp (l : List UInt8) : ∀ u ∈ Lib.byteCells l, u.oneCell' = true := by
  intro u hu; unfold Lib.byteCells at hu; obtain ⟨b, _, rfl⟩ := List.mem_map.1 hu; rfl
theorem qDJ (hgd : o.guard = none) (s x : Operand) (t : TypeId) (ho : o.op = .call { callee := .builtin .append, args := #[s, x], argTypes := #[t, t] }) (ht : Tryz.prog.underlying t = some (.slice 5))
    (base : Nat) (v : Value) (l : List UInt8) (hs : a.eval s = v) (hown : qCg w base v l)
    (g c : Nat) (m : List UInt8) (ty : TypeId) (k : Nat) (hk : k = m.length) (hx : a.eval x = .slice (some ⟨g, 0, none⟩) k c) (IB : ∀ (j : Nat) (u : Value), (Lib.byteCells m)[j]? = some u → w.cell? ⟨g, j, none⟩ = some u)
    (hl : l.length + m.length ≤ 140737488355328) (hbase : base ≤ w.heap.size)
    (h : ∀ v' w', qCg w' base v' (l ++ m) → Bes (fun q => base ≤ q) w w' → Below base w w' → wpList Tryz.prog ops Q rest (a.put o.dst v') w') : wpList Tryz.prog ops Q (o :: rest) a w := by
  obtain ⟨ie, h1, h2, h3, h4⟩ := qC2; subst hk; refine wpList_append_own w hgd s x t ho base 5 ie _ 1 1 ht h1 h2 h3 h4 rfl (by decide) v l.length (Lib.byteCells l) hs hown ⟨g, 0, none⟩ m.length c (Lib.byteCells m) hx (by rw [Lib.byteCells_length]; omega) ?_ (qFp m) (by unfold maxLen; omega) (by omega) hbase ?_
  · intro j u hu; (have hadd : (⟨g, 0, none⟩ : Addr).add j = ⟨g, j, none⟩ := by unfold Addr.add; split <;> simp_all); rw [hadd]; exact IB j u hu
  · intro v' w' h5 h6 _; refine h v' w' ?_ (Bes.grown h6 fun k hk => (qAh hown hk).1) ((Below.refl base w).grown h6 hbase fun k hk => (hown.lt k hk).1); unfold qCg; rw [List.length_append, Lib.byteCells_append]; exact h5
theorem qFM (hgd : o.guard = none) (s x : Operand) (t : TypeId) (ho : o.op = .call { callee := .builtin .append, args := #[s, x], argTypes := #[t, t] }) (ht : Tryz.prog.underlying t = some (.slice 5))
    (base : Nat) (v : Value) (l : List UInt8) (hs : a.eval s = v) (hown : qCg w base v l) (hx : a.eval x = .slice none 0 0)
    (h : wpList Tryz.prog ops Q rest (a.put o.dst v) w) : wpList Tryz.prog ops Q (o :: rest) a w := by
  obtain ⟨ie, h1, h2, h3, h4⟩ := qC2; exact wpList_append_own_none hgd s x t ho base 5 ie 1 ht h1 v l.length (Lib.byteCells l) hs hown hx h
theorem qHQ {base : Nat} {v : Value} {l : List UInt8} {t u : TypeId} (ht : Tryz.prog.underlying t = some (.slice 5)) (hu : Tryz.prog.underlying u = some .string) (hown : qCg w base v l) : (convert t u v).run Tryz.prog w = .ok (.string ⟨l.toArray⟩) w := by
  rcases hown.2 with ⟨rfl, h0⟩ | ⟨g, cap, cur, rfl, hb, hg, hn, hc, hs, htk⟩
  · have : l = [] := List.eq_nil_of_length_eq_zero h0; subst this; exact (run_convert_bytes_nil w t 5 ht Tryz.underlying5 0 0 u hu).trans (by rfl)
  · (refine run_convert_bytes_back w t u 5 ⟨g, 0, none⟩ cap l ht Tryz.underlying5 hu fun j hj => ?_); (have hadd : (⟨g, 0, none⟩ : Addr).add j = ⟨g, j, none⟩ := by unfold Addr.add; split <;> simp_all); have hI : qAW w g 5 cur := hg; rw [hadd, hI.cell]
    have h1 : (Lib.byteCells l)[j]? = some (.int .u8 (l[j].toNat : Int)) := by
      unfold Lib.byteCells; rw [List.getElem?_map, List.getElem?_eq_getElem hj]; rfl
    rw [← htk, List.getElem?_take] at h1
    split at h1
    · simpa using h1
    · cases h1
theorem qB7 (hgd : o.guard = none) (x : Operand) (t u : TypeId) (ho : o.op = .convert t u x) (ht : Tryz.prog.underlying t = some (.slice 5)) (hu : Tryz.prog.underlying u = some .string) (base : Nat) (v : Value) (l : List UInt8) (hs : a.eval x = v) (hown : qCg w base v l)
    (h : wpList Tryz.prog ops Q rest (a.put o.dst (.string ⟨l.toArray⟩)) w) : wpList Tryz.prog ops Q (o :: rest) a w :=
  wpList_plain hgd fun _ hK => by
    have e := qHQ (t := t) (u := u) ht hu hown; generalize hP : Tryz.prog = P at *; unfold Oper.wp execOp; simp only [ho, hs, Sem.run_bind, e, Result.andThen_ok, Sem.run_pure]; exact hK _ _ h
theorem qCQ {P : Program} {d : Option Tmp} {t u : TypeId} {x : Operand} {tt : TypeId} {ps : String} {af : Array Edge} {gd : Option (Nat × Bool)} (h : wpList P ops Q (⟨d, .convert t u x, tt, ps, af, gd⟩ :: rest) a w) : wpList P ops Q (⟨d, .convert t u x, tt, ps, af, gd⟩ :: rest) a w := h
end Go.Proofs.YtnjhmnolngdfaaaGreatDoor
