/- Rows of bytes of the call's own: appending a text; a few bytes built as a row. Layer 2: a number's text (coveyref02.figures), walked. Layer 2: a text told (coveyref02.quoted), walked. -/
import Derived.Lib.AppendStr
import Derived.Maps.AppendAt
import Derived.Test.YtnjhmnolngdfaaaGreatDoorQ09
import Derived.Test.YtnjhmnolngdfaaaGreatDoorQ00
import Derived.Test.YtnjhmnolngdfaaaGreatDoorQZip
set_option linter.unusedVariables false
set_option linter.unusedSimpArgs false
set_option maxHeartbeats 16000000
set_option maxRecDepth 100000
namespace Go.Proofs.YtnjhmnolngdfaaaGreatDoor
open Go.RowKit
variable {ops : Array Oper} {rest : List Oper} {o : Oper} {a : Act} {w : World} {Q : Exit → Act → World → Prop}
def KB (base : Nat) (w w' : World) : Prop := Below base w w' ∧ ∀ (g : Nat) (T : TypeId) (arr : Array Value), T ≠ 5 → qAW w g T arr → qAW w' g T arr
theorem KB.trans {base : Nat} {a b c : World} (h : KB base a b) (k : KB base b c) : KB base a c := ⟨h.1.trans k.1, fun g T arr hT hI => k.2 g T arr hT (h.2 g T arr hT hI)⟩
theorem KB.of {base : Nat} {w w' : World} (h : Below w.heap.size w w') (hb : base ≤ w.heap.size) : KB base w w' := ⟨h.mono hb, fun g T arr hT hI => zI hI h⟩
theorem KB.refl {base : Nat} {w : World} (hb : base ≤ w.heap.size) : KB base w w := KB.of (Below.refl _ _) hb
theorem KB.up {base : Nat} {w w' : World} (h : KB base w w') {n : Nat} (hn : n ≤ w.heap.size) : n ≤ w'.heap.size := Nat.le_trans hn h.1.size
theorem KB.grown {base : Nat} {w w' : World} {v : Value} {l : List UInt8} (hO : qCg w base v l) (h : w.grownBy w' v.ownBlock) (hb : base ≤ w.heap.size) : KB base w w' := by
  refine ⟨(Below.refl base w).grown h hb fun k hk => (hO.lt k hk).1, fun g T arr hT hI => ?_⟩; (refine Bes.box (Bes.grown (X := fun q => v.ownBlock = some q) h (fun _ e => e)) hI fun e => ?_); rcases hO.2 with ⟨rfl, _⟩ | ⟨g2, cap, cur, rfl, _, hg, _⟩
  · cases e
  · have e2 : g2 = g := Option.some.inj e; subst e2; have e3 := hg.symm.trans hI; injection e3 with e3; injection e3 with _ e4 _; exact hT e4.symm
theorem qAq (hgd : o.guard = none) (s x : Operand) (t u : TypeId) (ho : o.op = .call { callee := .builtin .append, args := #[s, x], argTypes := #[t, u] }) (ht : Tryz.prog.underlying t = some (.slice 5)) (hu : Tryz.prog.underlying u = some .string)
    (base : Nat) (v : Value) (l : List UInt8) (hs : a.eval s = v) (hown : qCg w base v l) (x0 : ByteArray) (hx : a.eval x = .string x0) (hl : l.length + x0.size ≤ 140737488355328) (hbase : base ≤ w.heap.size)
    (h : ∀ v' w', qCg w' base v' (l ++ x0.data.toList) → KB base w w' → wpList Tryz.prog ops Q rest (a.put o.dst v') w') : wpList Tryz.prog ops Q (o :: rest) a w := by
  obtain ⟨ie, h1, h2, h3, h4⟩ := qC2; refine Go.Lib.wpList_append_own_string w hgd s x t u ho base 5 ie ht hu h1 h2 h3 h4 v l.length (Lib.byteCells l) hs hown x0 hx (by unfold maxLen; omega) hl hbase ?_; intro v' w' h5 h6 _; refine h v' w' ?_ (KB.grown hown h6 hbase); unfold qCg; rw [List.length_append, Lib.byteCells_append, show x0.data.toList.length = x0.size by simp]; exact h5
theorem qAf (hgd : o.guard = none) (s x : Operand) (t : TypeId) (ho : o.op = .call { callee := .builtin .append, args := #[s, x], argTypes := #[t, t] }) (ht : Tryz.prog.underlying t = some (.slice 5))
    (base : Nat) (v : Value) (l : List UInt8) (hs : a.eval s = v) (hown : qCg w base v l)
    (g c : Nat) (m : List UInt8) (k : Nat) (hk : k = m.length) (hx : a.eval x = .slice (some ⟨g, 0, none⟩) k c) (IB : ∀ (j : Nat) (u : Value), (Lib.byteCells m)[j]? = some u → w.cell? ⟨g, j, none⟩ = some u)
    (hl : l.length + m.length ≤ 140737488355328) (hbase : base ≤ w.heap.size)
    (h : ∀ v' w', qCg w' base v' (l ++ m) → KB base w w' → wpList Tryz.prog ops Q rest (a.put o.dst v') w') : wpList Tryz.prog ops Q (o :: rest) a w := by
  obtain ⟨ie, h1, h2, h3, h4⟩ := qC2; subst hk; refine wpList_append_own w hgd s x t ho base 5 ie _ 1 1 ht h1 h2 h3 h4 rfl (by decide) v l.length (Lib.byteCells l) hs hown ⟨g, 0, none⟩ m.length c (Lib.byteCells m) hx (by rw [Lib.byteCells_length]; omega) ?_ (qFp m) (by unfold maxLen; omega) (by omega) hbase ?_
  · intro j u hu; (have hadd : (⟨g, 0, none⟩ : Addr).add j = ⟨g, j, none⟩ := by unfold Addr.add; split <;> simp_all); rw [hadd]; exact IB j u hu
  · intro v' w' h5 h6 _; refine h v' w' ?_ (KB.grown hown h6 hbase); unfold qCg; rw [List.length_append, Lib.byteCells_append]; exact h5
theorem qFd {K : Act → World → Prop} (s x : Operand) (t : TypeId) (ho : o.op = .call { callee := .builtin .append, args := #[s, x], argTypes := #[t, t] }) (ht : Tryz.prog.underlying t = some (.slice 5))
    (base : Nat) (v : Value) (l : List UInt8) (hs : a.eval s = v) (hown : qCg w base v l)
    (g c : Nat) (m : List UInt8) (k : Nat) (hk : k = m.length) (hx : a.eval x = .slice (some ⟨g, 0, none⟩) k c) (IB : ∀ (j : Nat) (u : Value), (Lib.byteCells m)[j]? = some u → w.cell? ⟨g, j, none⟩ = some u)
    (hl : l.length + m.length ≤ 140737488355328) (hbase : base ≤ w.heap.size)
    (h : ∀ v' w', qCg w' base v' (l ++ m) → KB base w w' → K (a.put o.dst v') w') : o.wp Tryz.prog a w K Q := by
  obtain ⟨ie, h1, h2, h3, h4⟩ := qC2; subst hk
  obtain ⟨v', w', hr, h5, h6, _, _⟩ := run_append_own_at (P := Tryz.prog) w base t o.type 5 ie _ 1 1 ht h1 h2 h3 h4 rfl (by decide) v l.length (Lib.byteCells l) hown ⟨g, 0, none⟩ m.length c (Lib.byteCells m) (by rw [Lib.byteCells_length]; omega) (fun j u hu => by
    (have hadd : (⟨g, 0, none⟩ : Addr).add j = ⟨g, j, none⟩ := by unfold Addr.add; split <;> simp_all); rw [hadd]
    exact IB j u hu) (qFp m) (by unfold maxLen; omega) (by omega) hbase
  have hfin := h v' w' (by unfold qCg; rw [List.length_append, Lib.byteCells_append]; exact h5) (KB.grown hown h6 hbase); generalize hP : Tryz.prog = P at *; unfold Oper.wp execOp; simp only [ho, resolve, invoke, builtin, Sem.run_bind, Sem.run_pure, Result.andThen_ok, List.map_toArray, List.map_cons, List.map_nil, hs, hx, hr]; exact hfin
theorem qDI (p : Int) : Instr.fill (fun i => some (i * 1, 1)) ((Array.range (1 * 1)).map ((Value.int .u8 0).cells[· % (Value.int .u8 0).cells.size]!)) [(0, .int .u8 p)] = some #[.int .u8 p] := by kernel_rfl
theorem qFQ (p q : Int) : Instr.fill (fun i => some (i * 1, 1)) ((Array.range (2 * 1)).map ((Value.int .u8 0).cells[· % (Value.int .u8 0).cells.size]!)) [(0, .int .u8 p), (1, .int .u8 q)] = some #[.int .u8 p, .int .u8 q] := by kernel_rfl
theorem qOq (p q r x y z : Int) : Instr.fill (fun i => some (i * 1, 1)) ((Array.range (6 * 1)).map ((Value.int .u8 0).cells[· % (Value.int .u8 0).cells.size]!)) [(0, .int .u8 p), (1, .int .u8 q), (2, .int .u8 r), (3, .int .u8 x), (4, .int .u8 y), (5, .int .u8 z)] = some #[.int .u8 p, .int .u8 q, .int .u8 r, .int .u8 x, .int .u8 y, .int .u8 z] := by kernel_rfl
theorem qAW.cells {w : World} {g : Nat} {t : TypeId} {arr : Array Value} (h : qAW w g t arr) {m : List UInt8} (hm : arr.toList = Lib.byteCells m) : ∀ (j : Nat) (u : Value), (Lib.byteCells m)[j]? = some u → w.cell? ⟨g, j, none⟩ = some u := fun j u hu => by
  rw [h.cell, ← Array.getElem?_toList, hm]; exact hu
theorem qGP {w : World} {base g : Nat} {arr : Array Value} {m : List UInt8} {n : Nat} (h : qAW w g 5 arr) (hm : arr.toList = Lib.byteCells m) (hb : base ≤ g) (hn : m.length = n) (hmax : n ≤ maxLen) : qCg w base (.slice (some ⟨g, 0, none⟩) n n) m := by
  subst hn; (have hl : arr.size = m.length := by rw [← Array.length_toList, hm, Lib.byteCells_length]); refine ⟨by rw [Lib.byteCells_length]; omega, .inr ⟨g, m.length, arr, rfl, hb, h, Nat.le_refl _, hmax, by omega, ?_⟩⟩; rw [hm, List.take_of_length_le (by rw [Lib.byteCells_length]; omega)]
end Go.Proofs.YtnjhmnolngdfaaaGreatDoor
namespace Go.Proofs.YtnjhmnolngdfaaaGreatDoor
open Go.RowKit Go.PlainAid
theorem qK0 : ∀ (n x : Nat), x < 10 ^ n → 0 < n → (dig x).length ≤ n
  | 0, x, _, h => by omega
  | n + 1, x, hx, _ => by
    by_cases h : x < 10
    · rw [qGG h]; simp
    · rw [qHd h, List.length_append]
      have hn : 0 < n := by
        rcases Nat.eq_zero_or_pos n with h0 | h0
        · subst h0; simp at hx; omega
        · exact h0
      have := qK0 n (x / 10) (by rw [Nat.pow_succ] at hx; omega) hn; simp; omega
def qJN : Int := 18446744073709551616
theorem qOe (n : Int) (h : I64 n) (hn : n < 0) : IntKind.u64.wrap n = n + qJN ∧ IntKind.u64.wrap (0 - (n + qJN)) = (n.natAbs : Int) := by
  unfold I64 at h; unfold qJN; rw [IntKind.wrap_u64, IntKind.wrap_u64]; constructor <;> omega
theorem qMf (n : Int) (h : I64 n) (hn : ¬ n < 0) : IntKind.u64.wrap n = (n.natAbs : Int) := by
  unfold I64 at h; rw [IntKind.wrap_u64]; omega
def qLz (N : Nat) (L : List UInt8) (X : Nat) : Prop := (L = [] ∧ X = N) ∨ (X = 0 ∧ L = dig N) ∨ (0 < X ∧ dig X ++ L = dig N)
theorem qEr {N X : Nat} {L : List UInt8} (h : qLz N L X) (hg : 0 < X ∨ L = []) : qLz N ((48 + X % 10).toUInt8 :: L) (X / 10) := by
  have key : dig X ++ L = dig N := by
    rcases h with ⟨h1, h2⟩ | ⟨h1, h2⟩ | ⟨h1, h2⟩
    · rw [h1, h2, List.append_nil]
    · rcases hg with hg | hg
      · omega
      · rw [hg] at h2; obtain ⟨_, _, c, r, h3, _⟩ := qIw (N + 1) N (Nat.lt_succ_self _); rw [h3] at h2; cases h2
    · exact h2
  by_cases hx : X < 10
  · refine .inr (.inl ⟨by omega, ?_⟩); rw [qGG hx] at key; rw [← key, show X % 10 = X by omega]; rfl
  · refine .inr (.inr ⟨by omega, ?_⟩); rw [qHd hx, List.append_assoc] at key; exact key
theorem qIg {N X : Nat} {L : List UInt8} (h : qLz N L X) (h0 : ¬ 0 < X) (hL : L ≠ []) : L = dig N := by
  rcases h with ⟨h1, h2⟩ | ⟨h1, h2⟩ | ⟨h1, h2⟩
  · exact absurd h1 hL
  · exact h2
  · omega
theorem qHg {N X : Nat} {L : List UInt8} (h : qLz N L X) (hN : N < 100000000000000000000) : L.length ≤ 20 := by
  have := qK0 20 N (by omega) (by omega); rcases h with ⟨h1, h2⟩ | ⟨h1, h2⟩ | ⟨h1, h2⟩
  · rw [h1]; simp
  · rw [h2]; exact this
  · have h3 := congrArg List.length h2; rw [List.length_append] at h3; omega
theorem qPb (d : Nat) (h : d < 10) : ((48 + d).toUInt8.toNat : Int) = 48 + (d : Int) := by rw [qNq h]; omega
theorem qEo (a b : List UInt8) : (⟨a.toArray⟩ : ByteArray) ++ ⟨b.toArray⟩ = ⟨(a ++ b).toArray⟩ := by
  apply ByteArray.ext; simp
def qI5 : Value → Nat
  | .string s => if s.size = 0 then 1 else 0
  | _ => 0
theorem qIx (c : UInt8) (L : List UInt8) : qI5 (.string ((⟨[c].toArray⟩ : ByteArray) ++ ⟨L.toArray⟩)) = 0 := by
  rw [qEo]; unfold qI5; simp [ByteArray.size]
theorem qG7 (X : Nat) {c : UInt8} (hc : c = (48 + X % 10).toUInt8) : (#[.int .u8 (48 + (X : Int) % 10)] : Array Value).toList = Lib.byteCells [c] := by
  subst hc; unfold Lib.byteCells; rw [List.map_cons, List.map_nil, qPb _ (by omega)]; rfl
theorem qII {n : Int} (hn : I64 n) (w : World) : Calls Tryz.prog 62 #[.int .i64 n] w fun e w' => e = .returned (.string ⟨(qFt n).toArray⟩) ∧ Below w.heap.size w w' := by
 obtain ⟨N, hN⟩ : ∃ N, N = n.natAbs := ⟨_, rfl⟩; have HB := Below.refl w.heap.size w; (have hNB : N ≤ 9223372036854775808 := by unfold I64 at hn; omega); have HNB := Lib.hid hNB; clear hNB
 by_cases hneg : n < 0
 ·obtain ⟨e1, e2⟩ := qOe n hn hneg; (have e3 : IntKind.u64.wrap (-(n + qJN)) = (N : Int) := by rw [hN, ← e2]; congr 1; omega); have HN := Lib.hid hN; clear hN hn e2; go_enter Tryz.func62, Tryz.ntmps62; go_wp2; clear e1 e3
  go_loopw [3, 4] (fun sv xv wr => ∃ (L : List UInt8) (X : Nat), sv = .string ⟨L.toArray⟩ ∧ xv = .int .u64 X ∧ X ≤ N ∧ Hid (qLz N L X) ∧ Below w.heap.size w wr) (fun sv xv _ => (intOf xv).toNat * 2 + qI5 sv)
  case atStart => exact ⟨[], N, rfl, rfl, Nat.le_refl _, Lib.hid (.inl ⟨rfl, rfl⟩), HB⟩
  case round =>
   clear HB; obtain ⟨L, X, rfl, rfl, hX, HF, HB⟩ := hrel; (have q0 : 0 ≤ (X : Int) % 10 := by omega); (have q1 : (X : Int) % 10 ≤ 9 := by omega); (have q2 : 0 ≤ (X : Int) / 10 := by omega); (have q3 : (X : Int) / 10 ≤ 922337203685477581 := by have := HNB.out; omega); have hsh := qHg HF.out (by have := HNB.out; omega); have hbz := HB.size
   by_cases hX0 : 0 < X
   ·obtain ⟨c, hc⟩ : ∃ c : UInt8, c = (48 + X % 10).toUInt8 := ⟨_, rfl⟩; have HC := Lib.hid hc; have hst : Hid (qLz N (c :: L) (X / 10)) := Lib.hid (by rw [hc]; exact qEr HF.out (.inl hX0)); clear hc; have hX1 : (0 : Int) < (X : Int) := by omega
    go_wp2_with (first
     | ((with_reducible refine qCQ ?_); refine qB7 rfl (.tmp 21) 46 9 rfl Tryz.underlying46 Tryz.underlying9 w.heap.size _ [c] rfl (qGP (qAW.new _ _ _) (qG7 X HC.out) hbz rfl (by unfold maxLen; decide)) ?_))
    exact ⟨⟨c :: L, X / 10, by rw [qEo]; rfl, rfl, by omega, hst.out, HB.trans ((Below.refl _ _).alloc hbz _)⟩, by have he := qIx c L; simp [intOf] at he ⊢; omega⟩
   ·obtain rfl : X = 0 := by omega
    cases L with
    | nil =>
     have hst : Hid (qLz N [48] 0) := Lib.hid (qEr HF.out (.inr rfl))
     go_wp2_with (first
      | ((with_reducible refine qCQ ?_); refine qB7 rfl (.tmp 21) 46 9 rfl Tryz.underlying46 Tryz.underlying9 w.heap.size _ [48] rfl (qGP (qAW.new _ _ _) rfl hbz rfl (by unfold maxLen; decide)) ?_))
     exact ⟨⟨[48], 0, rfl, rfl, by omega, hst.out, HB.trans ((Below.refl _ _).alloc hbz _)⟩, by simp only [intOf]; decide⟩
    | cons c r =>
     have hdone := Lib.hid (qIg HF.out (by omega) (by simp)); (have hsh2 : r.length ≤ 19 := by simp at hsh; omega); clear hsh; go_wp2; go_ret; (have hf : qFt n = 45 :: dig N := by unfold qFt; rw [if_pos hneg, HN.out]); rw [hf, ← hdone.out]; exact ⟨congrArg (fun x => Ending.returned (.string x)) (qEo [45] (c :: r)), HB⟩
 ·have e1 := qMf n hn hneg; rw [← hN] at e1; have HN := Lib.hid hN; clear hN hn; go_enter Tryz.func62, Tryz.ntmps62; go_wp2; clear e1
  go_loopw [3, 4] (fun sv xv wr => ∃ (L : List UInt8) (X : Nat), sv = .string ⟨L.toArray⟩ ∧ xv = .int .u64 X ∧ X ≤ N ∧ Hid (qLz N L X) ∧ Below w.heap.size w wr) (fun sv xv _ => (intOf xv).toNat * 2 + qI5 sv)
  case atStart => exact ⟨[], N, rfl, rfl, Nat.le_refl _, Lib.hid (.inl ⟨rfl, rfl⟩), HB⟩
  case round =>
   clear HB; obtain ⟨L, X, rfl, rfl, hX, HF, HB⟩ := hrel; (have q0 : 0 ≤ (X : Int) % 10 := by omega); (have q1 : (X : Int) % 10 ≤ 9 := by omega); (have q2 : 0 ≤ (X : Int) / 10 := by omega); (have q3 : (X : Int) / 10 ≤ 922337203685477581 := by have := HNB.out; omega); have hsh := qHg HF.out (by have := HNB.out; omega); have hbz := HB.size
   by_cases hX0 : 0 < X
   ·obtain ⟨c, hc⟩ : ∃ c : UInt8, c = (48 + X % 10).toUInt8 := ⟨_, rfl⟩; have HC := Lib.hid hc; have hst : Hid (qLz N (c :: L) (X / 10)) := Lib.hid (by rw [hc]; exact qEr HF.out (.inl hX0)); clear hc; have hX1 : (0 : Int) < (X : Int) := by omega
    go_wp2_with (first
     | ((with_reducible refine qCQ ?_); refine qB7 rfl (.tmp 21) 46 9 rfl Tryz.underlying46 Tryz.underlying9 w.heap.size _ [c] rfl (qGP (qAW.new _ _ _) (qG7 X HC.out) hbz rfl (by unfold maxLen; decide)) ?_))
    exact ⟨⟨c :: L, X / 10, by rw [qEo]; rfl, rfl, by omega, hst.out, HB.trans ((Below.refl _ _).alloc hbz _)⟩, by have he := qIx c L; simp [intOf] at he ⊢; omega⟩
   ·obtain rfl : X = 0 := by omega
    cases L with
    | nil =>
     have hst : Hid (qLz N [48] 0) := Lib.hid (qEr HF.out (.inr rfl))
     go_wp2_with (first
      | ((with_reducible refine qCQ ?_); refine qB7 rfl (.tmp 21) 46 9 rfl Tryz.underlying46 Tryz.underlying9 w.heap.size _ [48] rfl (qGP (qAW.new _ _ _) rfl hbz rfl (by unfold maxLen; decide)) ?_))
     exact ⟨⟨[48], 0, rfl, rfl, by omega, hst.out, HB.trans ((Below.refl _ _).alloc hbz _)⟩, by simp only [intOf]; decide⟩
    | cons c r =>
     have hdone := Lib.hid (qIg HF.out (by omega) (by simp)); go_wp2; go_ret; (have hf : qFt n = dig N := by unfold qFt; rw [if_neg (by omega), HN.out]); rw [hf, ← hdone.out]; exact ⟨rfl, HB⟩
end Go.Proofs.YtnjhmnolngdfaaaGreatDoor
namespace Go.Proofs.YtnjhmnolngdfaaaGreatDoor
open Go.RowKit Go.PlainAid
theorem qHJ (t : ByteArray) (k : Nat) (hk : k < t.size) : qFv (t.data.toList.take (k + 1)) = qFv (t.data.toList.take k) ++ qb t[k] := by
  (have hl : k < t.data.toList.length := by simpa using hk); rw [List.take_succ_eq_append_getElem hl, qMw]
  congr 1
  unfold qFv; simp; rfl
theorem qGe (l : List UInt8) : (qFv l).length ≤ 6 * l.length := by
  induction l with
  | nil => simp [qFv]
  | cons c r ih =>
    have h6 : (qb c).length ≤ 6 := by
        unfold qb; repeat' split
        all_goals simp
    unfold qFv at *; rw [List.flatMap_cons, List.length_append, List.length_cons]; omega
def qJO (base : Nat) (l : List UInt8) (w : World) (e : Ending) (w' : World) : Prop := ∃ v, e = .returned v ∧ qCg w' base v l ∧ KB base w w'
theorem qJO.of {base : Nat} {l m : List UInt8} {w w' : World} {v : Value} (h : qCg w' base v l) (hm : m = l) (hB : KB base w w') : qJO base m w (.returned v) w' := by subst hm; exact ⟨v, rfl, h, hB⟩
def HS : ByteArray := ⟨#[48, 49, 50, 51, 52, 53, 54, 55, 56, 57, 97, 98, 99, 100, 101, 102]⟩
theorem qIz (x : Int) (f : Sem Value) (w : World) (h0 : 0 ≤ x) (h1 : x < 16) : ((if h : 0 ≤ x ∧ x < 16 then Result.ok (Value.int .u8 ((HS[x.toNat]'(by show _ < 16; omega)).toNat : Int)) w else f.run Tryz.prog w).andThen fun a w' => Result.ok (Next.value a) w') = Result.ok (Next.value (.int .u8 (bt HS x.toNat))) w := by
  rw [dif_pos ⟨h0, h1⟩, get_bt HS]; rfl
theorem qPE : ∀ d : Nat, d < 16 → bt HS d = ((hx d).toNat : Int) := by decide
theorem qEV {base : Nat} {v : Value} {l : List UInt8} {t : ByteArray} {w : World} (HO : qCg w base v l) (hbase : base ≤ w.heap.size) (hl : l.length + 6 * t.size + 2 ≤ 70368744177664) :
    Calls Tryz.prog 63 #[v, .string t] w (qJO base (l ++ quo t) w) := by
  obtain ⟨ie, hie1, hie2, hie3, hie4⟩ := qC2; have hbs := get_bt t; have HB := KB.refl hbase; have hbz := hbase; have hbz0 := hbase; go_enter Tryz.func63, Tryz.ntmps63
  go_wp2_with (first
    | ((with_reducible refine qAm ?_); refine qAU 1 [(0, .int .u8 34)] #[.int .u8 34] ie _ (by rw [hie3]; exact qDI _) rfl 46 5 _ rfl rfl Tryz.underlying46 hie1 hie2 (by rw [hie3]; decide) (by rw [hie3]; decide) ?_; intro w9 hw; have hb := qAD hw; have B9 := (qAC hw).1; clear hw; replace HO := HO.below hb; replace HB := HB.trans (KB.of hb hbz); clear hb; replace hbz := HB.up hbz0)
    | (refine qAf rfl (.tmp 7) (.tmp 8) 46 rfl Tryz.underlying46 base _ l rfl HO _ _ [34] 1 rfl rfl (qAW.cells B9 (by rfl)) (by simp; omega) hbz ?_; intro v10 w10 ho10 hbb10; replace HO := ho10; replace HB := HB.trans hbb10; clear ho10 hbb10 B9; replace hbz := HB.up hbz0))
  go_loopw [0, 5] (fun bv iv wr => ∃ (k : Nat) (v1 : Value) (l1 : List UInt8), v1 = bv ∧ iv = .int .i64 k ∧ k ≤ t.size ∧ qCg wr base v1 l1 ∧ Hid (l1 = l ++ 34 :: qFv (t.data.toList.take k)) ∧ KB base w wr) (fun _ iv _ => t.size - (intOf iv).toNat)
  case atStart => exact ⟨0, _, l ++ [34], rfl, rfl, Nat.zero_le _, HO, Lib.hid (by simp [qFv]), HB⟩
  case round =>
    clear HO HB hbz; obtain ⟨k, v1, l1, rfl, rfl, hk, HO, HL, HB⟩ := hrel; have hbz := HB.up hbz0
    have hl1 : l1.length ≤ l.length + 1 + 6 * k := by
      rw [HL.out, List.length_append, List.length_cons]; have := qGe (t.data.toList.take k); rw [List.length_take] at this; omega
    by_cases hlt : k < t.size
    · (have hlt' : (k : Int) < (t.size : Int) := by omega); (have hk0 : ¬ (k : Int) < 0 := by omega); have b0 := bt_nonneg t k; have b1 := bt_le t k; have hqt := qHJ t k hlt; obtain ⟨c, hc⟩ : ∃ c, c = t[k] := ⟨_, rfl⟩; (have hcb : bt t k = (c.toNat : Int) := by rw [hc, ← get_bt t k hlt]); rw [← hc] at hqt; have HC := Lib.hid hcb; have HQ : Hid (l1 ++ qb c = l ++ 34 :: qFv (t.data.toList.take (k + 1))) := Lib.hid (by rw [hqt, HL.out]; simp); clear hqt hc
      by_cases h1 : bt t k = 34 ∨ bt t k = 92
      · have HQB : Hid (qb c = [92, c]) := Lib.hid (by unfold qb; rw [if_pos (by omega)]); (have hcell : (#[.int .u8 92, .int .u8 (bt t k)] : Array Value).toList = Lib.byteCells [92, c] := by rw [hcb]; rfl); rcases h1 with h1 | h1
        · (have q34 : (bt t k == 34) = true := by rw [h1]; rfl); (have q92 : (bt t k == 92) = false := by rw [h1]; rfl); clear h1 hcb
          go_wp2_with (first
            | ((with_reducible refine qAm ?_); refine qAU 2 [(0, .int .u8 92), (1, .int .u8 (bt t k))] #[.int .u8 92, .int .u8 (bt t k)] ie _ (by rw [hie3]; exact qFQ _ _) rfl 46 5 _ rfl rfl Tryz.underlying46 hie1 hie2 (by rw [hie3]; decide) (by rw [hie3]; decide) ?_; intro w9 hw; have hb := qAD hw; have B9 := (qAC hw).1; clear hw; replace HO := HO.below hb; replace HB := HB.trans (KB.of hb hbz); clear hb; replace hbz := HB.up hbz0)
            | (refine qAf rfl (.tmp 30) (.tmp 32) 46 rfl Tryz.underlying46 base _ l1 rfl HO _ _ [92, c] 2 rfl rfl (qAW.cells B9 (by exact hcell)) (by simp; omega) hbz ?_; intro v10 w10 ho10 hbb10; replace HO := ho10; replace HB := HB.trans hbb10; clear ho10 hbb10 B9; replace hbz := HB.up hbz0))
          go_roundw
          case rel => exact ⟨k + 1, _, _, rfl, by go_num, by omega, HO, Lib.hid (by rw [← HQ.out, HQB.out]), HB⟩
          case measure => simp [intOf]; omega
        · (have q34 : (bt t k == 34) = false := by rw [h1]; rfl); (have q92 : (bt t k == 92) = true := by rw [h1]; rfl); clear h1 hcb
          go_wp2_with (first
            | ((with_reducible refine qAm ?_); refine qAU 2 [(0, .int .u8 92), (1, .int .u8 (bt t k))] #[.int .u8 92, .int .u8 (bt t k)] ie _ (by rw [hie3]; exact qFQ _ _) rfl 46 5 _ rfl rfl Tryz.underlying46 hie1 hie2 (by rw [hie3]; decide) (by rw [hie3]; decide) ?_; intro w9 hw; have hb := qAD hw; have B9 := (qAC hw).1; clear hw; replace HO := HO.below hb; replace HB := HB.trans (KB.of hb hbz); clear hb; replace hbz := HB.up hbz0)
            | (refine qAf rfl (.tmp 30) (.tmp 32) 46 rfl Tryz.underlying46 base _ l1 rfl HO _ _ [92, c] 2 rfl rfl (qAW.cells B9 (by exact hcell)) (by simp; omega) hbz ?_; intro v10 w10 ho10 hbb10; replace HO := ho10; replace HB := HB.trans hbb10; clear ho10 hbb10 B9; replace hbz := HB.up hbz0))
          go_roundw
          case rel => exact ⟨k + 1, _, _, rfl, by go_num, by omega, HO, Lib.hid (by rw [← HQ.out, HQB.out]), HB⟩
          case measure => simp [intOf]; omega
      · (have q34 : (bt t k == 34) = false := by simp; omega); have q92 : (bt t k == 92) = false := by simp; omega
        by_cases h8 : bt t k = 8
        · have HQB : Hid (qb c = [92, 98]) := Lib.hid (by unfold qb; rw [if_neg (by omega), if_pos (by omega)]); (have q8 : (bt t k == 8) = true := by rw [h8]; rfl); clear hcb h1 h8
          go_wp2_with (first
            | ((with_reducible refine qAm ?_); refine qAU 2 [(0, .int .u8 92), (1, .int .u8 98)] #[.int .u8 92, .int .u8 98] ie _ (by rw [hie3]; exact qFQ _ _) rfl 46 5 _ rfl rfl Tryz.underlying46 hie1 hie2 (by rw [hie3]; decide) (by rw [hie3]; decide) ?_; intro w9 hw; have hb := qAD hw; have B9 := (qAC hw).1; clear hw; replace HO := HO.below hb; replace HB := HB.trans (KB.of hb hbz); clear hb; replace hbz := HB.up hbz0)
            | (refine qAf rfl (.tmp 37) (.tmp 38) 46 rfl Tryz.underlying46 base _ l1 rfl HO _ _ [92, 98] 2 rfl rfl (qAW.cells B9 (by rfl)) (by simp; omega) hbz ?_; intro v10 w10 ho10 hbb10; replace HO := ho10; replace HB := HB.trans hbb10; clear ho10 hbb10 B9; replace hbz := HB.up hbz0))
          go_roundw
          case rel => exact ⟨k + 1, _, _, rfl, by go_num, by omega, HO, Lib.hid (by rw [← HQ.out, HQB.out]), HB⟩
          case measure => simp [intOf]; omega
        · have q8 : (bt t k == 8) = false := by simpa using h8
          by_cases h9 : bt t k = 9
          · have HQB : Hid (qb c = [92, 116]) := Lib.hid (by unfold qb; rw [if_neg (by omega), if_neg (by omega), if_pos (by omega)]); (have q9 : (bt t k == 9) = true := by rw [h9]; rfl); clear hcb h1 h8 h9
            go_wp2_with (first
              | ((with_reducible refine qAm ?_); refine qAU 2 [(0, .int .u8 92), (1, .int .u8 116)] #[.int .u8 92, .int .u8 116] ie _ (by rw [hie3]; exact qFQ _ _) rfl 46 5 _ rfl rfl Tryz.underlying46 hie1 hie2 (by rw [hie3]; decide) (by rw [hie3]; decide) ?_; intro w9 hw; have hb := qAD hw; have B9 := (qAC hw).1; clear hw; replace HO := HO.below hb; replace HB := HB.trans (KB.of hb hbz); clear hb; replace hbz := HB.up hbz0)
              | (refine qAf rfl (.tmp 43) (.tmp 44) 46 rfl Tryz.underlying46 base _ l1 rfl HO _ _ [92, 116] 2 rfl rfl (qAW.cells B9 (by rfl)) (by simp; omega) hbz ?_; intro v10 w10 ho10 hbb10; replace HO := ho10; replace HB := HB.trans hbb10; clear ho10 hbb10 B9; replace hbz := HB.up hbz0))
            go_roundw
            case rel => exact ⟨k + 1, _, _, rfl, by go_num, by omega, HO, Lib.hid (by rw [← HQ.out, HQB.out]), HB⟩
            case measure => simp [intOf]; omega
          · have q9 : (bt t k == 9) = false := by simpa using h9
            by_cases h10 : bt t k = 10
            · have HQB : Hid (qb c = [92, 110]) := Lib.hid (by unfold qb; rw [if_neg (by omega), if_neg (by omega), if_neg (by omega), if_pos (by omega)]); (have q10 : (bt t k == 10) = true := by rw [h10]; rfl); clear hcb h1 h8 h9 h10
              go_wp2_with (first
                | ((with_reducible refine qAm ?_); refine qAU 2 [(0, .int .u8 92), (1, .int .u8 110)] #[.int .u8 92, .int .u8 110] ie _ (by rw [hie3]; exact qFQ _ _) rfl 46 5 _ rfl rfl Tryz.underlying46 hie1 hie2 (by rw [hie3]; decide) (by rw [hie3]; decide) ?_; intro w9 hw; have hb := qAD hw; have B9 := (qAC hw).1; clear hw; replace HO := HO.below hb; replace HB := HB.trans (KB.of hb hbz); clear hb; replace hbz := HB.up hbz0)
                | (refine qAf rfl (.tmp 49) (.tmp 50) 46 rfl Tryz.underlying46 base _ l1 rfl HO _ _ [92, 110] 2 rfl rfl (qAW.cells B9 (by rfl)) (by simp; omega) hbz ?_; intro v10 w10 ho10 hbb10; replace HO := ho10; replace HB := HB.trans hbb10; clear ho10 hbb10 B9; replace hbz := HB.up hbz0))
              go_roundw
              case rel => exact ⟨k + 1, _, _, rfl, by go_num, by omega, HO, Lib.hid (by rw [← HQ.out, HQB.out]), HB⟩
              case measure => simp [intOf]; omega
            · have q10 : (bt t k == 10) = false := by simpa using h10
              by_cases h12 : bt t k = 12
              · have HQB : Hid (qb c = [92, 102]) := Lib.hid (by unfold qb; rw [if_neg (by omega), if_neg (by omega), if_neg (by omega), if_neg (by omega), if_pos (by omega)]); (have q12 : (bt t k == 12) = true := by rw [h12]; rfl); clear hcb h1 h8 h9 h10 h12
                go_wp2_with (first
                  | ((with_reducible refine qAm ?_); refine qAU 2 [(0, .int .u8 92), (1, .int .u8 102)] #[.int .u8 92, .int .u8 102] ie _ (by rw [hie3]; exact qFQ _ _) rfl 46 5 _ rfl rfl Tryz.underlying46 hie1 hie2 (by rw [hie3]; decide) (by rw [hie3]; decide) ?_; intro w9 hw; have hb := qAD hw; have B9 := (qAC hw).1; clear hw; replace HO := HO.below hb; replace HB := HB.trans (KB.of hb hbz); clear hb; replace hbz := HB.up hbz0)
                  | (refine qAf rfl (.tmp 55) (.tmp 56) 46 rfl Tryz.underlying46 base _ l1 rfl HO _ _ [92, 102] 2 rfl rfl (qAW.cells B9 (by rfl)) (by simp; omega) hbz ?_; intro v10 w10 ho10 hbb10; replace HO := ho10; replace HB := HB.trans hbb10; clear ho10 hbb10 B9; replace hbz := HB.up hbz0))
                go_roundw
                case rel => exact ⟨k + 1, _, _, rfl, by go_num, by omega, HO, Lib.hid (by rw [← HQ.out, HQB.out]), HB⟩
                case measure => simp [intOf]; omega
              · have q12 : (bt t k == 12) = false := by simpa using h12
                by_cases h13 : bt t k = 13
                · have HQB : Hid (qb c = [92, 114]) := Lib.hid (by unfold qb; rw [if_neg (by omega), if_neg (by omega), if_neg (by omega), if_neg (by omega), if_neg (by omega), if_pos (by omega)]); (have q13 : (bt t k == 13) = true := by rw [h13]; rfl); clear hcb h1 h8 h9 h10 h12 h13
                  go_wp2_with (first
                    | ((with_reducible refine qAm ?_); refine qAU 2 [(0, .int .u8 92), (1, .int .u8 114)] #[.int .u8 92, .int .u8 114] ie _ (by rw [hie3]; exact qFQ _ _) rfl 46 5 _ rfl rfl Tryz.underlying46 hie1 hie2 (by rw [hie3]; decide) (by rw [hie3]; decide) ?_; intro w9 hw; have hb := qAD hw; have B9 := (qAC hw).1; clear hw; replace HO := HO.below hb; replace HB := HB.trans (KB.of hb hbz); clear hb; replace hbz := HB.up hbz0)
                    | (refine qAf rfl (.tmp 61) (.tmp 62) 46 rfl Tryz.underlying46 base _ l1 rfl HO _ _ [92, 114] 2 rfl rfl (qAW.cells B9 (by rfl)) (by simp; omega) hbz ?_; intro v10 w10 ho10 hbb10; replace HO := ho10; replace HB := HB.trans hbb10; clear ho10 hbb10 B9; replace hbz := HB.up hbz0))
                  go_roundw
                  case rel => exact ⟨k + 1, _, _, rfl, by go_num, by omega, HO, Lib.hid (by rw [← HQ.out, HQB.out]), HB⟩
                  case measure => simp [intOf]; omega
                · have q13 : (bt t k == 13) = false := by simpa using h13
                  by_cases h32 : bt t k < 32
                  · have HQB : Hid (qb c = [92, 117, 48, 48, hx (c.toNat / 16), hx (c.toNat % 16)]) := Lib.hid (by unfold qb; rw [if_neg (by omega), if_neg (by omega), if_neg (by omega), if_neg (by omega), if_neg (by omega), if_neg (by omega), if_pos (by omega)]); (have d1 : bt t k / 16 < 16 := by omega); (have d2 : bt t k % 16 < 16 := by omega); (have d3 : 0 ≤ bt t k / 16 := by omega); have d4 : 0 ≤ bt t k % 16 := by omega
                    have hcell : (#[.int .u8 92, .int .u8 117, .int .u8 48, .int .u8 48, .int .u8 (bt HS (bt t k / 16).toNat), .int .u8 (bt HS (bt t k % 16).toNat)] : Array Value).toList = Lib.byteCells [92, 117, 48, 48, hx (c.toNat / 16), hx (c.toNat % 16)] := by
                      rw [qPE _ (by omega), qPE _ (by omega), show (bt t k / 16).toNat = c.toNat / 16 by omega, show (bt t k % 16).toNat = c.toNat % 16 by omega]; rfl
                    clear hcb h1 h8 h9 h10 h12 h13; have E1 : Hid (IntKind.i64.wrap (IntKind.u8.wrap ((bt t k).tdiv 16)) = bt t k / 16) := Lib.hid (by rw [Int.tdiv_eq_ediv_of_nonneg b0, IntKind.wrap_u8, IntKind.wrap_i64]; omega); have E2 : Hid (IntKind.i64.wrap ((bt t k).tmod 16) = bt t k % 16) := Lib.hid (by rw [Int.tmod_eq_emod_of_nonneg b0, IntKind.wrap_i64]; omega); go_wp2; refine qBV (S := fun _ => True) (by kernel_rfl) (fun _ _ => True.intro) (fun w8 hh hbb hS => ?_); have hHeld := hbb _ (Nat.le_refl _); clear hh hbb; refine TKC 0 67 rfl ?_; (try simp only [Act.put, zA, zB, zC]); refine TKC 1 68 rfl ?_; (try simp only [Act.put, zA, zB, zC]); refine TKC 2 69 rfl ?_; (try simp only [Act.put, zA, zB, zC]); refine TKC 3 70 rfl ?_; (try simp only [Act.put, zA, zB, zC]); refine TKB 4 71 (.int .u8 (bt HS (bt t k / 16).toNat)) rfl ?_ ?_
                    · (intro w hSw; go_simp; generalize hX : IntKind.i64.wrap (IntKind.u8.wrap ((bt t k).tdiv 16)) = x; have hx2 := hX.symm.trans E1.out; subst hx2; exact qIz _ _ w (by omega) (by omega))
                    (try simp only [Act.put, zA, zB, zC]); refine TKC 5 72 rfl ?_; (try simp only [Act.put, zA, zB, zC]); refine TKC 6 73 rfl ?_; (try simp only [Act.put, zA, zB, zC]); refine TKC 7 74 rfl ?_; (try simp only [Act.put, zA, zB, zC]); refine TKB 8 75 (.int .u8 (bt HS (bt t k % 16).toNat)) rfl ?_ ?_
                    · (intro w hSw; go_simp; generalize hX : IntKind.i64.wrap ((bt t k).tmod 16) = x; have hx2 := hX.symm.trans E2.out; subst hx2; exact qIz _ _ w (by omega) (by omega))
                    (try simp only [Act.put, zA, zB, zC]); replace HO := HO.below hHeld; replace HB := HB.trans (KB.of hHeld hbz); replace hbz := HB.up hbz0; refine wpAnyH_ready (rs := [9]) (by kernel_rfl) (by simp) ?_; refine AllReadyH.cons (o := ⟨some 76, _, _, _, _, _⟩) rfl (fun K hK => ?_) AllReadyH.nil; simp only [Region.wanted, if_true]; refine qA7 6 _ _ ie _ (by rw [hie3]; exact qOq _ _ _ _ _ _) 46 5 _ rfl rfl Tryz.underlying46 hie1 hie2 (by rw [hie3]; decide) (by rw [hie3]; decide) ?_; intro w3 hw; have hb := qAD hw; have B9 := (qAC hw).1; clear hw; replace HO := HO.below hb; replace HB := HB.trans (KB.of hb hbz); replace hbz := HB.up hbz0; refine hK.out _ _ True.intro (fun hHeld2 => ?_); clear hK K hb hHeld; (try simp only [Act.put, zA, zB, zC]); refine wpAnyH_ready (rs := [10]) (by kernel_rfl) (by simp) ?_; refine AllReadyH.cons (o := ⟨some 77, _, _, _, _, _⟩) rfl (fun K hK => ?_) AllReadyH.nil; simp only [Region.wanted, if_true]; refine qFd _ _ 46 rfl Tryz.underlying46 base v1 l1 rfl HO _ _ [92, 117, 48, 48, hx (c.toNat / 16), hx (c.toNat % 16)] 6 rfl rfl (qAW.cells B9 hcell) (by simp; omega) hbz ?_; intro v10 w10 ho10 hbb10; replace HO := ho10; replace HB := HB.trans hbb10; clear ho10 B9; replace hbz := HB.up hbz0; refine hK.out _ _ True.intro (fun hHeld3 => ?_); clear hK K; (try simp only [Act.put, zA, zB, zC]); refine TKC 11 0 rfl ?_; (try simp only [Act.put, zA, zB, zC]); refine wpAnyH_done (by kernel_rfl) ?_ _; go_wp2; go_roundw
                    case rel => exact ⟨k + 1, _, _, rfl, by go_num, by omega, HO, Lib.hid (by rw [← HQ.out, HQB.out]), HB⟩
                    case measure => simp [intOf]; omega
                  · have HQB : Hid (qb c = [c]) := Lib.hid (by unfold qb; rw [if_neg (by omega), if_neg (by omega), if_neg (by omega), if_neg (by omega), if_neg (by omega), if_neg (by omega), if_neg (by omega)]); (have hcell : (#[.int .u8 (bt t k)] : Array Value).toList = Lib.byteCells [c] := by rw [hcb]; rfl); clear hcb h1 h8 h9 h10 h12 h13
                    go_wp2_with (first
                      | ((with_reducible refine qAm ?_); refine qAU 1 [(0, .int .u8 (bt t k))] #[.int .u8 (bt t k)] ie _ (by rw [hie3]; exact qDI _) rfl 46 5 _ rfl rfl Tryz.underlying46 hie1 hie2 (by rw [hie3]; decide) (by rw [hie3]; decide) ?_; intro w9 hw; have hb := qAD hw; have B9 := (qAC hw).1; clear hw; replace HO := HO.below hb; replace HB := HB.trans (KB.of hb hbz); clear hb; replace hbz := HB.up hbz0)
                      | (refine qAf rfl (.tmp 19) (.tmp 21) 46 rfl Tryz.underlying46 base _ l1 rfl HO _ _ [c] 1 rfl rfl (qAW.cells B9 (by exact hcell)) (by simp; omega) hbz ?_; intro v10 w10 ho10 hbb10; replace HO := ho10; replace HB := HB.trans hbb10; clear ho10 hbb10 B9; replace hbz := HB.up hbz0))
                    go_roundw
                    case rel => exact ⟨k + 1, _, _, rfl, by go_num, by omega, HO, Lib.hid (by rw [← HQ.out, HQB.out]), HB⟩
                    case measure => simp [intOf]; omega
    · (obtain rfl : k = t.size := by omega); (have hlt' : ¬ ((t.size : Nat) : Int) < (t.size : Int) := by omega); have HF : Hid (l ++ quo t = l1 ++ [34]) := Lib.hid (by rw [HL.out, List.take_of_length_le (by simp)]; unfold quo; simp); clear hk hlt
      go_wp2_with (first
        | ((with_reducible refine qAm ?_); refine qAU 1 [(0, .int .u8 34)] #[.int .u8 34] ie _ (by rw [hie3]; exact qDI _) rfl 46 5 _ rfl rfl Tryz.underlying46 hie1 hie2 (by rw [hie3]; decide) (by rw [hie3]; decide) ?_; intro w9 hw; have hb := qAD hw; have B9 := (qAC hw).1; clear hw; replace HO := HO.below hb; replace HB := HB.trans (KB.of hb hbz); clear hb; replace hbz := HB.up hbz0)
        | (refine qAf rfl (.tmp 78) (.tmp 79) 46 rfl Tryz.underlying46 base _ l1 rfl HO _ _ [34] 1 rfl rfl (qAW.cells B9 (by rfl)) (by simp; omega) hbz ?_; intro v10 w10 ho10 hbb10; replace HO := ho10; replace HB := HB.trans hbb10; clear ho10 hbb10 B9; replace hbz := HB.up hbz0))
      go_ret; exact qJO.of HO HF.out HB
end Go.Proofs.YtnjhmnolngdfaaaGreatDoor
