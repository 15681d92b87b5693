/- Rows of bytes of the call's own: appending a text; a few bytes built as a row. Layer 2: a number's text (coveyref02.figures), walked. -/
import Derived.Lib.AppendStr
import Derived.Maps.AppendAt
import Derived.Test.YtnjhmnolngdfaaaGreatDoorQ13
import Derived.Test.YtnjhmnolngdfaaaGreatDoorQZip
namespace Go.Proofs.YtnjhmnolngdfaaaGreatDoor
open Go.RowKit
set_option linter.unusedVariables false
set_option linter.unusedSimpArgs false
variable {ops : Array Oper} {rest : List Oper} {o : Oper} {a : Act} {w : World} {Q : Exit → Act → World → Prop}
/-- What lay below base is as it was, and so is every block that holds no bytes. -/
def KB (base : Nat) (w w' : World) : Prop := Below base w w' ∧ ∀ (g : Nat) (T : TypeId) (arr : Array Value), T ≠ 5 → IBox w g T arr → IBox w' g T arr
theorem KB.trans {base : Nat} {a b c : World} (h : KB base a b) (k : KB base b c) : KB base a c := ⟨h.1.trans k.1, fun g T arr hT hI => k.2 g T arr hT (h.2 g T arr hT hI)⟩
theorem KB.of {base : Nat} {w w' : World} (h : Below w.heap.size w w') (hb : base ≤ w.heap.size) : KB base w w' := ⟨h.mono hb, fun g T arr hT hI => zI hI h⟩
theorem KB.refl {base : Nat} {w : World} (hb : base ≤ w.heap.size) : KB base w w := KB.of (Below.refl _ _) hb
theorem KB.up {base : Nat} {w w' : World} (h : KB base w w') {n : Nat} (hn : n ≤ w.heap.size) : n ≤ w'.heap.size := Nat.le_trans hn h.1.size
theorem KB.grown {base : Nat} {w w' : World} {v : Value} {l : List UInt8} (hO : OwnB w base v l) (h : w.grownBy w' v.ownBlock) (hb : base ≤ w.heap.size) : KB base w w' := by
  refine ⟨(Below.refl base w).grown h hb fun k hk => (hO.lt k hk).1, fun g T arr hT hI => ?_⟩
  refine Bes.box (Bes.grown (X := fun q => v.ownBlock = some q) h (fun _ e => e)) hI fun e => ?_
  rcases hO.2 with ⟨rfl, _⟩ | ⟨g2, cap, cur, rfl, _, hg, _⟩
  · cases e
  · have e2 : g2 = g := Option.some.inj e
    subst e2
    have e3 := hg.symm.trans hI
    injection e3 with e3
    injection e3 with _ e4 _
    exact hT e4.symm
theorem wpl_append_text (hgd : o.guard = none) (s x : Operand) (t u : TypeId) (ho : o.op = .call { callee := .builtin .append, args := #[s, x], argTypes := #[t, u] }) (ht : Tryz.prog.underlying t = some (.slice 5)) (hu : Tryz.prog.underlying u = some .string)
    (base : Nat) (v : Value) (l : List UInt8) (hs : a.eval s = v) (hown : OwnB w base v l) (x0 : ByteArray) (hx : a.eval x = .string x0) (hl : l.length + x0.size ≤ 140737488355328) (hbase : base ≤ w.heap.size)
    (h : ∀ v' w', OwnB w' base v' (l ++ x0.data.toList) → KB base w w' → wpList Tryz.prog ops Q rest (a.put o.dst v') w') : wpList Tryz.prog ops Q (o :: rest) a w := by
  obtain ⟨ie, h1, h2, h3, h4⟩ := u8_info
  refine Go.Lib.wpList_append_own_string w hgd s x t u ho base 5 ie ht hu h1 h2 h3 h4 v l.length (Lib.byteCells l) hs hown x0 hx (by unfold maxLen; omega) hl hbase ?_
  intro v' w' h5 h6 _
  refine h v' w' ?_ (KB.grown hown h6 hbase)
  unfold OwnB
  rw [List.length_append, Lib.byteCells_append, show x0.data.toList.length = x0.size by simp]
  exact h5
theorem wpl_append_bytesK (hgd : o.guard = none) (s x : Operand) (t : TypeId) (ho : o.op = .call { callee := .builtin .append, args := #[s, x], argTypes := #[t, t] }) (ht : Tryz.prog.underlying t = some (.slice 5))
    (base : Nat) (v : Value) (l : List UInt8) (hs : a.eval s = v) (hown : OwnB w base v l)
    (g c : Nat) (m : List UInt8) (k : Nat) (hk : k = m.length) (hx : a.eval x = .slice (some ⟨g, 0, none⟩) k c) (IB : ∀ (j : Nat) (u : Value), (Lib.byteCells m)[j]? = some u → w.cell? ⟨g, j, none⟩ = some u)
    (hl : l.length + m.length ≤ 140737488355328) (hbase : base ≤ w.heap.size)
    (h : ∀ v' w', OwnB w' base v' (l ++ m) → KB base w w' → wpList Tryz.prog ops Q rest (a.put o.dst v') w') : wpList Tryz.prog ops Q (o :: rest) a w := by
  obtain ⟨ie, h1, h2, h3, h4⟩ := u8_info
  subst hk
  refine wpList_append_own w hgd s x t ho base 5 ie _ 1 1 ht h1 h2 h3 h4 rfl (by decide) v l.length (Lib.byteCells l) hs hown ⟨g, 0, none⟩ m.length c (Lib.byteCells m) hx (by rw [Lib.byteCells_length]; omega) ?_ (bytes_one m) (by unfold maxLen; omega) (by omega) hbase ?_
  · intro j u hu
    have hadd : (⟨g, 0, none⟩ : Addr).add j = ⟨g, j, none⟩ := by unfold Addr.add; split <;> simp_all
    rw [hadd]
    exact IB j u hu
  · intro v' w' h5 h6 _
    refine h v' w' ?_ (KB.grown hown h6 hbase)
    unfold OwnB
    rw [List.length_append, Lib.byteCells_append]
    exact h5
/-- The same as one operation of a region that draws its order. -/
theorem op_append_bytes {K : Act → World → Prop} (s x : Operand) (t : TypeId) (ho : o.op = .call { callee := .builtin .append, args := #[s, x], argTypes := #[t, t] }) (ht : Tryz.prog.underlying t = some (.slice 5))
    (base : Nat) (v : Value) (l : List UInt8) (hs : a.eval s = v) (hown : OwnB w base v l)
    (g c : Nat) (m : List UInt8) (k : Nat) (hk : k = m.length) (hx : a.eval x = .slice (some ⟨g, 0, none⟩) k c) (IB : ∀ (j : Nat) (u : Value), (Lib.byteCells m)[j]? = some u → w.cell? ⟨g, j, none⟩ = some u)
    (hl : l.length + m.length ≤ 140737488355328) (hbase : base ≤ w.heap.size)
    (h : ∀ v' w', OwnB w' base v' (l ++ m) → KB base w w' → K (a.put o.dst v') w') : o.wp Tryz.prog a w K Q := by
  obtain ⟨ie, h1, h2, h3, h4⟩ := u8_info
  subst hk
  obtain ⟨v', w', hr, h5, h6, _, _⟩ := run_append_own_at (P := Tryz.prog) w base t o.type 5 ie _ 1 1 ht h1 h2 h3 h4 rfl (by decide) v l.length (Lib.byteCells l) hown ⟨g, 0, none⟩ m.length c (Lib.byteCells m) (by rw [Lib.byteCells_length]; omega) (fun j u hu => by
    have hadd : (⟨g, 0, none⟩ : Addr).add j = ⟨g, j, none⟩ := by unfold Addr.add; split <;> simp_all
    rw [hadd]
    exact IB j u hu) (bytes_one m) (by unfold maxLen; omega) (by omega) hbase
  have hfin := h v' w' (by unfold OwnB; rw [List.length_append, Lib.byteCells_append]; exact h5) (KB.grown hown h6 hbase)
  generalize hP : Tryz.prog = P at *
  unfold Oper.wp execOp
  simp only [ho, resolve, invoke, builtin, Sem.run_bind, Sem.run_pure, Result.andThen_ok, List.map_toArray, List.map_cons, List.map_nil, hs, hx, hr]
  exact hfin
theorem bfill1 (p : Int) : Instr.fill (fun i => some (i * 1, 1)) ((Array.range (1 * 1)).map ((Value.int .u8 0).cells[· % (Value.int .u8 0).cells.size]!)) [(0, .int .u8 p)] = some #[.int .u8 p] := by kernel_rfl
theorem bfill2 (p q : Int) : Instr.fill (fun i => some (i * 1, 1)) ((Array.range (2 * 1)).map ((Value.int .u8 0).cells[· % (Value.int .u8 0).cells.size]!)) [(0, .int .u8 p), (1, .int .u8 q)] = some #[.int .u8 p, .int .u8 q] := by kernel_rfl
theorem bfill6 (p q r x y z : Int) : Instr.fill (fun i => some (i * 1, 1)) ((Array.range (6 * 1)).map ((Value.int .u8 0).cells[· % (Value.int .u8 0).cells.size]!)) [(0, .int .u8 p), (1, .int .u8 q), (2, .int .u8 r), (3, .int .u8 x), (4, .int .u8 y), (5, .int .u8 z)] = some #[.int .u8 p, .int .u8 q, .int .u8 r, .int .u8 x, .int .u8 y, .int .u8 z] := by kernel_rfl
theorem IBox.cells {w : World} {g : Nat} {t : TypeId} {arr : Array Value} (h : IBox w g t arr) {m : List UInt8} (hm : arr.toList = Lib.byteCells m) : ∀ (j : Nat) (u : Value), (Lib.byteCells m)[j]? = some u → w.cell? ⟨g, j, none⟩ = some u := fun j u hu => by
  rw [h.cell, ← Array.getElem?_toList, hm]
  exact hu
/-- A row that lies whole in a block of the call's own. -/
theorem own_box {w : World} {base g : Nat} {arr : Array Value} {m : List UInt8} {n : Nat} (h : IBox w g 5 arr) (hm : arr.toList = Lib.byteCells m) (hb : base ≤ g) (hn : m.length = n) (hmax : n ≤ maxLen) : OwnB w base (.slice (some ⟨g, 0, none⟩) n n) m := by
  subst hn
  have hl : arr.size = m.length := by rw [← Array.length_toList, hm, Lib.byteCells_length]
  refine ⟨by rw [Lib.byteCells_length]; omega, .inr ⟨g, m.length, arr, rfl, hb, h, Nat.le_refl _, hmax, by omega, ?_⟩⟩
  rw [hm, List.take_of_length_le (by rw [Lib.byteCells_length]; omega)]
end Go.Proofs.YtnjhmnolngdfaaaGreatDoor
namespace Go.Proofs.YtnjhmnolngdfaaaGreatDoor
open Go.RowKit Go.PlainAid
set_option linter.unusedVariables false
set_option linter.unusedSimpArgs false
theorem dig_len : ∀ (n x : Nat), x < 10 ^ n → 0 < n → (dig x).length ≤ n
  | 0, x, _, h => by omega
  | n + 1, x, hx, _ => by
    by_cases h : x < 10
    · rw [dec_lt h]; simp
    · rw [dec_ge h, List.length_append]
      have hn : 0 < n := by
        rcases Nat.eq_zero_or_pos n with h0 | h0
        · subst h0; simp at hx; omega
        · exact h0
      have := dig_len n (x / 10) (by rw [Nat.pow_succ] at hx; omega) hn
      simp
      omega
def u64Top : Int := 18446744073709551616
theorem fig_u64 (n : Int) (h : I64 n) (hn : n < 0) : IntKind.u64.wrap n = n + u64Top ∧ IntKind.u64.wrap (0 - (n + u64Top)) = (n.natAbs : Int) := by
  unfold I64 at h
  unfold u64Top
  rw [IntKind.wrap_u64, IntKind.wrap_u64]
  constructor <;> omega
theorem fig_u64p (n : Int) (h : I64 n) (hn : ¬ n < 0) : IntKind.u64.wrap n = (n.natAbs : Int) := by
  unfold I64 at h
  rw [IntKind.wrap_u64]
  omega
/-- The digits so far, and what is left of the number. -/
def FigL (N : Nat) (L : List UInt8) (X : Nat) : Prop := (L = [] ∧ X = N) ∨ (X = 0 ∧ L = dig N) ∨ (0 < X ∧ dig X ++ L = dig N)
theorem fig_step {N X : Nat} {L : List UInt8} (h : FigL N L X) (hg : 0 < X ∨ L = []) : FigL N ((48 + X % 10).toUInt8 :: L) (X / 10) := by
  have key : dig X ++ L = dig N := by
    rcases h with ⟨h1, h2⟩ | ⟨h1, h2⟩ | ⟨h1, h2⟩
    · rw [h1, h2, List.append_nil]
    · rcases hg with hg | hg
      · omega
      · rw [hg] at h2
        obtain ⟨_, _, c, r, h3, _⟩ := dig_spec (N + 1) N (Nat.lt_succ_self _)
        rw [h3] at h2; cases h2
    · exact h2
  by_cases hx : X < 10
  · refine .inr (.inl ⟨by omega, ?_⟩)
    rw [dec_lt hx] at key
    rw [← key, show X % 10 = X by omega]; rfl
  · refine .inr (.inr ⟨by omega, ?_⟩)
    rw [dec_ge hx, List.append_assoc] at key
    exact key
theorem fig_done {N X : Nat} {L : List UInt8} (h : FigL N L X) (h0 : ¬ 0 < X) (hL : L ≠ []) : L = dig N := by
  rcases h with ⟨h1, h2⟩ | ⟨h1, h2⟩ | ⟨h1, h2⟩
  · exact absurd h1 hL
  · exact h2
  · omega
theorem fig_short {N X : Nat} {L : List UInt8} (h : FigL N L X) (hN : N < 100000000000000000000) : L.length ≤ 20 := by
  have := dig_len 20 N (by omega) (by omega)
  rcases h with ⟨h1, h2⟩ | ⟨h1, h2⟩ | ⟨h1, h2⟩
  · rw [h1]; simp
  · rw [h2]; exact this
  · have h3 := congrArg List.length h2
    rw [List.length_append] at h3
    omega
theorem dbyte2 (d : Nat) (h : d < 10) : ((48 + d).toUInt8.toNat : Int) = 48 + (d : Int) := by rw [dbyte h]; omega
theorem cat_list (a b : List UInt8) : (⟨a.toArray⟩ : ByteArray) ++ ⟨b.toArray⟩ = ⟨(a ++ b).toArray⟩ := by
  apply ByteArray.ext
  simp
def emptyN : Value → Nat
  | .string s => if s.size = 0 then 1 else 0
  | _ => 0
theorem emp_cons (c : UInt8) (L : List UInt8) : emptyN (.string ((⟨[c].toArray⟩ : ByteArray) ++ ⟨L.toArray⟩)) = 0 := by
  rw [cat_list]
  unfold emptyN
  simp [ByteArray.size]
theorem fig_cells (X : Nat) {c : UInt8} (hc : c = (48 + X % 10).toUInt8) : (#[.int .u8 (48 + (X : Int) % 10)] : Array Value).toList = Lib.byteCells [c] := by
  subst hc
  unfold Lib.byteCells
  rw [List.map_cons, List.map_nil, dbyte2 _ (by omega)]
  rfl
set_option maxRecDepth 10000 in
set_option maxHeartbeats 4000000 in
theorem figures_any {n : Int} (hn : I64 n) (w : World) : Calls Tryz.prog 62 #[.int .i64 n] w fun e w' => e = .returned (.string ⟨(figL n).toArray⟩) ∧ Below w.heap.size w w' := by
  obtain ⟨N, hN⟩ : ∃ N, N = n.natAbs := ⟨_, rfl⟩
  have HB := Below.refl w.heap.size w
  have hNB : N ≤ 9223372036854775808 := by unfold I64 at hn; omega
  have HNB := Lib.hid hNB
  clear hNB
  by_cases hneg : n < 0
  · obtain ⟨e1, e2⟩ := fig_u64 n hn hneg
    have e3 : IntKind.u64.wrap (-(n + u64Top)) = (N : Int) := by rw [hN, ← e2]; congr 1; omega
    have HN := Lib.hid hN
    clear hN hn e2
    go_enter Tryz.func62, Tryz.ntmps62
    go_wp2
    clear e1 e3
    go_loopw [3, 4] (fun sv xv wr => ∃ (L : List UInt8) (X : Nat), sv = .string ⟨L.toArray⟩ ∧ xv = .int .u64 X ∧ X ≤ N ∧ Hid (FigL N L X) ∧ Below w.heap.size w wr) (fun sv xv _ => (intOf xv).toNat * 2 + emptyN sv)
    case atStart => exact ⟨[], N, rfl, rfl, Nat.le_refl _, Lib.hid (.inl ⟨rfl, rfl⟩), HB⟩
    case round =>
      clear HB
      obtain ⟨L, X, rfl, rfl, hX, HF, HB⟩ := hrel
      have q0 : 0 ≤ (X : Int) % 10 := by omega
      have q1 : (X : Int) % 10 ≤ 9 := by omega
      have q2 : 0 ≤ (X : Int) / 10 := by omega
      have q3 : (X : Int) / 10 ≤ 922337203685477581 := by have := HNB.out; omega
      have hsh := fig_short HF.out (by have := HNB.out; omega)
      have hbz := HB.size
      by_cases hX0 : 0 < X
      · obtain ⟨c, hc⟩ : ∃ c : UInt8, c = (48 + X % 10).toUInt8 := ⟨_, rfl⟩
        have HC := Lib.hid hc
        have hst : Hid (FigL N (c :: L) (X / 10)) := Lib.hid (by rw [hc]; exact fig_step HF.out (.inl hX0))
        clear hc
        have hX1 : (0 : Int) < (X : Int) := by omega
        go_wp2_with (first
          | ((with_reducible refine is_convert ?_); refine wpl_own_text rfl (.tmp 21) 46 9 rfl Tryz.underlying46 Tryz.underlying9 w.heap.size _ [c] rfl (own_box (IBox.new _ _ _) (fig_cells X HC.out) hbz rfl (by unfold maxLen; decide)) ?_))
        exact ⟨⟨c :: L, X / 10, by rw [cat_list]; rfl, rfl, by omega, hst.out, HB.trans ((Below.refl _ _).alloc hbz _)⟩, by have he := emp_cons c L; simp [intOf] at he ⊢; omega⟩
      · obtain rfl : X = 0 := by omega
        cases L with
        | nil =>
          have hst : Hid (FigL N [48] 0) := Lib.hid (fig_step HF.out (.inr rfl))
          go_wp2_with (first
            | ((with_reducible refine is_convert ?_); refine wpl_own_text rfl (.tmp 21) 46 9 rfl Tryz.underlying46 Tryz.underlying9 w.heap.size _ [48] rfl (own_box (IBox.new _ _ _) rfl hbz rfl (by unfold maxLen; decide)) ?_))
          exact ⟨⟨[48], 0, rfl, rfl, by omega, hst.out, HB.trans ((Below.refl _ _).alloc hbz _)⟩, by simp only [intOf]; decide⟩
        | cons c r =>
          have hdone := Lib.hid (fig_done HF.out (by omega) (by simp))
          have hsh2 : r.length ≤ 19 := by simp at hsh; omega
          clear hsh
          go_wp2
          go_ret
          have hf : figL n = 45 :: dig N := by unfold figL; rw [if_pos hneg, HN.out]
          rw [hf, ← hdone.out]
          exact ⟨congrArg (fun x => Ending.returned (.string x)) (cat_list [45] (c :: r)), HB⟩
  · have e1 := fig_u64p n hn hneg
    rw [← hN] at e1
    have HN := Lib.hid hN
    clear hN hn
    go_enter Tryz.func62, Tryz.ntmps62
    go_wp2
    clear e1
    go_loopw [3, 4] (fun sv xv wr => ∃ (L : List UInt8) (X : Nat), sv = .string ⟨L.toArray⟩ ∧ xv = .int .u64 X ∧ X ≤ N ∧ Hid (FigL N L X) ∧ Below w.heap.size w wr) (fun sv xv _ => (intOf xv).toNat * 2 + emptyN sv)
    case atStart => exact ⟨[], N, rfl, rfl, Nat.le_refl _, Lib.hid (.inl ⟨rfl, rfl⟩), HB⟩
    case round =>
      clear HB
      obtain ⟨L, X, rfl, rfl, hX, HF, HB⟩ := hrel
      have q0 : 0 ≤ (X : Int) % 10 := by omega
      have q1 : (X : Int) % 10 ≤ 9 := by omega
      have q2 : 0 ≤ (X : Int) / 10 := by omega
      have q3 : (X : Int) / 10 ≤ 922337203685477581 := by have := HNB.out; omega
      have hsh := fig_short HF.out (by have := HNB.out; omega)
      have hbz := HB.size
      by_cases hX0 : 0 < X
      · obtain ⟨c, hc⟩ : ∃ c : UInt8, c = (48 + X % 10).toUInt8 := ⟨_, rfl⟩
        have HC := Lib.hid hc
        have hst : Hid (FigL N (c :: L) (X / 10)) := Lib.hid (by rw [hc]; exact fig_step HF.out (.inl hX0))
        clear hc
        have hX1 : (0 : Int) < (X : Int) := by omega
        go_wp2_with (first
          | ((with_reducible refine is_convert ?_); refine wpl_own_text rfl (.tmp 21) 46 9 rfl Tryz.underlying46 Tryz.underlying9 w.heap.size _ [c] rfl (own_box (IBox.new _ _ _) (fig_cells X HC.out) hbz rfl (by unfold maxLen; decide)) ?_))
        exact ⟨⟨c :: L, X / 10, by rw [cat_list]; rfl, rfl, by omega, hst.out, HB.trans ((Below.refl _ _).alloc hbz _)⟩, by have he := emp_cons c L; simp [intOf] at he ⊢; omega⟩
      · obtain rfl : X = 0 := by omega
        cases L with
        | nil =>
          have hst : Hid (FigL N [48] 0) := Lib.hid (fig_step HF.out (.inr rfl))
          go_wp2_with (first
            | ((with_reducible refine is_convert ?_); refine wpl_own_text rfl (.tmp 21) 46 9 rfl Tryz.underlying46 Tryz.underlying9 w.heap.size _ [48] rfl (own_box (IBox.new _ _ _) rfl hbz rfl (by unfold maxLen; decide)) ?_))
          exact ⟨⟨[48], 0, rfl, rfl, by omega, hst.out, HB.trans ((Below.refl _ _).alloc hbz _)⟩, by simp only [intOf]; decide⟩
        | cons c r =>
          have hdone := Lib.hid (fig_done HF.out (by omega) (by simp))
          go_wp2
          go_ret
          have hf : figL n = dig N := by unfold figL; rw [if_neg (by omega), HN.out]
          rw [hf, ← hdone.out]
          exact ⟨rfl, HB⟩
end Go.Proofs.YtnjhmnolngdfaaaGreatDoor
