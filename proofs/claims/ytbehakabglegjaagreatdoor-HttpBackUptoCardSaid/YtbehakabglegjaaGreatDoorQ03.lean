/- Bytes in memory: what the program says of their type. Rows of bytes of the call's own: appending a row that lies whole in a block, appending none, the row as a text. Rows of bytes of the call's own: appending a text; a few bytes built as a row. Characters and their bytes, in plain words. -/
import Derived.Test.YtbehakabglegjaaGreatDoorQ02
import Derived.Laws.AppendOwnNone
import Derived.Laws.IdiomStrings
import Derived.Lib.AppendStr
import Derived.Maps.AppendAt
import Derived.Lib.MapLaws
import Derived.Lib.ValidLaws
import Derived.Lib.RuneBytes
namespace Go.Proofs.YtbehakabglegjaaGreatDoor
open Go.RowKit
theorem info_u8 : (Tryz.prog.info? 5).map (fun i => (i.zero, i.size, i.bytes)) = some (some (.int .u8 0), 1, 1) := by kernel_rfl
theorem u8_info : ∃ ie, Tryz.prog.info? 5 = some ie ∧ ie.zero = some (.int .u8 0) ∧ ie.size = 1 ∧ ie.bytes = 1 := by
  have h := info_u8
  cases hq : Tryz.prog.info? 5 with
  | none => rw [hq] at h; cases h
  | some ie =>
    rw [hq] at h
    simp only [Option.map_some, Option.some.injEq, Prod.mk.injEq] at h
    exact ⟨ie, rfl, h.1, h.2.1, h.2.2⟩
end Go.Proofs.YtbehakabglegjaaGreatDoor
namespace Go.Proofs.YtbehakabglegjaaGreatDoor
open Go.RowKit
set_option linter.unusedVariables false
set_option linter.unusedSimpArgs false
variable {ops : Array Oper} {rest : List Oper} {o : Oper} {a : Act} {w : World} {Q : Exit → Act → World → Prop}
/-- v is a row of these bytes of the call's own. -/
abbrev OwnB (w : World) (base : Nat) (v : Value) (l : List UInt8) : Prop := w.ownsRow base 5 1 v l.length (Lib.byteCells l)
theorem OwnB.nil (w : World) (base : Nat) : OwnB w base (.slice none 0 0) [] := ⟨rfl, .inl ⟨rfl, rfl⟩⟩
theorem OwnB.bes {w w' : World} {X : Nat → Prop} {base : Nat} {v : Value} {l : List UInt8} (h : OwnB w base v l) (hb : Bes X w w') (hX : ∀ k, X k → k < base) : OwnB w' base v l :=
  Bes.own hb h fun k hk hx => by have := (own_in h hk).1; have := hX k hx; omega
theorem OwnB.below {w w' : World} {base : Nat} {v : Value} {l : List UInt8} (h : OwnB w base v l) (hb : Below w.heap.size w w') : OwnB w' base v l := h.bes (X := fun _ => False) (Bes.of_below hb) (fun _ h => h.elim)
theorem bytes_one (l : List UInt8) : ∀ u ∈ Lib.byteCells l, u.oneCell' = true := by
  intro u hu
  unfold Lib.byteCells at hu
  obtain ⟨b, _, rfl⟩ := List.mem_map.1 hu
  rfl
/-- The row grown by the bytes of a row that lies whole in a block. -/
theorem wpl_append_bytes (hgd : o.guard = none) (s x : Operand) (t : TypeId) (ho : o.op = .call { callee := .builtin .append, args := #[s, x], argTypes := #[t, t] }) (ht : Tryz.prog.underlying t = some (.slice 5))
    (base : Nat) (v : Value) (l : List UInt8) (hs : a.eval s = v) (hown : OwnB w base v l)
    (g c : Nat) (m : List UInt8) (ty : TypeId) (k : Nat) (hk : k = m.length) (hx : a.eval x = .slice (some ⟨g, 0, none⟩) k c) (IB : ∀ (j : Nat) (u : Value), (Lib.byteCells m)[j]? = some u → w.cell? ⟨g, j, none⟩ = some u)
    (hl : l.length + m.length ≤ 140737488355328) (hbase : base ≤ w.heap.size)
    (h : ∀ v' w', OwnB w' base v' (l ++ m) → Bes (fun q => base ≤ q) w w' → Below base w w' → wpList Tryz.prog ops Q rest (a.put o.dst v') w') : wpList Tryz.prog ops Q (o :: rest) a w := by
  obtain ⟨ie, h1, h2, h3, h4⟩ := u8_info
  subst hk
  refine wpList_append_own w hgd s x t ho base 5 ie _ 1 1 ht h1 h2 h3 h4 rfl (by decide) v l.length (Lib.byteCells l) hs hown ⟨g, 0, none⟩ m.length c (Lib.byteCells m) hx (by rw [Lib.byteCells_length]; omega) ?_ (bytes_one m) (by unfold maxLen; omega) (by omega) hbase ?_
  · intro j u hu
    have hadd : (⟨g, 0, none⟩ : Addr).add j = ⟨g, j, none⟩ := by unfold Addr.add; split <;> simp_all
    rw [hadd]
    exact IB j u hu
  · intro v' w' h5 h6 _
    refine h v' w' ?_ (Bes.grown h6 fun k hk => (own_in hown hk).1) ((Below.refl base w).grown h6 hbase fun k hk => (hown.lt k hk).1)
    unfold OwnB
    rw [List.length_append, Lib.byteCells_append]
    exact h5
/-- Nothing is added. -/
theorem wpl_append_none (hgd : o.guard = none) (s x : Operand) (t : TypeId) (ho : o.op = .call { callee := .builtin .append, args := #[s, x], argTypes := #[t, t] }) (ht : Tryz.prog.underlying t = some (.slice 5))
    (base : Nat) (v : Value) (l : List UInt8) (hs : a.eval s = v) (hown : OwnB w base v l) (hx : a.eval x = .slice none 0 0)
    (h : wpList Tryz.prog ops Q rest (a.put o.dst v) w) : wpList Tryz.prog ops Q (o :: rest) a w := by
  obtain ⟨ie, h1, h2, h3, h4⟩ := u8_info
  exact wpList_append_own_none hgd s x t ho base 5 ie 1 ht h1 v l.length (Lib.byteCells l) hs hown hx h
theorem run_own_text {base : Nat} {v : Value} {l : List UInt8} {t u : TypeId} (ht : Tryz.prog.underlying t = some (.slice 5)) (hu : Tryz.prog.underlying u = some .string) (hown : OwnB w base v l) : (convert t u v).run Tryz.prog w = .ok (.string ⟨l.toArray⟩) w := by
  rcases hown.2 with ⟨rfl, h0⟩ | ⟨g, cap, cur, rfl, hb, hg, hn, hc, hs, htk⟩
  · have : l = [] := List.eq_nil_of_length_eq_zero h0
    subst this
    exact (run_convert_bytes_nil w t 5 ht Tryz.underlying5 0 0 u hu).trans (by rfl)
  · refine run_convert_bytes_back w t u 5 ⟨g, 0, none⟩ cap l ht Tryz.underlying5 hu fun j hj => ?_
    have hadd : (⟨g, 0, none⟩ : Addr).add j = ⟨g, j, none⟩ := by unfold Addr.add; split <;> simp_all
    have hI : IBox w g 5 cur := hg
    rw [hadd, hI.cell]
    have h1 : (Lib.byteCells l)[j]? = some (.int .u8 (l[j].toNat : Int)) := by
      unfold Lib.byteCells
      rw [List.getElem?_map, List.getElem?_eq_getElem hj]; rfl
    rw [← htk, List.getElem?_take] at h1
    split at h1
    · simpa using h1
    · cases h1
/-- The row as a text. -/
theorem wpl_own_text (hgd : o.guard = none) (x : Operand) (t u : TypeId) (ho : o.op = .convert t u x) (ht : Tryz.prog.underlying t = some (.slice 5)) (hu : Tryz.prog.underlying u = some .string) (base : Nat) (v : Value) (l : List UInt8) (hs : a.eval x = v) (hown : OwnB w base v l)
    (h : wpList Tryz.prog ops Q rest (a.put o.dst (.string ⟨l.toArray⟩)) w) : wpList Tryz.prog ops Q (o :: rest) a w :=
  wpList_plain hgd fun _ hK => by
    have e := run_own_text (t := t) (u := u) ht hu hown
    generalize hP : Tryz.prog = P at *
    unfold Oper.wp execOp
    simp only [ho, hs, Sem.run_bind, e, Result.andThen_ok, Sem.run_pure]
    exact hK _ _ h
theorem is_convert {P : Program} {d : Option Tmp} {t u : TypeId} {x : Operand} {tt : TypeId} {ps : String} {af : Array Edge} {gd : Option (Nat × Bool)} (h : wpList P ops Q (⟨d, .convert t u x, tt, ps, af, gd⟩ :: rest) a w) : wpList P ops Q (⟨d, .convert t u x, tt, ps, af, gd⟩ :: rest) a w := h
end Go.Proofs.YtbehakabglegjaaGreatDoor
namespace Go.Proofs.YtbehakabglegjaaGreatDoor
open Go.RowKit
set_option linter.unusedVariables false
set_option linter.unusedSimpArgs false
variable {ops : Array Oper} {rest : List Oper} {o : Oper} {a : Act} {w : World} {Q : Exit → Act → World → Prop}
/-- What lay below base is as it was, and so is every block that holds no bytes. -/
def KB (base : Nat) (w w' : World) : Prop := Below base w w' ∧ ∀ (g : Nat) (T : TypeId) (arr : Array Value), T ≠ 5 → IBox w g T arr → IBox w' g T arr
theorem KB.trans {base : Nat} {a b c : World} (h : KB base a b) (k : KB base b c) : KB base a c := ⟨h.1.trans k.1, fun g T arr hT hI => k.2 g T arr hT (h.2 g T arr hT hI)⟩
theorem KB.of {base : Nat} {w w' : World} (h : Below w.heap.size w w') (hb : base ≤ w.heap.size) : KB base w w' := ⟨h.mono hb, fun g T arr hT hI => IBox.below hI h (IBox.lt hI)⟩
theorem KB.refl {base : Nat} {w : World} (hb : base ≤ w.heap.size) : KB base w w := KB.of (Below.refl _ _) hb
theorem KB.up {base : Nat} {w w' : World} (h : KB base w w') {n : Nat} (hn : n ≤ w.heap.size) : n ≤ w'.heap.size := Nat.le_trans hn h.1.size
theorem KB.grown {base : Nat} {w w' : World} {v : Value} {l : List UInt8} (hO : OwnB w base v l) (h : w.grownBy w' v.ownBlock) (hb : base ≤ w.heap.size) : KB base w w' := by
  refine ⟨(Below.refl base w).grown h hb fun k hk => (hO.lt k hk).1, fun g T arr hT hI => ?_⟩
  refine Bes.box (Bes.grown (X := fun q => v.ownBlock = some q) h (fun _ e => e)) hI fun e => ?_
  rcases hO.2 with ⟨rfl, _⟩ | ⟨g2, cap, cur, rfl, _, hg, _⟩
  · cases e
  · have e2 : g2 = g := Option.some.inj e
    subst e2
    have e3 := hg.symm.trans hI
    injection e3 with e3
    injection e3 with _ e4 _
    exact hT e4.symm
theorem wpl_append_text (hgd : o.guard = none) (s x : Operand) (t u : TypeId) (ho : o.op = .call { callee := .builtin .append, args := #[s, x], argTypes := #[t, u] }) (ht : Tryz.prog.underlying t = some (.slice 5)) (hu : Tryz.prog.underlying u = some .string)
    (base : Nat) (v : Value) (l : List UInt8) (hs : a.eval s = v) (hown : OwnB w base v l) (x0 : ByteArray) (hx : a.eval x = .string x0) (hl : l.length + x0.size ≤ 140737488355328) (hbase : base ≤ w.heap.size)
    (h : ∀ v' w', OwnB w' base v' (l ++ x0.data.toList) → KB base w w' → wpList Tryz.prog ops Q rest (a.put o.dst v') w') : wpList Tryz.prog ops Q (o :: rest) a w := by
  obtain ⟨ie, h1, h2, h3, h4⟩ := u8_info
  refine Go.Lib.wpList_append_own_string w hgd s x t u ho base 5 ie ht hu h1 h2 h3 h4 v l.length (Lib.byteCells l) hs hown x0 hx (by unfold maxLen; omega) hl hbase ?_
  intro v' w' h5 h6 _
  refine h v' w' ?_ (KB.grown hown h6 hbase)
  unfold OwnB
  rw [List.length_append, Lib.byteCells_append, show x0.data.toList.length = x0.size by simp]
  exact h5
theorem wpl_append_bytesK (hgd : o.guard = none) (s x : Operand) (t : TypeId) (ho : o.op = .call { callee := .builtin .append, args := #[s, x], argTypes := #[t, t] }) (ht : Tryz.prog.underlying t = some (.slice 5))
    (base : Nat) (v : Value) (l : List UInt8) (hs : a.eval s = v) (hown : OwnB w base v l)
    (g c : Nat) (m : List UInt8) (k : Nat) (hk : k = m.length) (hx : a.eval x = .slice (some ⟨g, 0, none⟩) k c) (IB : ∀ (j : Nat) (u : Value), (Lib.byteCells m)[j]? = some u → w.cell? ⟨g, j, none⟩ = some u)
    (hl : l.length + m.length ≤ 140737488355328) (hbase : base ≤ w.heap.size)
    (h : ∀ v' w', OwnB w' base v' (l ++ m) → KB base w w' → wpList Tryz.prog ops Q rest (a.put o.dst v') w') : wpList Tryz.prog ops Q (o :: rest) a w := by
  obtain ⟨ie, h1, h2, h3, h4⟩ := u8_info
  subst hk
  refine wpList_append_own w hgd s x t ho base 5 ie _ 1 1 ht h1 h2 h3 h4 rfl (by decide) v l.length (Lib.byteCells l) hs hown ⟨g, 0, none⟩ m.length c (Lib.byteCells m) hx (by rw [Lib.byteCells_length]; omega) ?_ (bytes_one m) (by unfold maxLen; omega) (by omega) hbase ?_
  · intro j u hu
    have hadd : (⟨g, 0, none⟩ : Addr).add j = ⟨g, j, none⟩ := by unfold Addr.add; split <;> simp_all
    rw [hadd]
    exact IB j u hu
  · intro v' w' h5 h6 _
    refine h v' w' ?_ (KB.grown hown h6 hbase)
    unfold OwnB
    rw [List.length_append, Lib.byteCells_append]
    exact h5
/-- The same as one operation of a region that draws its order. -/
theorem op_append_bytes {K : Act → World → Prop} (s x : Operand) (t : TypeId) (ho : o.op = .call { callee := .builtin .append, args := #[s, x], argTypes := #[t, t] }) (ht : Tryz.prog.underlying t = some (.slice 5))
    (base : Nat) (v : Value) (l : List UInt8) (hs : a.eval s = v) (hown : OwnB w base v l)
    (g c : Nat) (m : List UInt8) (k : Nat) (hk : k = m.length) (hx : a.eval x = .slice (some ⟨g, 0, none⟩) k c) (IB : ∀ (j : Nat) (u : Value), (Lib.byteCells m)[j]? = some u → w.cell? ⟨g, j, none⟩ = some u)
    (hl : l.length + m.length ≤ 140737488355328) (hbase : base ≤ w.heap.size)
    (h : ∀ v' w', OwnB w' base v' (l ++ m) → KB base w w' → K (a.put o.dst v') w') : o.wp Tryz.prog a w K Q := by
  obtain ⟨ie, h1, h2, h3, h4⟩ := u8_info
  subst hk
  obtain ⟨v', w', hr, h5, h6, _, _⟩ := run_append_own_at (P := Tryz.prog) w base t o.type 5 ie _ 1 1 ht h1 h2 h3 h4 rfl (by decide) v l.length (Lib.byteCells l) hown ⟨g, 0, none⟩ m.length c (Lib.byteCells m) (by rw [Lib.byteCells_length]; omega) (fun j u hu => by
    have hadd : (⟨g, 0, none⟩ : Addr).add j = ⟨g, j, none⟩ := by unfold Addr.add; split <;> simp_all
    rw [hadd]
    exact IB j u hu) (bytes_one m) (by unfold maxLen; omega) (by omega) hbase
  have hfin := h v' w' (by unfold OwnB; rw [List.length_append, Lib.byteCells_append]; exact h5) (KB.grown hown h6 hbase)
  generalize hP : Tryz.prog = P at *
  unfold Oper.wp execOp
  simp only [ho, resolve, invoke, builtin, Sem.run_bind, Sem.run_pure, Result.andThen_ok, List.map_toArray, List.map_cons, List.map_nil, hs, hx, hr]
  exact hfin
theorem bfill1 (p : Int) : Instr.fill (fun i => some (i * 1, 1)) ((Array.range (1 * 1)).map ((Value.int .u8 0).cells[· % (Value.int .u8 0).cells.size]!)) [(0, .int .u8 p)] = some #[.int .u8 p] := by kernel_rfl
theorem bfill2 (p q : Int) : Instr.fill (fun i => some (i * 1, 1)) ((Array.range (2 * 1)).map ((Value.int .u8 0).cells[· % (Value.int .u8 0).cells.size]!)) [(0, .int .u8 p), (1, .int .u8 q)] = some #[.int .u8 p, .int .u8 q] := by kernel_rfl
theorem bfill6 (p q r x y z : Int) : Instr.fill (fun i => some (i * 1, 1)) ((Array.range (6 * 1)).map ((Value.int .u8 0).cells[· % (Value.int .u8 0).cells.size]!)) [(0, .int .u8 p), (1, .int .u8 q), (2, .int .u8 r), (3, .int .u8 x), (4, .int .u8 y), (5, .int .u8 z)] = some #[.int .u8 p, .int .u8 q, .int .u8 r, .int .u8 x, .int .u8 y, .int .u8 z] := by kernel_rfl
theorem IBox.cells {w : World} {g : Nat} {t : TypeId} {arr : Array Value} (h : IBox w g t arr) {m : List UInt8} (hm : arr.toList = Lib.byteCells m) : ∀ (j : Nat) (u : Value), (Lib.byteCells m)[j]? = some u → w.cell? ⟨g, j, none⟩ = some u := fun j u hu => by
  rw [h.cell, ← Array.getElem?_toList, hm]
  exact hu
/-- A row that lies whole in a block of the call's own. -/
theorem own_box {w : World} {base g : Nat} {arr : Array Value} {m : List UInt8} {n : Nat} (h : IBox w g 5 arr) (hm : arr.toList = Lib.byteCells m) (hb : base ≤ g) (hn : m.length = n) (hmax : n ≤ maxLen) : OwnB w base (.slice (some ⟨g, 0, none⟩) n n) m := by
  subst hn
  have hl : arr.size = m.length := by rw [← Array.length_toList, hm, Lib.byteCells_length]
  refine ⟨by rw [Lib.byteCells_length]; omega, .inr ⟨g, m.length, arr, rfl, hb, h, Nat.le_refl _, hmax, by omega, ?_⟩⟩
  rw [hm, List.take_of_length_le (by rw [Lib.byteCells_length]; omega)]
end Go.Proofs.YtbehakabglegjaaGreatDoor
namespace Go.Proofs.YtbehakabglegjaaGreatDoor
set_option linter.unusedVariables false
/-- The number of a character. -/
def Scal (r : Int) : Prop := (0 ≤ r ∧ r < 55296) ∨ (57344 ≤ r ∧ r ≤ 1114111)
theorem u8n {x : Int} (h0 : 0 ≤ x) (h1 : x < 256) : (x.toNat.toUInt8).toNat = x.toNat := by
  simp only [Nat.toUInt8, UInt8.toNat_ofNat']
  omega
theorem decodeL_enc {r : Int} (h : Scal r) (t : List UInt8) : Lib.decodeL (Lib.encodeRune r ++ t) = (r.toNat, (Lib.encodeRune r).length) := by
  unfold Scal at h
  rw [Lib.decodeL_N]
  unfold Lib.encodeRune
  by_cases c1 : r ≤ 127
  · rw [Lib.encodeRuneZ_one (by omega) c1]
    have e0 := u8n (x := r) (by omega) (by omega)
    simp only [List.map_cons, List.map_nil, List.cons_append, List.nil_append, List.getD_cons_zero, List.length_cons, List.length_nil]
    rw [e0]
    unfold Lib.decodeN
    rw [if_pos (by omega)]
  · by_cases c2 : r ≤ 2047
    · rw [Lib.encodeRuneZ_two (by omega) c2]
      have e0 := u8n (x := 192 + r / 64) (by omega) (by omega)
      have e1 := u8n (x := 128 + r % 64) (by omega) (by omega)
      simp only [List.map_cons, List.map_nil, List.cons_append, List.nil_append, List.getD_cons_zero, List.getD_cons_succ, List.length_cons, List.length_nil]
      rw [e0, e1]
      unfold Lib.decodeN
      rw [if_neg (by omega), if_pos (by omega), if_pos (by omega)]
      ext <;> dsimp only <;> omega
    · by_cases c3 : r ≤ 65535
      · rw [Lib.encodeRuneZ_three (by omega)]
        have e0 := u8n (x := 224 + r / 4096) (by omega) (by omega)
        have e1 := u8n (x := 128 + r / 64 % 64) (by omega) (by omega)
        have e2 := u8n (x := 128 + r % 64) (by omega) (by omega)
        simp only [List.map_cons, List.map_nil, List.cons_append, List.nil_append, List.getD_cons_zero, List.getD_cons_succ, List.length_cons, List.length_nil]
        rw [e0, e1, e2]
        unfold Lib.decodeN
        rw [if_neg (by omega), if_neg (by omega), if_pos (by omega), if_pos (by omega)]
        ext <;> dsimp only <;> omega
      · rw [Lib.encodeRuneZ_four (by omega) (by omega)]
        have e0 := u8n (x := 240 + r / 262144) (by omega) (by omega)
        have e1 := u8n (x := 128 + r / 4096 % 64) (by omega) (by omega)
        have e2 := u8n (x := 128 + r / 64 % 64) (by omega) (by omega)
        have e3 := u8n (x := 128 + r % 64) (by omega) (by omega)
        simp only [List.map_cons, List.map_nil, List.cons_append, List.nil_append, List.getD_cons_zero, List.getD_cons_succ, List.length_cons, List.length_nil]
        rw [e0, e1, e2, e3]
        unfold Lib.decodeN
        rw [if_neg (by omega), if_neg (by omega), if_neg (by omega), if_pos (by omega), if_pos (by omega)]
        ext <;> dsimp only <;> omega
theorem enc_ne (r : Int) : Lib.encodeRune r ≠ [] := by
  have := (Lib.encodeRuneZ_length r).1
  unfold Lib.encodeRune
  intro h
  rw [List.map_eq_nil_iff] at h
  rw [h] at this
  simp at this
theorem validD_enc {r : Int} (h : Scal r) (t : List UInt8) : Lib.validD (Lib.encodeRune r ++ t) = Lib.validD t := by
  rw [Lib.validD_step _ (by simp [enc_ne]), decodeL_enc h t]
  have hl : 1 ≤ (Lib.encodeRune r).length := by
    have := enc_ne r
    exact List.length_pos_iff.2 this
  have h3 : r = 65533 → (Lib.encodeRune r).length = 3 := by
    rintro rfl; rfl
  rw [if_neg (by dsimp only; rintro ⟨a, b⟩; have := h3 (by omega); omega)]
  rw [List.drop_left]
/-- Bytes that are those of characters, one behind the other. -/
inductive Runes : List UInt8 → Prop where
  | nil : Runes []
  | cons {r : Int} {t : List UInt8} (h : Scal r) (ht : Runes t) : Runes (Lib.encodeRune r ++ t)
theorem Runes.app {a b : List UInt8} (ha : Runes a) (hb : Runes b) : Runes (a ++ b) := by
  induction ha with
  | nil => exact hb
  | cons h _ ih => rw [List.append_assoc]; exact .cons h ih
theorem Runes.one {r : Int} (h : Scal r) : Runes (Lib.encodeRune r) := by
  have := Runes.cons h .nil
  rwa [List.append_nil] at this
theorem Runes.valid {a : List UInt8} (h : Runes a) : Lib.validD a = true := by
  induction h with
  | nil => rfl
  | cons h _ ih => rw [validD_enc h]; exact ih
theorem dec_scal (l : List UInt8) (h : ¬ ((Lib.decodeL l).1 = 65533 ∧ (Lib.decodeL l).2 ≤ 1)) : Scal ((Lib.decodeL l).1 : Int) := by
  unfold Scal
  rw [Lib.decodeL_N] at h ⊢
  rcases Lib.decodeN_shape l.length (l.getD 0 0).toNat (l.getD 1 0).toNat (l.getD 2 0).toNat (l.getD 3 0).toNat with ⟨c, e⟩ | ⟨c1, c2, c3, cv, e⟩ | ⟨c1, c2, c3, c4, cv, cs, e⟩ | ⟨c1, c2, c3, c4, c5, cv, cw, e⟩ | e
  all_goals rw [e] at h ⊢
  all_goals dsimp only at h ⊢
  all_goals first | omega | exact absurd ⟨rfl, Nat.le_refl _⟩ h
theorem valid_runes : ∀ (n : Nat) (l : List UInt8), l.length ≤ n → Lib.validD l = true → Runes l
  | n, [], _, _ => .nil
  | 0, x :: r, h, _ => by simp at h
  | n + 1, x :: r, h, hv => by
    have hne : (x :: r) ≠ [] := by simp
    rw [Lib.validD_step _ hne] at hv
    split at hv
    · cases hv
    · rename_i hb
      have hw := Lib.decodeL_width (x :: r)
      have hle := Lib.decodeL_le (x :: r) hne
      have he := Lib.encode_decode (x :: r) hne hb
      have hr := valid_runes n ((x :: r).drop (Lib.decodeL (x :: r)).2) (by rw [List.length_drop]; omega) hv
      have hs := dec_scal (x :: r) (fun hh => hb ⟨hh.1, by omega⟩)
      have := Runes.cons hs hr
      rwa [he, List.take_append_drop] at this
theorem valid_app {a b : List UInt8} (ha : Lib.validD a = true) : Lib.validD (a ++ b) = Lib.validD b := by
  have h := valid_runes _ _ (Nat.le_refl _) ha
  clear ha
  induction h with
  | nil => rfl
  | cons h _ ih => rw [List.append_assoc, validD_enc h]; exact ih
end Go.Proofs.YtbehakabglegjaaGreatDoor
