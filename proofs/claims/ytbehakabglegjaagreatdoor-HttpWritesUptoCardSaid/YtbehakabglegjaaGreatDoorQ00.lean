/- Small words used by every text of this seat: endings, worlds that only grew, a row's post from Below. JSON values and rows of structs in memory: what they read as. -/
import Derived.Test.YtbehakabglegjaaGreatDoorRows
import Derived.WalkKit
import Derived.ProofKit
import Derived.WalkLawsBesides
import Derived.WalkSpells
import Derived.Handy
import Derived.BigQuiet
import Derived.Laws.RangeAny
import Derived.Lib.OthersKept
import Derived.Lib.Hide
import Derived.LaidEql
import Derived.Deep.QuietTactic
import Derived.Deep.MidRow
namespace Go.Proofs.YtbehakabglegjaaGreatDoor
open Go.RowKit

theorem ret_bool {a b : Bool} (h : a = b) : Ending.returned (.bool a) = .returned (.bool b) := by rw [h]
theorem ret_int {k : IntKind} {a b : Int} (h : a = b) : Ending.returned (.int k a) = .returned (.int k b) := by rw [h]

/-- FRAME and the rest of a row's post, behind a call that only laid new blocks. -/
theorem below_frame0 {W W' : World} (h : Below W.heap.size W W') (may : MemPlace → Prop) : W.keptBut W' may := h.frame may

theorem below_iter {B : Nat} {a w : World} (h : Below B a w) (hB : B ≤ w.heap.size) (s : ByteArray) (pos : Nat) : Below B a (w.iter s pos) := h.alloc hB _

theorem ba_loop (bs : ByteArray) (i : Nat) (r : List UInt8) : ByteArray.toList.loop bs i r = r.reverse ++ bs.data.toList.drop i := by
  induction h : bs.size - i generalizing i r with
  | zero =>
    unfold ByteArray.toList.loop
    rw [if_neg (by omega)]
    have : bs.data.toList.length ≤ i := by
      have : bs.data.toList.length = bs.size := by simp
      omega
    rw [List.drop_eq_nil_of_le this, List.append_nil]
  | succ n ih =>
    unfold ByteArray.toList.loop
    have hl : i < bs.size := by omega
    rw [if_pos hl, ih (i + 1) _ (by omega)]
    have hl2 : i < bs.data.toList.length := by simpa using hl
    rw [List.drop_eq_getElem_cons hl2, List.reverse_cons, List.append_assoc]
    congr 1
    show bs.get! i :: _ = _
    congr 1
    simp [ByteArray.get!, getElem!_pos, hl]
theorem ba_toList (bs : ByteArray) : bs.toList = bs.data.toList := by
  unfold ByteArray.toList
  rw [ba_loop]; rfl

/-! Two interface values of one integer type held against each other (the guide's law for errors that are constants of one integer type). -/
section
variable {P : Program} (w : World)
theorem run_equalIn_iface_int (d : Nat) {ti tn : TypeId} {ms : Array (String × TypeId)} {i : TypeInfo} {k : IntKind} (a b : Int)
    (hi : P.underlying ti = some (.interface ms)) (hn : P.underlying tn = some (.int k)) (hinfo : P.info? tn = some i) (hcomp : i.comparable = true) :
    (Op.equalIn (d + 2) ti (.iface tn (.int k a)) (.iface tn (.int k b))).run P w = .ok (a == b) w := by
  simp [Op.equalIn, run_underlying hi, run_underlying hn, typeInfo, hinfo, hcomp]
theorem run_eql_iface_int {ti tn : TypeId} {ms : Array (String × TypeId)} {i : TypeInfo} {k : IntKind} (a b : Int)
    (hi : P.underlying ti = some (.interface ms)) (hn : P.underlying tn = some (.int k)) (hinfo : P.info? tn = some i) (hcomp : i.comparable = true) :
    (binOp .eql ti (.iface tn (.int k a)) (.iface tn (.int k b))).run P w = .ok (.bool (a == b)) w := by
  simp only [binOp]
  simp [Op.equal, Op.maxDepth, run_equalIn_iface_int w 9998 a b hi hn hinfo hcomp]
end

/-! Quiet calls behind quiet regions. -/
theorem quiet_add {P : Program} {f : FuncId} {args : Array Value} {w : World} {a n : Nat} {v : Value}
    (h : Calls P f args (w.drewN (a + n)) fun e w' => e = .returned v ∧ ∃ m, w' = (w.drewN (a + n)).drewN m) :
    Calls P f args (w.drewN (a + n)) fun e w'' => e = .returned v ∧ ∃ m, w'' = w.drewN (a + m) :=
  h.mono fun _ _ ⟨he, m, hm⟩ => ⟨he, n + m, by rw [hm, World.drewN_drewN, Nat.add_assoc]⟩
theorem quiet_add_same {P : Program} {f : FuncId} {args : Array Value} {w : World} {a n : Nat} {v : Value}
    (h : Calls P f args (w.drewN (a + n)) fun e w' => e = .returned v ∧ w' = w.drewN (a + n)) :
    Calls P f args (w.drewN (a + n)) fun e w'' => e = .returned v ∧ ∃ m, w'' = w.drewN (a + m) :=
  h.mono fun _ _ ⟨he, hm⟩ => ⟨he, n, hm⟩
theorem quiet_add_left {P : Program} {f : FuncId} {args : Array Value} {w : World} {a n : Nat} {v : Value}
    (h : Calls P f args (w.drewN (a + n)) fun e w' => e = .returned v ∧ w.drewN (a + n) = w') :
    Calls P f args (w.drewN (a + n)) fun e w'' => e = .returned v ∧ ∃ m, w'' = w.drewN (a + m) :=
  h.mono fun _ _ ⟨he, hm⟩ => ⟨he, n, hm.symm⟩
theorem quiet_left {P : Program} {f : FuncId} {args : Array Value} {w : World} {n : Nat} {v : Value}
    (h : Calls P f args (w.drewN n) fun e w' => e = .returned v ∧ w.drewN n = w') : Calls P f args (w.drewN n) fun e w'' => e = .returned v ∧ ∃ m, w'' = w.drewN m :=
  h.mono fun _ _ ⟨he, hm⟩ => ⟨he, n, hm.symm⟩
theorem below_drewN {B : Nat} {a w : World} (h : Below B a w) (n : Nat) : Below B a (w.drewN n) := ⟨h.os, h.tape, h.output, h.size, h.block⟩
end Go.Proofs.YtbehakabglegjaaGreatDoor
namespace Go.Proofs.YtbehakabglegjaaGreatDoor
open Go.RowKit
set_option linter.unusedVariables false

/-! ### Boxes: blocks of the call's own, known whole -/
def IBox (w : World) (g : Nat) (t : TypeId) (arr : Array Value) : Prop := w.heap[g]? = some (.cells arr t (0, 0))
theorem IBox.cell {w : World} {g : Nat} {t : TypeId} {arr : Array Value} (h : IBox w g t arr) (j : Nat) : w.cell? ⟨g, j, none⟩ = arr[j]? := cell_of_row w g j arr t (0, 0) h
theorem IBox.frozen {w : World} {g : Nat} {t : TypeId} {arr : Array Value} (h : IBox w g t arr) (j : Nat) : w.frozen? ⟨g, j, none⟩ = false := frozen_of_row w g j arr t h
theorem IBox.lt {w : World} {g : Nat} {t : TypeId} {arr : Array Value} (h : IBox w g t arr) : g < w.heap.size := by
  rcases Nat.lt_or_ge g w.heap.size with hlt | hge
  · exact hlt
  · unfold IBox at h; rw [Array.getElem?_eq_none hge] at h; cases h
theorem IBox.new (w : World) (t : TypeId) (arr : Array Value) : IBox (w.alloc (.cells arr t)) w.heap.size t arr := by
  show (w.heap.push _)[w.heap.size]? = _
  simp
theorem IBox.alloc {w : World} {g : Nat} {t : TypeId} {arr : Array Value} (h : IBox w g t arr) (o : Obj) : IBox (w.alloc o) g t arr := (Below.heap_alloc w o g h.lt).trans h
theorem IBox.below {w w' : World} {g B : Nat} {t : TypeId} {arr : Array Value} (h : IBox w g t arr) (hb : Below B w w') (hg : g < B) : IBox w' g t arr := (hb.block g hg).trans h
theorem IBox.row {w : World} {g : Nat} {t : TypeId} {old : Array Value} (h : IBox w g t old) (arr : Array Value) : IBox (w.setRow g arr) g t arr := setRow_heap w g old arr t (0, 0) h
theorem IBox.row_other {w : World} {g k : Nat} {t : TypeId} {arr : Array Value} (h : IBox w g t arr) (cs : Array Value) (hk : g ≠ k) : IBox (w.setRow k cs) g t arr := (setRow_other w k g cs hk).trans h
theorem below_setRow {B : Nat} {a w : World} (h : Below B a w) {g : Nat} (hg : B ≤ g) (cs : Array Value) : Below B a (w.setRow g cs) :=
  h.trans ⟨rfl, rfl, rfl, by rw [size_setRow]; exact Nat.le_refl _, fun k hk => setRow_other w g k cs (by omega)⟩

theorem wpl_store_row {P : Program} {ops : Array Oper} {rest : List Oper} {o : Oper} {a : Act} {w : World} {Q : Exit → Act → World → Prop} (hgd : o.guard = none) (ty : TypeId) (x y : Operand) (ho : o.op = .store ty x y)
    (g : Nat) (cells : Array Value) (hx : a.eval x = .pointer (some ⟨g, 0, none⟩)) (hy : a.eval y = .agg cells)
    (t : TypeId) (old : Array Value) (hg : w.heap[g]? = some (.cells old t (0, 0))) (hi : (P.info? ty).map (·.size) = some cells.size)
    (hold : old.size = cells.size) (h1 : cells.all (·.oneCell') = true)
    (h : wpList P ops Q rest (a.put o.dst undef) (w.setRow g cells)) : wpList P ops Q (o :: rest) a w :=
  wpList_plain hgd fun _ hK => wp_store_row ty x y ho g cells hx hy t old hg hi hold h1 (hK _ _ h)

/-- Two results, the first a struct in a box of the call's own. -/
theorem results_box_tmp {P : Program} {fn : Func} {p q : Tmp} {ty : TypeId} (h : fn.results = #[.cell p ty, .tmp q]) (tmps : Array Value) (w : World) (g : Nat) (t : TypeId) (cs : Array Value) (d : TypeDesc)
    (hp : tmps.getD p undef = .pointer (some ⟨g, 0, none⟩)) (hg : IBox w g t cs)
    (hu : P.underlying ty = some d) (hd : (match d with | .struct _ | .array _ _ => true | _ => false) = true) (hi : (P.info? ty).map (·.size) = some cs.size) :
    (results fn tmps).run P w = .ok (.tuple #[.agg cs, tmps.getD q undef]) w := by
  have hp' : tmps[p]?.getD undef = .pointer (some ⟨g, 0, none⟩) := by simpa using hp
  simp [results, h, hp', asAddr, run_loadVar_row w g t ty cs (0, 0) d hg hu hd hi]
theorem results_box {P : Program} {fn : Func} {p : Tmp} {ty : TypeId} (h : fn.results = #[.cell p ty]) (tmps : Array Value) (w : World) (g : Nat) (t : TypeId) (cs : Array Value) (d : TypeDesc)
    (hp : tmps.getD p undef = .pointer (some ⟨g, 0, none⟩)) (hg : IBox w g t cs)
    (hu : P.underlying ty = some d) (hd : (match d with | .struct _ | .array _ _ => true | _ => false) = true) (hi : (P.info? ty).map (·.size) = some cs.size) :
    (results fn tmps).run P w = .ok (.agg cs) w := results_cell_row h tmps w g t cs (0, 0) d hp hg hu hd hi

/-! ### JSON values -/
/-- A value as its six cells say it. -/
structure VM where
  kind : Int
  b : Bool
  i : Int
  t : ByteArray
  LA : Option Addr
  Ln : Nat
  Lc : Nat
  FA : Option Addr
  Fn : Nat
  Fc : Nat
def VM.cells (v : VM) : Array Value := #[.int .i64 v.kind, .bool v.b, .int .i64 v.i, .string v.t, .slice v.LA v.Ln v.Lc, .slice v.FA v.Fn v.Fc]
def VM.zero : VM := ⟨0, false, 0, ⟨#[]⟩, none, 0, 0, none, 0, 0⟩

/-- A value with all that is within it, each with its own cells. -/
inductive JV where
  | mk (v : VM) (l : List JV) (ns : List ByteArray) (vs : List JV)
def JV.v : JV → VM | .mk v _ _ _ => v
def JV.l : JV → List JV | .mk _ l _ _ => l
def JV.ns : JV → List ByteArray | .mk _ _ n _ => n
def JV.vs : JV → List JV | .mk _ _ _ s => s
def JV.cells (j : JV) : Array Value := j.v.cells
def JV.zero : JV := .mk VM.zero [] [] []
instance : Inhabited JV := ⟨JV.zero⟩

/-- What fits an int64, and a length that may be. -/
def I64 (n : Int) : Prop := -9223372036854775808 ≤ n ∧ n ≤ 9223372036854775807
def reach : Nat := 140737488355328

/-- Names at the heads of cells, one behind the other. -/
def NamesAt (w : World) (A : Option Addr) (step : Nat) : Nat → List ByteArray → Prop
  | _, [] => True
  | k, n :: r => (∃ b off, A = some ⟨b, off, none⟩ ∧ w.cell? ⟨b, off + k * step, none⟩ = some (.string n)) ∧ n.size ≤ reach ∧ NamesAt w A step (k + 1) r

mutual
def IsJV (w : World) : JV → Prop
  | .mk v l ns vs => (I64 v.kind ∧ I64 v.i ∧ v.t.size ≤ reach ∧ v.Ln = l.length ∧ v.Fn = vs.length ∧ ns.length = vs.length ∧ v.Ln * 80 ≤ reach ∧ v.Fn * 96 ≤ reach ∧ NamesAt w v.FA 7 0 ns) ∧ IsRow w v.LA 6 0 0 l ∧ IsRow w v.FA 7 1 0 vs
def IsRow (w : World) (A : Option Addr) (step shift : Nat) : Nat → List JV → Prop
  | _, [] => True
  | k, x :: r => (∃ b off, A = some ⟨b, off, none⟩ ∧ w.rangeAt b (off + k * step + shift) x.cells.toList) ∧ IsJV w x ∧ IsRow w A step shift (k + 1) r
end

theorem NamesAt.get {w : World} {A : Option Addr} {step : Nat} : ∀ {l : List ByteArray} {k : Nat}, NamesAt w A step k l → ∀ {j : Nat} {n : ByteArray}, l[j]? = some n →
    (∃ b off, A = some ⟨b, off, none⟩ ∧ w.cell? ⟨b, off + (k + j) * step, none⟩ = some (.string n)) ∧ n.size ≤ reach
  | [], _, _, j, n, hj => by simp at hj
  | m :: r, k, h, 0, n, hj => by
    unfold NamesAt at h
    simp only [List.getElem?_cons_zero, Option.some.injEq] at hj
    subst hj
    exact ⟨h.1, h.2.1⟩
  | m :: r, k, h, j + 1, n, hj => by
    unfold NamesAt at h
    simp only [List.getElem?_cons_succ] at hj
    have := h.2.2.get hj
    rw [show k + 1 + j = k + (j + 1) from by omega] at this
    exact this
theorem IsRow.get {w : World} {A : Option Addr} {step shift : Nat} : ∀ {l : List JV} {k : Nat}, IsRow w A step shift k l → ∀ {j : Nat} {x : JV}, l[j]? = some x →
    (∃ b off, A = some ⟨b, off, none⟩ ∧ w.rangeAt b (off + (k + j) * step + shift) x.cells.toList) ∧ IsJV w x
  | [], _, _, j, n, hj => by simp at hj
  | m :: r, k, h, 0, n, hj => by
    unfold IsRow at h
    simp only [List.getElem?_cons_zero, Option.some.injEq] at hj
    subst hj
    exact ⟨h.1, h.2.1⟩
  | m :: r, k, h, j + 1, n, hj => by
    unfold IsRow at h
    simp only [List.getElem?_cons_succ] at hj
    have := h.2.2.get hj
    rw [show k + 1 + j = k + (j + 1) from by omega] at this
    exact this

/-- Cells that stand in w stand in w', a world that is as w was below w's own size. -/
theorem range_below {w w' : World} (hb : Below w.heap.size w w') {b o : Nat} {cs : List Value} (h : w.rangeAt b o cs) : w'.rangeAt b o cs := fun j v hv => by
  have hc := h j v hv
  rw [hb.cell (p := ⟨b, o + j, none⟩) (block_lt_of_cell hc)]
  exact hc
theorem cell_below {w w' : World} (hb : Below w.heap.size w w') {a : Addr} {v : Value} (h : w.cell? a = some v) : w'.cell? a = some v := by
  rw [hb.cell (p := a) (block_lt_of_cell h)]
  exact h

theorem jv_zero (w : World) : IsJV w JV.zero := by
  unfold JV.zero IsJV
  refine ⟨⟨?_, ?_, ?_, rfl, rfl, rfl, ?_, ?_, ?_⟩, ?_, ?_⟩
  · exact ⟨by decide, by decide⟩
  · exact ⟨by decide, by decide⟩
  · decide
  · decide
  · decide
  · exact True.intro
  · unfold IsRow; exact True.intro
  · unfold IsRow; exact True.intro

theorem NamesAt.below {w w' : World} (hb : Below w.heap.size w w') {A : Option Addr} {step : Nat} : ∀ {l : List ByteArray} {k : Nat}, NamesAt w A step k l → NamesAt w' A step k l
  | [], _, _ => by unfold NamesAt; exact True.intro
  | n :: r, k, h => by
    unfold NamesAt at h ⊢
    obtain ⟨⟨b, off, e, hc⟩, h2, h3⟩ := h
    exact ⟨⟨b, off, e, cell_below hb hc⟩, h2, h3.below hb⟩

/-- The seven cells of field k. -/
structure FieldCells (w : World) (bl o : Nat) (n : ByteArray) (x : VM) : Prop where
  c0 : w.cell? ⟨bl, o, none⟩ = some (.string n)
  c1 : w.cell? ⟨bl, o + 1, none⟩ = some (.int .i64 x.kind)
  c2 : w.cell? ⟨bl, o + 2, none⟩ = some (.bool x.b)
  c3 : w.cell? ⟨bl, o + 3, none⟩ = some (.int .i64 x.i)
  c4 : w.cell? ⟨bl, o + 4, none⟩ = some (.string x.t)
  c5 : w.cell? ⟨bl, o + 5, none⟩ = some (.slice x.LA x.Ln x.Lc)
  c6 : w.cell? ⟨bl, o + 6, none⟩ = some (.slice x.FA x.Fn x.Fc)
theorem FieldCells.below {w w' : World} (hb : Below w.heap.size w w') {bl o : Nat} {n : ByteArray} {x : VM} (h : FieldCells w bl o n x) : FieldCells w' bl o n x :=
  ⟨cell_below hb h.c0, cell_below hb h.c1, cell_below hb h.c2, cell_below hb h.c3, cell_below hb h.c4, cell_below hb h.c5, cell_below hb h.c6⟩
theorem field_cells {w : World} {FA : Option Addr} {ns : List ByteArray} {vs : List JV} (h1 : NamesAt w FA 7 0 ns) (h2 : IsRow w FA 7 1 0 vs) {k : Nat} {n : ByteArray} {x : JV} (hn : ns[k]? = some n) (hx : vs[k]? = some x) :
    ∃ bl off, FA = some ⟨bl, off, none⟩ ∧ FieldCells w bl (off + k * 7) n x.v := by
  obtain ⟨⟨b, off, e1, hc⟩, _⟩ := h1.get hn
  obtain ⟨⟨b', off', e2, hr⟩, _⟩ := h2.get hx
  rw [e1] at e2
  simp only [Option.some.injEq, Addr.mk.injEq] at e2
  obtain ⟨rfl, rfl, _⟩ := e2
  rw [Nat.zero_add] at hc hr
  exact ⟨b, off, e1, hc, hr 0 _ rfl, hr 1 _ rfl, hr 2 _ rfl, hr 3 _ rfl, hr 4 _ rfl, hr 5 _ rfl⟩

/-! ### A field of an object: what program and document say -/
def look : List ByteArray → List JV → ByteArray → Option JV
  | n :: ns, x :: vs, name => if (n.toList == name.toList) = true then some x else look ns vs name
  | _, _, _ => none
def fieldS (j : JV) (name : ByteArray) : Option JV := if (j.v.kind == 5) = true then look j.ns j.vs name else none
def fieldD (j : JV) (name : ByteArray) : JV := (fieldS j name).getD JV.zero
theorem look_mem : ∀ {ns : List ByteArray} {vs : List JV} {name : ByteArray} {x : JV}, look ns vs name = some x → ∃ i : Nat, vs[i]? = some x
  | [], _, _, _, h => by simp [look] at h
  | _ :: _, [], _, _, h => by simp [look] at h
  | n :: ns, y :: vs, name, x, h => by
    unfold look at h
    split at h
    · exact ⟨0, by simpa using h⟩
    · obtain ⟨i, hi⟩ := look_mem h
      exact ⟨i + 1, by simpa using hi⟩
theorem field_is {w : World} {j : JV} (h : IsJV w j) (name : ByteArray) : IsJV w (fieldD j name) := by
  unfold fieldD
  cases hf : fieldS j name with
  | none => exact jv_zero w
  | some x =>
    obtain ⟨v, l, ns, vs⟩ := j
    unfold fieldS at hf
    split at hf
    · obtain ⟨i, hi⟩ := look_mem hf
      unfold IsJV at h
      exact (h.2.2.get hi).2
    · cases hf
theorem look_drop {ns : List ByteArray} {vs : List JV} {name n : ByteArray} {x : JV} {k : Nat} (h1 : ns[k]? = some n) (h2 : vs[k]? = some x) :
    look (ns.drop k) (vs.drop k) name = if (n.toList == name.toList) = true then some x else look (ns.drop (k + 1)) (vs.drop (k + 1)) name := by
  obtain ⟨l1, e1⟩ := List.getElem?_eq_some_iff.1 h1
  obtain ⟨l2, e2⟩ := List.getElem?_eq_some_iff.1 h2
  rw [List.drop_eq_getElem_cons l1, List.drop_eq_getElem_cons l2, e1, e2]
  rfl
end Go.Proofs.YtbehakabglegjaaGreatDoor
