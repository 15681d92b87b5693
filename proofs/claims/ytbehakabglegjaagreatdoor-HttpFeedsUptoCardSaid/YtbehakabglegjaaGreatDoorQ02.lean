/- JSON values and rows of structs in memory: what they read as. Laws at the operation, for structs as opaque arrays and worlds as opaque letters. A store into one cell of a box; a row of structs built at once. Worlds as letters. Appending one element to a row of the call's own; worlds as letters. Regions that draw their order and read first, then go on in one forced order: the drawn world is a letter; loads of structs as opaque arrays. Regions that draw their order and hold calls that make memory: whatever stands below the region's own start is kept, so every read of it may be taken first. A new variable and a store into it, as single operations of a region that draws its order. Worlds behind a draw; what the texts on values, rows and regions stand on. -/
import Derived.Deep.MidRow
import Derived.Test.YtbehakabglegjaaGreatDoorQ00
import Derived.Deep.WholeRow
import Derived.Great.BuildSlice
import Derived.StillTailTactics
import Derived.Deep.RegionHeld3
import Derived.Deep.DrawnRows
namespace Go.Proofs.YtbehakabglegjaaGreatDoor
open Go.RowKit
set_option linter.unusedVariables false

/-! ### Boxes: blocks of the call's own, known whole -/
def IBox (w : World) (g : Nat) (t : TypeId) (arr : Array Value) : Prop := w.heap[g]? = some (.cells arr t (0, 0))
theorem IBox.cell {w : World} {g : Nat} {t : TypeId} {arr : Array Value} (h : IBox w g t arr) (j : Nat) : w.cell? ⟨g, j, none⟩ = arr[j]? := cell_of_row w g j arr t (0, 0) h
theorem IBox.frozen {w : World} {g : Nat} {t : TypeId} {arr : Array Value} (h : IBox w g t arr) (j : Nat) : w.frozen? ⟨g, j, none⟩ = false := frozen_of_row w g j arr t h
theorem IBox.lt {w : World} {g : Nat} {t : TypeId} {arr : Array Value} (h : IBox w g t arr) : g < w.heap.size := by
  rcases Nat.lt_or_ge g w.heap.size with hlt | hge
  · exact hlt
  · unfold IBox at h; rw [Array.getElem?_eq_none hge] at h; cases h
theorem IBox.new (w : World) (t : TypeId) (arr : Array Value) : IBox (w.alloc (.cells arr t)) w.heap.size t arr := by
  show (w.heap.push _)[w.heap.size]? = _
  simp
theorem IBox.alloc {w : World} {g : Nat} {t : TypeId} {arr : Array Value} (h : IBox w g t arr) (o : Obj) : IBox (w.alloc o) g t arr := (Below.heap_alloc w o g h.lt).trans h
theorem IBox.below {w w' : World} {g B : Nat} {t : TypeId} {arr : Array Value} (h : IBox w g t arr) (hb : Below B w w') (hg : g < B) : IBox w' g t arr := (hb.block g hg).trans h
theorem IBox.row {w : World} {g : Nat} {t : TypeId} {old : Array Value} (h : IBox w g t old) (arr : Array Value) : IBox (w.setRow g arr) g t arr := setRow_heap w g old arr t (0, 0) h
theorem below_setRow {B : Nat} {a w : World} (h : Below B a w) {g : Nat} (hg : B ≤ g) (cs : Array Value) : Below B a (w.setRow g cs) :=
  h.trans ⟨rfl, rfl, rfl, by rw [size_setRow]; exact Nat.le_refl _, fun k hk => setRow_other w g k cs (by omega)⟩

theorem wpl_store_row {P : Program} {ops : Array Oper} {rest : List Oper} {o : Oper} {a : Act} {w : World} {Q : Exit → Act → World → Prop} (hgd : o.guard = none) (ty : TypeId) (x y : Operand) (ho : o.op = .store ty x y)
    (g : Nat) (cells : Array Value) (hx : a.eval x = .pointer (some ⟨g, 0, none⟩)) (hy : a.eval y = .agg cells)
    (t : TypeId) (old : Array Value) (hg : w.heap[g]? = some (.cells old t (0, 0))) (hi : (P.info? ty).map (·.size) = some cells.size)
    (hold : old.size = cells.size) (h1 : cells.all (·.oneCell') = true)
    (h : wpList P ops Q rest (a.put o.dst undef) (w.setRow g cells)) : wpList P ops Q (o :: rest) a w :=
  wpList_plain hgd fun _ hK => wp_store_row ty x y ho g cells hx hy t old hg hi hold h1 (hK _ _ h)

/-- A value as its six cells say it. -/
structure VM where
  kind : Int
  b : Bool
  i : Int
  t : ByteArray
  LA : Option Addr
  Ln : Nat
  Lc : Nat
  FA : Option Addr
  Fn : Nat
  Fc : Nat
def VM.cells (v : VM) : Array Value := #[.int .i64 v.kind, .bool v.b, .int .i64 v.i, .string v.t, .slice v.LA v.Ln v.Lc, .slice v.FA v.Fn v.Fc]
def VM.zero : VM := ⟨0, false, 0, ⟨#[]⟩, none, 0, 0, none, 0, 0⟩

/-- A value with all that is within it, each with its own cells. -/
inductive JV where
  | mk (v : VM) (l : List JV) (ns : List ByteArray) (vs : List JV)
def JV.v : JV → VM | .mk v _ _ _ => v
def JV.l : JV → List JV | .mk _ l _ _ => l
def JV.ns : JV → List ByteArray | .mk _ _ n _ => n
def JV.vs : JV → List JV | .mk _ _ _ s => s
def JV.cells (j : JV) : Array Value := j.v.cells
def JV.zero : JV := .mk VM.zero [] [] []
instance : Inhabited JV := ⟨JV.zero⟩

/-- What fits an int64, and a length that may be. -/
def I64 (n : Int) : Prop := -9223372036854775808 ≤ n ∧ n ≤ 9223372036854775807
def reach : Nat := 140737488355328

/-- Names at the heads of cells, one behind the other. -/
def NamesAt (w : World) (A : Option Addr) (step : Nat) : Nat → List ByteArray → Prop
  | _, [] => True
  | k, n :: r => (∃ b off, A = some ⟨b, off, none⟩ ∧ w.cell? ⟨b, off + k * step, none⟩ = some (.string n)) ∧ n.size ≤ reach ∧ NamesAt w A step (k + 1) r

mutual
def IsJV (w : World) : JV → Prop
  | .mk v l ns vs => (I64 v.kind ∧ I64 v.i ∧ v.t.size ≤ reach ∧ v.Ln = l.length ∧ v.Fn = vs.length ∧ ns.length = vs.length ∧ v.Ln * 80 ≤ reach ∧ v.Fn * 96 ≤ reach ∧ NamesAt w v.FA 7 0 ns) ∧ IsRow w v.LA 6 0 0 l ∧ IsRow w v.FA 7 1 0 vs
def IsRow (w : World) (A : Option Addr) (step shift : Nat) : Nat → List JV → Prop
  | _, [] => True
  | k, x :: r => (∃ b off, A = some ⟨b, off, none⟩ ∧ w.rangeAt b (off + k * step + shift) x.cells.toList) ∧ IsJV w x ∧ IsRow w A step shift (k + 1) r
end

theorem NamesAt.get {w : World} {A : Option Addr} {step : Nat} : ∀ {l : List ByteArray} {k : Nat}, NamesAt w A step k l → ∀ {j : Nat} {n : ByteArray}, l[j]? = some n →
    (∃ b off, A = some ⟨b, off, none⟩ ∧ w.cell? ⟨b, off + (k + j) * step, none⟩ = some (.string n)) ∧ n.size ≤ reach
  | [], _, _, j, n, hj => by simp at hj
  | m :: r, k, h, 0, n, hj => by
    unfold NamesAt at h
    simp only [List.getElem?_cons_zero, Option.some.injEq] at hj
    subst hj
    exact ⟨h.1, h.2.1⟩
  | m :: r, k, h, j + 1, n, hj => by
    unfold NamesAt at h
    simp only [List.getElem?_cons_succ] at hj
    have := h.2.2.get hj
    rw [show k + 1 + j = k + (j + 1) from by omega] at this
    exact this
theorem IsRow.get {w : World} {A : Option Addr} {step shift : Nat} : ∀ {l : List JV} {k : Nat}, IsRow w A step shift k l → ∀ {j : Nat} {x : JV}, l[j]? = some x →
    (∃ b off, A = some ⟨b, off, none⟩ ∧ w.rangeAt b (off + (k + j) * step + shift) x.cells.toList) ∧ IsJV w x
  | [], _, _, j, n, hj => by simp at hj
  | m :: r, k, h, 0, n, hj => by
    unfold IsRow at h
    simp only [List.getElem?_cons_zero, Option.some.injEq] at hj
    subst hj
    exact ⟨h.1, h.2.1⟩
  | m :: r, k, h, j + 1, n, hj => by
    unfold IsRow at h
    simp only [List.getElem?_cons_succ] at hj
    have := h.2.2.get hj
    rw [show k + 1 + j = k + (j + 1) from by omega] at this
    exact this

theorem cell_below {w w' : World} (hb : Below w.heap.size w w') {a : Addr} {v : Value} (h : w.cell? a = some v) : w'.cell? a = some v := by
  rw [hb.cell (p := a) (block_lt_of_cell h)]
  exact h

theorem NamesAt.below {w w' : World} (hb : Below w.heap.size w w') {A : Option Addr} {step : Nat} : ∀ {l : List ByteArray} {k : Nat}, NamesAt w A step k l → NamesAt w' A step k l
  | [], _, _ => by unfold NamesAt; exact True.intro
  | n :: r, k, h => by
    unfold NamesAt at h ⊢
    obtain ⟨⟨b, off, e, hc⟩, h2, h3⟩ := h
    exact ⟨⟨b, off, e, cell_below hb hc⟩, h2, h3.below hb⟩

/-- The seven cells of field k. -/
structure FieldCells (w : World) (bl o : Nat) (n : ByteArray) (x : VM) : Prop where
  c0 : w.cell? ⟨bl, o, none⟩ = some (.string n)
  c1 : w.cell? ⟨bl, o + 1, none⟩ = some (.int .i64 x.kind)
  c2 : w.cell? ⟨bl, o + 2, none⟩ = some (.bool x.b)
  c3 : w.cell? ⟨bl, o + 3, none⟩ = some (.int .i64 x.i)
  c4 : w.cell? ⟨bl, o + 4, none⟩ = some (.string x.t)
  c5 : w.cell? ⟨bl, o + 5, none⟩ = some (.slice x.LA x.Ln x.Lc)
  c6 : w.cell? ⟨bl, o + 6, none⟩ = some (.slice x.FA x.Fn x.Fc)
theorem FieldCells.below {w w' : World} (hb : Below w.heap.size w w') {bl o : Nat} {n : ByteArray} {x : VM} (h : FieldCells w bl o n x) : FieldCells w' bl o n x :=
  ⟨cell_below hb h.c0, cell_below hb h.c1, cell_below hb h.c2, cell_below hb h.c3, cell_below hb h.c4, cell_below hb h.c5, cell_below hb h.c6⟩
def look : List ByteArray → List JV → ByteArray → Option JV
  | n :: ns, x :: vs, name => if (n.toList == name.toList) = true then some x else look ns vs name
  | _, _, _ => none
def fieldS (j : JV) (name : ByteArray) : Option JV := if (j.v.kind == 5) = true then look j.ns j.vs name else none
def fieldD (j : JV) (name : ByteArray) : JV := (fieldS j name).getD JV.zero
end Go.Proofs.YtbehakabglegjaaGreatDoor
namespace Go.Proofs.YtbehakabglegjaaGreatDoor
open Go.RowKit
set_option linter.unusedVariables false
variable {P : Program} {ops : Array Oper} {rest : List Oper} {o : Oper} {a : Act} {w : World} {Q : Exit → Act → World → Prop}

theorem wpl_load_arr (hgd : o.guard = none) (ty : TypeId) (x : Operand) (ho : o.op = .load ty x) (b off : Nat) (hx : a.eval x = .pointer (some ⟨b, off, none⟩)) (arr : Array Value) (d : TypeDesc)
    (hc : w.rangeAt b off arr.toList) (hu : P.underlying ty = some d) (hd : d.isRow = true) (hi : (P.info? ty).map (·.size) = some arr.size)
    (h : wpList P ops Q rest (a.put o.dst (.agg arr)) w) : wpList P ops Q (o :: rest) a w := by
  refine wpList_load_mid hgd ty x ho b off hx arr.toList d hc hu hd (by simpa using hi) ?_
  rw [Array.toArray_toList]; exact h

theorem wpl_load_box (hgd : o.guard = none) (ty : TypeId) (x : Operand) (ho : o.op = .load ty x) (g : Nat) (hx : a.eval x = .pointer (some ⟨g, 0, none⟩)) (t : TypeId) (arr : Array Value) (d : TypeDesc)
    (hc : IBox w g t arr) (hu : P.underlying ty = some d) (hd : d.isRow = true) (hi : (P.info? ty).map (·.size) = some arr.size)
    (h : wpList P ops Q rest (a.put o.dst (.agg arr)) w) : wpList P ops Q (o :: rest) a w := by
  refine wpl_load_arr hgd ty x ho g 0 hx arr d (fun j v hv => ?_) hu hd hi h
  rw [Nat.zero_add, hc.cell j]
  simpa using hv

theorem hid_alloc0 {w w' : World} {z : Array Value} {t : TypeId} (h : Hid (w' = w.alloc (.cells z t))) : IBox w' w.heap.size t z := by
  have e := h.out
  subst e
  exact IBox.new _ _ _

theorem wpl_alloc_at (hgd : o.guard = none) (ty : TypeId) (ho : o.op = .alloc ty) (z : Array Value) (hz : ∀ w, (zeroValue ty).run P w = .ok (.agg z) w)
    (h : ∀ w', Hid (w' = w.alloc (.cells z ty)) → wpList P ops Q rest (a.put o.dst (.pointer (some ⟨w.heap.size, 0, none⟩))) w') : wpList P ops Q (o :: rest) a w :=
  wpList_plain hgd fun _ hK => by
    unfold Oper.wp execOp
    simp [ho, Instr.alloc, Sem.run_bind, hz, newVar, Value.cells]
    exact hK _ _ (h _ rfl)

theorem wpl_box_at (hgd : o.guard = none) (ty : TypeId) (x : Operand) (ho : o.op = .box ty x) (arr : Array Value) (hx : a.eval x = .agg arr)
    (h : ∀ w', Hid (w' = w.alloc (.cells arr ty)) → wpList P ops Q rest (a.put o.dst (.pointer (some ⟨w.heap.size, 0, none⟩))) w') : wpList P ops Q (o :: rest) a w :=
  wpList_plain hgd fun _ hK => by
    unfold Oper.wp execOp
    simp [ho, hx]
    exact hK _ _ (h _ rfl)

/-- A new variable and what is stored into it at once. -/
theorem wpl_newbox {o2 : Oper} (d : Tmp) (hgd : o.guard = none) (hdst : o.dst = some d) (ty : TypeId) (ho : o.op = .alloc ty) (hgd2 : o2.guard = none) (y : Operand) (ho2 : o2.op = .store ty (.tmp d) y) (z : Array Value) (hz : ∀ w, (zeroValue ty).run P w = .ok (.agg z) w)
    (cells : Array Value) (hx : (a.put o.dst (.pointer (some ⟨w.heap.size, 0, none⟩))).eval (.tmp d) = .pointer (some ⟨w.heap.size, 0, none⟩)) (hy : (a.put o.dst (.pointer (some ⟨w.heap.size, 0, none⟩))).eval y = .agg cells)
    (hi : (P.info? ty).map (·.size) = some cells.size) (hold : z.size = cells.size) (h1 : cells.all (·.oneCell') = true)
    (h : ∀ w', Hid (w' = w.alloc (.cells cells ty)) → wpList P ops Q rest ((a.put o.dst (.pointer (some ⟨w.heap.size, 0, none⟩))).put o2.dst undef) w') : wpList P ops Q (o :: o2 :: rest) a w := by
  refine wpl_alloc_at hgd ty ho z hz fun w1 hw1 => ?_
  have hI := hid_alloc0 hw1
  refine wpl_store_row hgd2 ty (.tmp d) y ho2 w.heap.size cells hx hy ty z hI hi hold h1 ?_
  refine h _ ?_
  have e := hw1.out
  subst e
  exact World.setRow_alloc_new w z cells ty

/-! What a hidden step gives. -/
theorem hid_alloc {w w' : World} {z : Array Value} {t : TypeId} (h : Hid (w' = w.alloc (.cells z t))) : IBox w' w.heap.size t z ∧ w'.heap.size = w.heap.size + 1 ∧ Below w.heap.size w w' := by
  have e := h.out
  subst e
  exact ⟨IBox.new _ _ _, by simp, (Below.refl _ _).alloc (Nat.le_refl _) _⟩
theorem hid_row {w w' : World} {g : Nat} {t : TypeId} {old arr : Array Value} (h : Hid (w' = w.setRow g arr)) (hb : IBox w g t old) : IBox w' g t arr := by
  have e := h.out
  subst e
  exact hb.row _
theorem hid_grow {w w' : World} {z : Array Value} {t : TypeId} (h : Hid (w' = w.alloc (.cells z t))) : Below w.heap.size w w' := (hid_alloc h).2.2
end Go.Proofs.YtbehakabglegjaaGreatDoor
namespace Go.Proofs.YtbehakabglegjaaGreatDoor
open Go.RowKit
set_option linter.unusedVariables false
variable {P : Program} {ops : Array Oper} {rest : List Oper} {o : Oper} {a : Act} {w : World} {Q : Exit → Act → World → Prop}

theorem wpl_store_cell (hgd : o.guard = none) (ty : TypeId) (x y : Operand) (ho : o.op = .store ty x y) (g off : Nat) (hx : a.eval x = .pointer (some ⟨g, off, none⟩)) (v : Value) (hy : a.eval y = v)
    (t : TypeId) (old : Array Value) (hg : IBox w g t old) (hoff : off < old.size) (hi : (P.info? ty).map (·.size) = some 1) (h1 : v.oneCell' = true)
    (h : ∀ w', Hid (w' = w.setRow g (old.setIfInBounds off v)) → wpList P ops Q rest (a.put o.dst undef) w') : wpList P ops Q (o :: rest) a w := by
  have hc : v.cells = #[v] := by cases v <;> first | rfl | cases h1
  have ht : w.there g off 1 := fun j hj => by
    obtain rfl : j = 0 := by omega
    refine ⟨?_, hg.frozen off⟩
    rw [Nat.add_zero, hg.cell off, Array.getElem?_eq_getElem hoff]
    rfl
  have hrun : (storeVar ty ⟨g, off, none⟩ v).run P w = .ok () (w.setCells g off [v]) := by
    have := run_storeVar_mid (P := P) w g off ty #[v] ht hi (by simp [h1])
    unfold storeVar at this ⊢
    rw [hc]
    exact this
  have hset : w.setCells g off [v] = w.setRow g (old.setIfInBounds off v) := by
    rw [← setCell_eq_setRow w g off old t (0, 0) v hg]
    simp [World.setCells]
  refine wpList_plain hgd fun _ hK => ?_
  unfold Oper.wp execOp
  simp only [ho, hx, hy, Instr.storeAt, Instr.sureAddr, Sem.run_bind, Sem.run_pure, Result.andThen_ok, hrun]
  rw [hset]
  exact hK _ _ (h _ rfl)

theorem parts_vals (parts : Array (Nat × Operand)) (vals : List (Nat × Value)) (hv : parts.toList.map (fun x => (x.1, a.eval x.2)) = vals) : (parts.map fun (i, x) => (i, a.eval x)) = vals.toArray := by
  apply Array.ext'
  rw [Array.toList_map, ← hv]
theorem wpl_slice_at (len : Nat) (vals : List (Nat × Value)) (cells : Array Value) (ie : TypeInfo) (z : Value)
    (hf : Instr.fill (fun i => some (i * ie.size, ie.size)) ((Array.range (len * ie.size)).map (z.cells[· % z.cells.size]!)) vals = some cells)
    (hgd : o.guard = none) (t e : TypeId) (parts : Array (Nat × Operand)) (ho : o.op = .buildSlice t len parts) (hv : parts.toList.map (fun x => (x.1, a.eval x.2)) = vals)
    (hu : P.underlying t = some (.slice e)) (hie : P.info? e = some ie) (hz : ie.zero = some z) (hsmall : ¬ len * ie.size > 2 ^ 24) (hpos : ¬ len * ie.size = 0)
    (h : ∀ w', Hid (w' = w.alloc (.cells cells e)) → wpList P ops Q rest (a.put o.dst (.slice (some ⟨w.heap.size, 0, none⟩) len len)) w') : wpList P ops Q (o :: rest) a w :=
  wpList_buildSlice hgd t e len parts ho cells ie z hu hie hz hsmall hpos (by rw [parts_vals parts vals hv]; exact hf) (h _ rfl)
theorem wpl_build_at {t : TypeId} {vals : List (Nat × Value)} {cells : Array Value} (hrun : ∀ w, (Instr.build t vals.toArray).run P w = .ok (.agg cells) w) (hgd : o.guard = none) (parts : Array (Nat × Operand)) (ho : o.op = .build t parts)
    (hv : parts.toList.map (fun x => (x.1, a.eval x.2)) = vals)
    (h : wpList P ops Q rest (a.put o.dst (.agg cells)) w) : wpList P ops Q (o :: rest) a w := by
  refine wpList_plain hgd fun _ hK => ?_
  unfold Oper.wp execOp
  simp only [ho, parts_vals parts vals hv, Sem.run_bind, hrun, Result.andThen_ok, Sem.run_pure]
  exact hK _ _ h
/-! Cheap guards ahead of the laws: which operation comes next. -/
theorem is_store {d : Option Tmp} {ty : TypeId} {x y : Operand} {tt : TypeId} {ps : String} {af : Array Edge} {gd : Option (Nat × Bool)} (h : wpList P ops Q (⟨d, .store ty x y, tt, ps, af, gd⟩ :: rest) a w) : wpList P ops Q (⟨d, .store ty x y, tt, ps, af, gd⟩ :: rest) a w := h
theorem is_build {d : Option Tmp} {ty : TypeId} {x : Array (Nat × Operand)} {tt : TypeId} {ps : String} {af : Array Edge} {gd : Option (Nat × Bool)} (h : wpList P ops Q (⟨d, .build ty x, tt, ps, af, gd⟩ :: rest) a w) : wpList P ops Q (⟨d, .build ty x, tt, ps, af, gd⟩ :: rest) a w := h
theorem is_slice {d : Option Tmp} {ty : TypeId} {n : Nat} {x : Array (Nat × Operand)} {tt : TypeId} {ps : String} {af : Array Edge} {gd : Option (Nat × Bool)} (h : wpList P ops Q (⟨d, .buildSlice ty n x, tt, ps, af, gd⟩ :: rest) a w) : wpList P ops Q (⟨d, .buildSlice ty n x, tt, ps, af, gd⟩ :: rest) a w := h
theorem is_alloc {d : Option Tmp} {ty : TypeId} {tt : TypeId} {ps : String} {af : Array Edge} {gd : Option (Nat × Bool)} (h : wpList P ops Q (⟨d, .alloc ty, tt, ps, af, gd⟩ :: rest) a w) : wpList P ops Q (⟨d, .alloc ty, tt, ps, af, gd⟩ :: rest) a w := h
theorem is_load {d : Option Tmp} {ty : TypeId} {x : Operand} {tt : TypeId} {ps : String} {af : Array Edge} {gd : Option (Nat × Bool)} (h : wpList P ops Q (⟨d, .load ty x, tt, ps, af, gd⟩ :: rest) a w) : wpList P ops Q (⟨d, .load ty x, tt, ps, af, gd⟩ :: rest) a w := h
end Go.Proofs.YtbehakabglegjaaGreatDoor
namespace Go.Proofs.YtbehakabglegjaaGreatDoor
open Go.RowKit
set_option linter.unusedVariables false

theorem own_below {w w' : World} {base : Nat} {e : TypeId} {size : Nat} {v : Value} {n : Nat} {xs : List Value} (h : w.ownsRow base e size v n xs) (hb : Below w.heap.size w w') : w'.ownsRow base e size v n xs :=
  h.kept (row := none) ⟨hb.os, hb.tape, hb.output, hb.size, fun k hk _ => hb.block k hk⟩ (by cases hv : v.ownBlock <;> simp)

end Go.Proofs.YtbehakabglegjaaGreatDoor
namespace Go.Proofs.YtbehakabglegjaaGreatDoor
open Go.RowKit
set_option linter.unusedVariables false

end Go.Proofs.YtbehakabglegjaaGreatDoor
namespace Go.Proofs.YtbehakabglegjaaGreatDoor
open Go.RowKit
set_option linter.unusedVariables false

end Go.Proofs.YtbehakabglegjaaGreatDoor
namespace Go.Proofs.YtbehakabglegjaaGreatDoor
open Go.RowKit
set_option linter.unusedVariables false
variable {P : Program} {o : Oper} {a : Act} {w : World} {Q : Exit → Act → World → Prop} {K : Act → World → Prop}
theorem op_store_at (ty : TypeId) (x y : Operand) (ho : o.op = .store ty x y) (g : Nat) (cells : Array Value) (hx : a.eval x = .pointer (some ⟨g, 0, none⟩)) (hy : a.eval y = .agg cells)
    (t : TypeId) (old : Array Value) (hg : IBox w g t old) (hi : (P.info? ty).map (·.size) = some cells.size) (hold : old.size = cells.size) (h1 : cells.all (·.oneCell') = true)
    (h : ∀ w', Hid (w' = w.setRow g cells) → K (a.put o.dst undef) w') : o.wp P a w K Q :=
  wp_store_row ty x y ho g cells hx hy t old hg hi hold h1 (h _ rfl)
end Go.Proofs.YtbehakabglegjaaGreatDoor
namespace Go.Proofs.YtbehakabglegjaaGreatDoor
open Go.RowKit
theorem below_dq {w w' : World} {n : Nat} (h : w.drewN n = w') : Below w.heap.size w w' := h ▸ ⟨rfl, rfl, rfl, Nat.le_refl _, fun _ _ => rfl⟩
end Go.Proofs.YtbehakabglegjaaGreatDoor
