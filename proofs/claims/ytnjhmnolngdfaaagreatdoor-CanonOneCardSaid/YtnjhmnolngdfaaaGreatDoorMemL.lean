/- Laws at the operation, for structs as opaque arrays and worlds as opaque letters. -/
import Derived.Test.YtnjhmnolngdfaaaGreatDoorJvA
import Derived.Deep.WholeRow
namespace Go.Proofs.YtnjhmnolngdfaaaGreatDoor
open Go.RowKit
set_option linter.unusedVariables false
variable {P : Program} {ops : Array Oper} {rest : List Oper} {o : Oper} {a : Act} {w : World} {Q : Exit → Act → World → Prop}

theorem wpl_load_arr (hgd : o.guard = none) (ty : TypeId) (x : Operand) (ho : o.op = .load ty x) (b off : Nat) (hx : a.eval x = .pointer (some ⟨b, off, none⟩)) (arr : Array Value) (d : TypeDesc)
    (hc : w.rangeAt b off arr.toList) (hu : P.underlying ty = some d) (hd : d.isRow = true) (hi : (P.info? ty).map (·.size) = some arr.size)
    (h : wpList P ops Q rest (a.put o.dst (.agg arr)) w) : wpList P ops Q (o :: rest) a w := by
  refine wpList_load_mid hgd ty x ho b off hx arr.toList d hc hu hd (by simpa using hi) ?_
  rw [Array.toArray_toList]; exact h

theorem wpl_load_box (hgd : o.guard = none) (ty : TypeId) (x : Operand) (ho : o.op = .load ty x) (g : Nat) (hx : a.eval x = .pointer (some ⟨g, 0, none⟩)) (t : TypeId) (arr : Array Value) (d : TypeDesc)
    (hc : IBox w g t arr) (hu : P.underlying ty = some d) (hd : d.isRow = true) (hi : (P.info? ty).map (·.size) = some arr.size)
    (h : wpList P ops Q rest (a.put o.dst (.agg arr)) w) : wpList P ops Q (o :: rest) a w := by
  refine wpl_load_arr hgd ty x ho g 0 hx arr d (fun j v hv => ?_) hu hd hi h
  rw [Nat.zero_add, hc.cell j]
  simpa using hv

theorem hid_alloc0 {w w' : World} {z : Array Value} {t : TypeId} (h : Hid (w' = w.alloc (.cells z t))) : IBox w' w.heap.size t z := by
  have e := h.out
  subst e
  exact IBox.new _ _ _

theorem wpl_alloc_at (hgd : o.guard = none) (ty : TypeId) (ho : o.op = .alloc ty) (z : Array Value) (hz : ∀ w, (zeroValue ty).run P w = .ok (.agg z) w)
    (h : ∀ w', Hid (w' = w.alloc (.cells z ty)) → wpList P ops Q rest (a.put o.dst (.pointer (some ⟨w.heap.size, 0, none⟩))) w') : wpList P ops Q (o :: rest) a w :=
  wpList_plain hgd fun _ hK => by
    unfold Oper.wp execOp
    simp [ho, Instr.alloc, Sem.run_bind, hz, newVar, Value.cells]
    exact hK _ _ (h _ rfl)

theorem wpl_store_at (hgd : o.guard = none) (ty : TypeId) (x y : Operand) (ho : o.op = .store ty x y) (g : Nat) (cells : Array Value) (hx : a.eval x = .pointer (some ⟨g, 0, none⟩)) (hy : a.eval y = .agg cells)
    (t : TypeId) (old : Array Value) (hg : IBox w g t old) (hi : (P.info? ty).map (·.size) = some cells.size) (hold : old.size = cells.size) (h1 : cells.all (·.oneCell') = true)
    (h : ∀ w', Hid (w' = w.setRow g cells) → wpList P ops Q rest (a.put o.dst undef) w') : wpList P ops Q (o :: rest) a w :=
  wpl_store_row hgd ty x y ho g cells hx hy t old hg hi hold h1 (h _ rfl)

theorem wpl_box_at (hgd : o.guard = none) (ty : TypeId) (x : Operand) (ho : o.op = .box ty x) (arr : Array Value) (hx : a.eval x = .agg arr)
    (h : ∀ w', Hid (w' = w.alloc (.cells arr ty)) → wpList P ops Q rest (a.put o.dst (.pointer (some ⟨w.heap.size, 0, none⟩))) w') : wpList P ops Q (o :: rest) a w :=
  wpList_plain hgd fun _ hK => by
    unfold Oper.wp execOp
    simp [ho, hx]
    exact hK _ _ (h _ rfl)

/-- A new variable and what is stored into it at once. -/
theorem wpl_newbox {o2 : Oper} (d : Tmp) (hgd : o.guard = none) (hdst : o.dst = some d) (ty : TypeId) (ho : o.op = .alloc ty) (hgd2 : o2.guard = none) (y : Operand) (ho2 : o2.op = .store ty (.tmp d) y) (z : Array Value) (hz : ∀ w, (zeroValue ty).run P w = .ok (.agg z) w)
    (cells : Array Value) (hx : (a.put o.dst (.pointer (some ⟨w.heap.size, 0, none⟩))).eval (.tmp d) = .pointer (some ⟨w.heap.size, 0, none⟩)) (hy : (a.put o.dst (.pointer (some ⟨w.heap.size, 0, none⟩))).eval y = .agg cells)
    (hi : (P.info? ty).map (·.size) = some cells.size) (hold : z.size = cells.size) (h1 : cells.all (·.oneCell') = true)
    (h : ∀ w', Hid (w' = w.alloc (.cells cells ty)) → wpList P ops Q rest ((a.put o.dst (.pointer (some ⟨w.heap.size, 0, none⟩))).put o2.dst undef) w') : wpList P ops Q (o :: o2 :: rest) a w := by
  refine wpl_alloc_at hgd ty ho z hz fun w1 hw1 => ?_
  have hI := hid_alloc0 hw1
  refine wpl_store_row hgd2 ty (.tmp d) y ho2 w.heap.size cells hx hy ty z hI hi hold h1 ?_
  refine h _ ?_
  have e := hw1.out
  subst e
  exact World.setRow_alloc_new w z cells ty

/-! What a hidden step gives. -/
theorem hid_alloc {w w' : World} {z : Array Value} {t : TypeId} (h : Hid (w' = w.alloc (.cells z t))) : IBox w' w.heap.size t z ∧ w'.heap.size = w.heap.size + 1 ∧ Below w.heap.size w w' := by
  have e := h.out
  subst e
  exact ⟨IBox.new _ _ _, by simp, (Below.refl _ _).alloc (Nat.le_refl _) _⟩
theorem hid_alloc_old {w w' : World} {z arr : Array Value} {t t' : TypeId} {g : Nat} (h : Hid (w' = w.alloc (.cells z t))) (hb : IBox w g t' arr) : IBox w' g t' arr := by
  have e := h.out
  subst e
  exact hb.alloc _
theorem hid_row {w w' : World} {g : Nat} {t : TypeId} {old arr : Array Value} (h : Hid (w' = w.setRow g arr)) (hb : IBox w g t old) : IBox w' g t arr := by
  have e := h.out
  subst e
  exact hb.row _
theorem hid_row_other {w w' : World} {g k : Nat} {t : TypeId} {arr cs : Array Value} (h : Hid (w' = w.setRow k cs)) (hk : g ≠ k) (hb : IBox w g t arr) : IBox w' g t arr := by
  have e := h.out
  subst e
  exact hb.row_other _ hk
theorem hid_row_below {w w' a : World} {g B : Nat} {arr : Array Value} (h : Hid (w' = w.setRow g arr)) (hg : B ≤ g) (hb : Below B a w) : Below B a w' ∧ w'.heap.size = w.heap.size := by
  have e := h.out
  subst e
  exact ⟨below_setRow hb hg _, size_setRow _ _ _⟩
theorem hid_grow {w w' : World} {z : Array Value} {t : TypeId} (h : Hid (w' = w.alloc (.cells z t))) : Below w.heap.size w w' := (hid_alloc h).2.2
end Go.Proofs.YtnjhmnolngdfaaaGreatDoor
