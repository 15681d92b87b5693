/- A new variable and a store into it, as single operations of a region that draws its order. -/
import Derived.Test.YtnjhmnolngdfaaaGreatDoorRegB
namespace Go.Proofs.YtnjhmnolngdfaaaGreatDoor
open Go.RowKit
set_option linter.unusedVariables false
variable {P : Program} {o : Oper} {a : Act} {w : World} {Q : Exit → Act → World → Prop} {K : Act → World → Prop}
theorem op_alloc_at (ty : TypeId) (ho : o.op = .alloc ty) (z : Array Value) (hz : ∀ w, (zeroValue ty).run P w = .ok (.agg z) w)
    (h : ∀ w', Hid (w' = w.alloc (.cells z ty)) → K (a.put o.dst (.pointer (some ⟨w.heap.size, 0, none⟩))) w') : o.wp P a w K Q := by
  unfold Oper.wp execOp
  simp [ho, Instr.alloc, Sem.run_bind, hz, newVar, Value.cells]
  exact h _ rfl
theorem op_store_at (ty : TypeId) (x y : Operand) (ho : o.op = .store ty x y) (g : Nat) (cells : Array Value) (hx : a.eval x = .pointer (some ⟨g, 0, none⟩)) (hy : a.eval y = .agg cells)
    (t : TypeId) (old : Array Value) (hg : IBox w g t old) (hi : (P.info? ty).map (·.size) = some cells.size) (hold : old.size = cells.size) (h1 : cells.all (·.oneCell') = true)
    (h : ∀ w', Hid (w' = w.setRow g cells) → K (a.put o.dst undef) w') : o.wp P a w K Q :=
  wp_store_row ty x y ho g cells hx hy t old hg hi hold h1 (h _ rfl)
end Go.Proofs.YtnjhmnolngdfaaaGreatDoor
