/- A store into one cell of a box; a row of structs built at once. Worlds as letters. -/
import Derived.Test.YtnjhmnolngdfaaaGreatDoorMemL
import Derived.Great.BuildSlice
import Derived.Deep.MidRow
namespace Go.Proofs.YtnjhmnolngdfaaaGreatDoor
open Go.RowKit
set_option linter.unusedVariables false
variable {P : Program} {ops : Array Oper} {rest : List Oper} {o : Oper} {a : Act} {w : World} {Q : Exit → Act → World → Prop}

theorem wpl_store_cell (hgd : o.guard = none) (ty : TypeId) (x y : Operand) (ho : o.op = .store ty x y) (g off : Nat) (hx : a.eval x = .pointer (some ⟨g, off, none⟩)) (v : Value) (hy : a.eval y = v)
    (t : TypeId) (old : Array Value) (hg : IBox w g t old) (hoff : off < old.size) (hi : (P.info? ty).map (·.size) = some 1) (h1 : v.oneCell' = true)
    (h : ∀ w', Hid (w' = w.setRow g (old.setIfInBounds off v)) → wpList P ops Q rest (a.put o.dst undef) w') : wpList P ops Q (o :: rest) a w := by
  have hc : v.cells = #[v] := by cases v <;> first | rfl | cases h1
  have ht : w.there g off 1 := fun j hj => by
    obtain rfl : j = 0 := by omega
    refine ⟨?_, hg.frozen off⟩
    rw [Nat.add_zero, hg.cell off, Array.getElem?_eq_getElem hoff]
    rfl
  have hrun : (storeVar ty ⟨g, off, none⟩ v).run P w = .ok () (w.setCells g off [v]) := by
    have := run_storeVar_mid (P := P) w g off ty #[v] ht hi (by simp [h1])
    unfold storeVar at this ⊢
    rw [hc]
    exact this
  have hset : w.setCells g off [v] = w.setRow g (old.setIfInBounds off v) := by
    rw [← setCell_eq_setRow w g off old t (0, 0) v hg]
    simp [World.setCells]
  refine wpList_plain hgd fun _ hK => ?_
  unfold Oper.wp execOp
  simp only [ho, hx, hy, Instr.storeAt, Instr.sureAddr, Sem.run_bind, Sem.run_pure, Result.andThen_ok, hrun]
  rw [hset]
  exact hK _ _ (h _ rfl)

theorem parts_vals (parts : Array (Nat × Operand)) (vals : List (Nat × Value)) (hv : parts.toList.map (fun x => (x.1, a.eval x.2)) = vals) : (parts.map fun (i, x) => (i, a.eval x)) = vals.toArray := by
  apply Array.ext'
  rw [Array.toList_map, ← hv]
theorem wpl_slice_at (len : Nat) (vals : List (Nat × Value)) (cells : Array Value) (ie : TypeInfo) (z : Value)
    (hf : Instr.fill (fun i => some (i * ie.size, ie.size)) ((Array.range (len * ie.size)).map (z.cells[· % z.cells.size]!)) vals = some cells)
    (hgd : o.guard = none) (t e : TypeId) (parts : Array (Nat × Operand)) (ho : o.op = .buildSlice t len parts) (hv : parts.toList.map (fun x => (x.1, a.eval x.2)) = vals)
    (hu : P.underlying t = some (.slice e)) (hie : P.info? e = some ie) (hz : ie.zero = some z) (hsmall : ¬ len * ie.size > 2 ^ 24) (hpos : ¬ len * ie.size = 0)
    (h : ∀ w', Hid (w' = w.alloc (.cells cells e)) → wpList P ops Q rest (a.put o.dst (.slice (some ⟨w.heap.size, 0, none⟩) len len)) w') : wpList P ops Q (o :: rest) a w :=
  wpList_buildSlice hgd t e len parts ho cells ie z hu hie hz hsmall hpos (by rw [parts_vals parts vals hv]; exact hf) (h _ rfl)
theorem wpl_build_at {t : TypeId} {vals : List (Nat × Value)} {cells : Array Value} (hrun : ∀ w, (Instr.build t vals.toArray).run P w = .ok (.agg cells) w) (hgd : o.guard = none) (parts : Array (Nat × Operand)) (ho : o.op = .build t parts)
    (hv : parts.toList.map (fun x => (x.1, a.eval x.2)) = vals)
    (h : wpList P ops Q rest (a.put o.dst (.agg cells)) w) : wpList P ops Q (o :: rest) a w := by
  refine wpList_plain hgd fun _ hK => ?_
  unfold Oper.wp execOp
  simp only [ho, parts_vals parts vals hv, Sem.run_bind, hrun, Result.andThen_ok, Sem.run_pure]
  exact hK _ _ h
/-! Cheap guards ahead of the laws: which operation comes next. -/
theorem is_store {d : Option Tmp} {ty : TypeId} {x y : Operand} {tt : TypeId} {ps : String} {af : Array Edge} {gd : Option (Nat × Bool)} (h : wpList P ops Q (⟨d, .store ty x y, tt, ps, af, gd⟩ :: rest) a w) : wpList P ops Q (⟨d, .store ty x y, tt, ps, af, gd⟩ :: rest) a w := h
theorem is_build {d : Option Tmp} {ty : TypeId} {x : Array (Nat × Operand)} {tt : TypeId} {ps : String} {af : Array Edge} {gd : Option (Nat × Bool)} (h : wpList P ops Q (⟨d, .build ty x, tt, ps, af, gd⟩ :: rest) a w) : wpList P ops Q (⟨d, .build ty x, tt, ps, af, gd⟩ :: rest) a w := h
theorem is_slice {d : Option Tmp} {ty : TypeId} {n : Nat} {x : Array (Nat × Operand)} {tt : TypeId} {ps : String} {af : Array Edge} {gd : Option (Nat × Bool)} (h : wpList P ops Q (⟨d, .buildSlice ty n x, tt, ps, af, gd⟩ :: rest) a w) : wpList P ops Q (⟨d, .buildSlice ty n x, tt, ps, af, gd⟩ :: rest) a w := h
theorem is_alloc {d : Option Tmp} {ty : TypeId} {tt : TypeId} {ps : String} {af : Array Edge} {gd : Option (Nat × Bool)} (h : wpList P ops Q (⟨d, .alloc ty, tt, ps, af, gd⟩ :: rest) a w) : wpList P ops Q (⟨d, .alloc ty, tt, ps, af, gd⟩ :: rest) a w := h
theorem is_load {d : Option Tmp} {ty : TypeId} {x : Operand} {tt : TypeId} {ps : String} {af : Array Edge} {gd : Option (Nat × Bool)} (h : wpList P ops Q (⟨d, .load ty x, tt, ps, af, gd⟩ :: rest) a w) : wpList P ops Q (⟨d, .load ty x, tt, ps, af, gd⟩ :: rest) a w := h
end Go.Proofs.YtnjhmnolngdfaaaGreatDoor
