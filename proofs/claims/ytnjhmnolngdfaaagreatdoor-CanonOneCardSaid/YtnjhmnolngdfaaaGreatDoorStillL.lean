/- Regions that draw their order and read first, then go on in one forced order: the drawn world is a letter; loads of structs as opaque arrays. -/
import Derived.Test.YtnjhmnolngdfaaaGreatDoorMemL
import Derived.StillTailTactics
namespace Go.Proofs.YtnjhmnolngdfaaaGreatDoor
open Go.RowKit
set_option linter.unusedVariables false

theorem still_load_arr {P : Program} {ops : Array Oper} {rest : List Oper} {o : Oper} {a : Act} {w : World} {K : Act → Prop} (hgd : o.guard = none) (ty : TypeId) (x : Operand) (ho : o.op = .load ty x) (b off : Nat)
    (hx : a.eval x = .pointer (some ⟨b, off, none⟩)) (arr : Array Value) (d : TypeDesc)
    (hc : w.rangeAt b off arr.toList) (hu : P.underlying ty = some d) (hd : d.isRow = true) (hi : (P.info? ty).map (·.size) = some arr.size)
    (h : wpStill P ops w K rest (a.put o.dst (.agg arr))) : wpStill P ops w K (o :: rest) a := by
  refine wpStill_step fun K2 hK => ?_
  simp only [Region.wanted, hgd, if_true]
  unfold Oper.still execOp
  simp only [ho, hx, Instr.loadAt, Instr.sureAddr, Sem.run_bind, Sem.run_pure, Result.andThen_ok, run_loadVar_mid w b off ty arr.toList d hc hu hd (by simpa using hi), Array.toArray_toList]
  exact ⟨rfl, hK _ h⟩

theorem still_load_box {P : Program} {ops : Array Oper} {rest : List Oper} {o : Oper} {a : Act} {w : World} {K : Act → Prop} (hgd : o.guard = none) (ty : TypeId) (x : Operand) (ho : o.op = .load ty x) (g : Nat)
    (hx : a.eval x = .pointer (some ⟨g, 0, none⟩)) (t : TypeId) (arr : Array Value) (d : TypeDesc)
    (hc : IBox w g t arr) (hu : P.underlying ty = some d) (hd : d.isRow = true) (hi : (P.info? ty).map (·.size) = some arr.size)
    (h : wpStill P ops w K rest (a.put o.dst (.agg arr))) : wpStill P ops w K (o :: rest) a := by
  refine still_load_arr hgd ty x ho g 0 hx arr d (fun j v hv => ?_) hu hd hi h
  rw [Nat.zero_add, hc.cell j]
  simpa using hv

/-- Reads (in any order), then the forced rest: the world after the draw is any world that differs from the one before in nothing but the draw. -/
theorem wp_still_then {P : Program} {id : Nat} {Q : Exit → Act → World → Prop} {a : Act} {w : World} {l : List Oper} (n : Nat) (hm : P.follows .mixedOrders = true) (hB : Region.lexTailB .any l.toArray n = true)
    (h : ∀ w2, Below w.heap.size w w2 → wpStill P l.toArray w2 (fun a' => wpList P l.toArray Q (l.drop n) a' w2) (l.take n) a) : (Code.region id l.toArray true).wp P Q a w :=
  wp_region_still_tail n hm hB (h _ ⟨rfl, rfl, rfl, Nat.le_refl _, fun _ _ => rfl⟩)

theorem still_end {P : Program} {ops : Array Oper} {w : World} {Q : Exit → Act → World → Prop} {l : List Oper} {a : Act} (h : wpList P ops Q l a w) : wpStill P ops w (fun a' => wpList P ops Q l a' w) [] a := h
end Go.Proofs.YtnjhmnolngdfaaaGreatDoor
