/- Regions that draw their order and hold calls that make memory: whatever stands below the region's own start is kept, so every read of it may be taken first. -/
import Derived.Test.YtnjhmnolngdfaaaGreatDoorStillL
import Derived.Deep.RegionHeld3
import Derived.Deep.MidRow
namespace Go.Proofs.YtnjhmnolngdfaaaGreatDoor
open Go.RowKit
set_option linter.unusedVariables false

theorem wp_region_below {P : Program} {ops : Array Oper} {id : Nat} {Q : Exit → Act → World → Prop} {a : Act} {w : World} (hm : P.follows .mixedOrders = true)
    (h : ∀ w2, Below w.heap.size w w2 → wpAnyH P .any ops Q (fun w' => Below w.heap.size w w') ops.size (Array.replicate ops.size false) a w2) : (Code.region id ops true).wp P Q a w :=
  wp_region_held_drew (S := fun w' => Below w.heap.size w w') hm ⟨rfl, rfl, rfl, Nat.le_refl _, fun _ _ => rfl⟩ (fun h1 => h _ h1)

theorem yields_arr {P : Program} {ops : Array Oper} {o : Oper} {a : Act} {w : World} (hw : Region.wanted o (yielded ops a.tmps) = true) (ty : TypeId) (x : Operand) (ho : o.op = .load ty x) (b off : Nat)
    (hx : a.eval x = .pointer (some ⟨b, off, none⟩)) (arr : Array Value) (d : TypeDesc)
    (hc : w.rangeAt b off arr.toList) (hu : P.underlying ty = some d) (hd : d.isRow = true) (hi : (P.info? ty).map (·.size) = some arr.size) :
    YieldsIf P ops (fun w' => Below w.heap.size w w') o (.agg arr) a := by
  have := yieldsIf_load_mid (P := P) (S := fun w' => Below w.heap.size w w') hw ty x ho b off hx arr.toList d (fun w' hS => range_below hS hc) hu hd (by simpa using hi)
  rwa [Array.toArray_toList] at this

theorem yields_box {P : Program} {ops : Array Oper} {o : Oper} {a : Act} {w : World} (hw : Region.wanted o (yielded ops a.tmps) = true) (ty : TypeId) (x : Operand) (ho : o.op = .load ty x) (g : Nat)
    (hx : a.eval x = .pointer (some ⟨g, 0, none⟩)) (t : TypeId) (arr : Array Value) (d : TypeDesc)
    (hc : IBox w g t arr) (hu : P.underlying ty = some d) (hd : d.isRow = true) (hi : (P.info? ty).map (·.size) = some arr.size) :
    YieldsIf P ops (fun w' => Below w.heap.size w w') o (.agg arr) a := by
  refine yields_arr hw ty x ho g 0 hx arr d (fun j v hv => ?_) hu hd hi
  rw [Nat.zero_add, hc.cell j]
  simpa using hv
end Go.Proofs.YtnjhmnolngdfaaaGreatDoor
