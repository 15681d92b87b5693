/- Words that make the walks' texts shorter: an operation of a drawn region taken first; a box behind a change elsewhere; two changes one after the other. -/
import Derived.Test.YtbehakabglegjaaGreatDoorQ02
import Derived.Deep.RegionHeld3
import Derived.Deep.QuietTactic
namespace Go.Proofs.YtbehakabglegjaaGreatDoor
open Go.RowKit
set_option linter.unusedVariables false
section
variable {P : Program} {md : Region.Mode} {ops : Array Oper} {Q : Exit → Act → World → Prop} {S : World → Prop} {op : Op} {tt : TypeId} {ps : String} {af : Array Edge} {gd : Option (Nat × Bool)} {fuel : Nat} {listed : Array Bool} {a : Act} {w : World}
theorem TKB (i d : Nat) (v : Value) (hi : ops[i]? = some ⟨some d, op, tt, ps, af, gd⟩) (hy : ∀ w, S w → (execOp a.eval ⟨some d, op, tt, ps, af, gd⟩).run P w = .ok (.value v) w)
    (h : wpAnyH P md ops Q S fuel (listed.setIfInBounds i true) (a.put (some d) v) w) (hs : Region.noSelect ops = true := by kernel_rfl) (hf : Region.free md ops listed i = true := by kernel_rfl)
    (hr : (Region.ready md ops listed).contains i = true := by kernel_rfl) (hQ : ∀ c a w, Q (.panic c) (a.put (some d) v) w → Q (.panic c) a w := by exact fun _ _ _ h => h)
    (hw : Region.wanted ⟨some d, op, tt, ps, af, gd⟩ (yielded ops a.tmps) = true := by kernel_rfl) (hS : S w := by assumption) : wpAnyH P md ops Q S (fuel + 1) listed a w :=
  wpAnyH_take (v := v) hi hs hf hr hQ (Or.inl ⟨hw, hy⟩) hS h
theorem TKC (i d : Nat) {v : Value} (hi : ops[i]? = some ⟨some d, op, tt, ps, af, gd⟩)
    (h : wpAnyH P md ops Q S fuel (listed.setIfInBounds i true) (a.put (some d) v) w) (hy : ∀ w, S w → (execOp a.eval ⟨some d, op, tt, ps, af, gd⟩).run P w = .ok (.value v) w := by (intro w hSw; (try dsimp only at hSw); go_simp; try with_reducible rfl))
    (hs : Region.noSelect ops = true := by kernel_rfl) (hf : Region.free md ops listed i = true := by kernel_rfl)
    (hr : (Region.ready md ops listed).contains i = true := by kernel_rfl) (hQ : ∀ c a w, Q (.panic c) (a.put (some d) v) w → Q (.panic c) a w := by exact fun _ _ _ h => h)
    (hw : Region.wanted ⟨some d, op, tt, ps, af, gd⟩ (yielded ops a.tmps) = true := by kernel_rfl) (hS : S w := by assumption) : wpAnyH P md ops Q S (fuel + 1) listed a w :=
  wpAnyH_take (v := v) hi hs hf hr hQ (Or.inl ⟨hw, hy⟩) hS h
end
theorem zA {α : Type _} {xs : List α} {i : Nat} {a : α} : xs.toArray.setIfInBounds i a = (xs.set i a).toArray := by simp
theorem zB {α : Type _} {x : α} {xs : List α} {a : α} : (x :: xs).set 0 a = a :: xs := List.set_cons_zero
theorem zC {α : Type _} {x : α} {xs : List α} {i : Nat} {a : α} : (x :: xs).set (i + 1) a = x :: xs.set i a := List.set_cons_succ
theorem zI {w w' : World} {g : Nat} {t : TypeId} {arr : Array Value} (h : IBox w g t arr) (hb : Below w.heap.size w w') : IBox w' g t arr := IBox.below h hb (IBox.lt h)
theorem zT {a b c : World} (h : Below a.heap.size a b) (k : Below b.heap.size b c) : Below a.heap.size a c := h.trans (k.mono h.size)
end Go.Proofs.YtbehakabglegjaaGreatDoor
