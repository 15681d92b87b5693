/- Appending one element to a row of the call's own; worlds as letters. -/
import Derived.Test.YtnjhmnolngdfaaaGreatDoorMemL
namespace Go.Proofs.YtnjhmnolngdfaaaGreatDoor
open Go.RowKit
set_option linter.unusedVariables false

theorem own_below {w w' : World} {base : Nat} {e : TypeId} {size : Nat} {v : Value} {n : Nat} {xs : List Value} (h : w.ownsRow base e size v n xs) (hb : Below w.heap.size w w') : w'.ownsRow base e size v n xs :=
  h.kept (row := none) ⟨hb.os, hb.tape, hb.output, hb.size, fun k hk _ => hb.block k hk⟩ (by cases hv : v.ownBlock <;> simp)

/-- The row grown by one element that lies in a block of its own. -/
theorem wpl_append_fresh {P : Program} {ops : Array Oper} {rest : List Oper} {o : Oper} {a : Act} {w : World} {Q : Exit → Act → World → Prop} (hgd : o.guard = none) (s x : Operand) (t : TypeId)
    (ho : o.op = .call { callee := .builtin .append, args := #[s, x], argTypes := #[t, t] })
    (base : Nat) (e : TypeId) (i : TypeInfo) (z : Value) (size bytes : Nat) (ht : P.underlying t = some (.slice e)) (hi : P.info? e = some i) (hz : i.zero = some z)
    (hsize : i.size = size) (hby : i.bytes = bytes) (hzs : z.cells.size = size) (hsz : 0 < size)
    (v : Value) (n : Nat) (xs : List Value) (hs : a.eval s = v) (hown : w.ownsRow base e size v n xs)
    (g c : Nat) (cells : Array Value) (ty : TypeId) (IB : IBox w g ty cells) (hcs : cells.size = size) (hx : a.eval x = .slice (some ⟨g, 0, none⟩) 1 c) (h1 : cells.all (·.oneCell') = true)
    (h63 : n + 1 ≤ maxLen) (hbytes : (n + 1) * bytes ≤ 140737488355328) (hbase : base ≤ w.heap.size)
    (h : ∀ v' w', w'.ownsRow base e size v' (n + 1) (xs ++ cells.toList) → Below base w w' → wpList P ops Q rest (a.put o.dst v') w') : wpList P ops Q (o :: rest) a w := by
  refine wpList_append_own w hgd s x t ho base e i z size bytes ht hi hz hsize hby hzs hsz v n xs hs hown ⟨g, 0, none⟩ 1 c cells.toList hx (by simp [hcs]) ?_ ?_ h63 hbytes hbase ?_
  · intro j u hu
    have hadd : (⟨g, 0, none⟩ : Addr).add j = ⟨g, j, none⟩ := by unfold Addr.add; split <;> simp_all
    rw [hadd, IB.cell]
    simpa using hu
  · intro u hu
    have := Array.all_eq_true_iff_forall_mem.1 h1 u (by simpa using hu)
    exact this
  · intro v' w' h2 h3 _
    exact h v' w' h2 ((Below.refl base w).grown h3 hbase fun k hk => (hown.lt k hk).1)

theorem take_next {α : Type} {l : List α} {k : Nat} {x : α} (h : l[k]? = some x) : l.take (k + 1) = l.take k ++ [x] := by
  obtain ⟨hl, e⟩ := List.getElem?_eq_some_iff.1 h
  rw [List.take_succ_eq_append_getElem hl, e]
end Go.Proofs.YtnjhmnolngdfaaaGreatDoor
