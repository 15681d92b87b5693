/- Values of JSON in memory, and their trees without places. -/
import Derived.Test.YtnjhmnolngdfaaaGreatDoorMemS
import Derived.Test.YtnjhmnolngdfaaaGreatDoorAppL
import Derived.Test.YtnjhmnolngdfaaaGreatDoorRegB
import Derived.Test.YtnjhmnolngdfaaaGreatDoorOpL
import Derived.Deep.DrawnRows
namespace Go.Proofs.YtnjhmnolngdfaaaGreatDoor
open Go.RowKit
set_option linter.unusedVariables false
set_option linter.unusedSimpArgs false

mutual
theorem IsJV.below {w w' : World} (hb : Below w.heap.size w w') : ∀ {j : JV}, IsJV w j → IsJV w' j
  | .mk v l ns vs, h => by
    unfold IsJV at h ⊢
    exact ⟨⟨h.1.1, h.1.2.1, h.1.2.2.1, h.1.2.2.2.1, h.1.2.2.2.2.1, h.1.2.2.2.2.2.1, h.1.2.2.2.2.2.2.1, h.1.2.2.2.2.2.2.2.1, h.1.2.2.2.2.2.2.2.2.below hb⟩, h.2.1.below hb, h.2.2.below hb⟩
theorem IsRow.below {w w' : World} (hb : Below w.heap.size w w') {A : Option Addr} {step shift : Nat} : ∀ {l : List JV} {k : Nat}, IsRow w A step shift k l → IsRow w' A step shift k l
  | [], _, h => by unfold IsRow; exact True.intro
  | x :: r, k, h => by
    unfold IsRow at h ⊢
    obtain ⟨⟨b, off, e, hr⟩, h2, h3⟩ := h
    exact ⟨⟨b, off, e, range_below hb hr⟩, h2.below hb, h3.below hb⟩
end
theorem info_value : (Tryz.prog.info? 25).map (·.size) = some 6 := by kernel_rfl
theorem zero_value : (Tryz.prog.info? 25).map (fun i => (i.zero, i.size)) = some (some (.agg JV.zero.cells), 6) := by kernel_rfl
theorem zeroV (w : World) : (zeroValue 25).run Tryz.prog w = .ok (.agg JV.zero.cells) w := (Go.zero_of_info zero_value).1 w
theorem jv_one (j : JV) : j.cells.all (·.oneCell') = true := by simp [JV.cells, VM.cells, Value.oneCell']
theorem ret_bool2 {a b : Bool} (h : a = b) : Ending.returned (.bool a) = .returned (.bool b) := by rw [h]
/-- A value's tree, without its places in memory. -/
inductive JT where
  | mk (kind : Int) (b : Bool) (i : Int) (t : ByteArray) (l : List JT) (ns : List ByteArray) (vs : List JT)
mutual
def er : JV → JT
  | .mk v l ns vs => .mk v.kind v.b v.i v.t (erL l) ns (erL vs)
def erL : List JV → List JT
  | [] => []
  | x :: r => er x :: erL r
end
theorem erL_len : ∀ l : List JV, (erL l).length = l.length
  | [] => by unfold erL; rfl
  | x :: r => by unfold erL; rw [List.length_cons, List.length_cons, erL_len r]
theorem erL_get : ∀ {l m : List JV}, erL l = erL m → ∀ {i : Nat} {x y : JV}, l[i]? = some x → m[i]? = some y → er x = er y
  | [], _, _, i, x, y, hx, _ => by simp at hx
  | a :: r, [], _, i, x, y, _, hy => by simp at hy
  | a :: r, b :: s, h, 0, x, y, hx, hy => by
    unfold erL at h
    injection h with h1 h2
    have e1 : a = x := by simpa using hx
    have e2 : b = y := by simpa using hy
    rw [← e1, ← e2]; exact h1
  | a :: r, b :: s, h, i + 1, x, y, hx, hy => by
    unfold erL at h
    injection h with h1 h2
    exact erL_get h2 (by simpa using hx) (by simpa using hy)
theorem er_parts {j k : JV} (h : er j = er k) : k.v.kind = j.v.kind ∧ k.v.b = j.v.b ∧ k.v.i = j.v.i ∧ k.v.t = j.v.t ∧ erL j.l = erL k.l ∧ j.ns = k.ns ∧ erL j.vs = erL k.vs := by
  obtain ⟨v, l, ns, vs⟩ := j
  obtain ⟨v', l', ns', vs'⟩ := k
  unfold er at h
  injection h with h0 h1 h2 h3 h4 h5 h6
  exact ⟨h0.symm, h1.symm, h2.symm, h3.symm, h4, h5, h6⟩
theorem jv_lens {w : World} {j : JV} (h : IsJV w j) : j.v.Ln = j.l.length ∧ j.v.Fn = j.vs.length ∧ j.ns.length = j.vs.length ∧ j.v.Ln ≤ 9223372036854775807 ∧ j.v.Fn ≤ 9223372036854775807 := by
  obtain ⟨v, l, ns, vs⟩ := j
  unfold IsJV at h
  have h1 := h.1.2.2.2.2.2.2.1
  have h2 := h.1.2.2.2.2.2.2.2.1
  unfold reach at h1 h2
  exact ⟨h.1.2.2.2.1, h.1.2.2.2.2.1, h.1.2.2.2.2.2.1, by show v.Ln ≤ _; omega, by show v.Fn ≤ _; omega⟩
theorem jv_elem {w : World} {j : JV} (h : IsJV w j) {i : Nat} (hi : i < j.l.length) : ∃ bl off x, j.v.LA = some ⟨bl, off, none⟩ ∧ j.l[i]? = some x ∧ w.rangeAt bl (off + i * 6) x.cells.toList ∧ IsJV w x := by
  obtain ⟨v, l, ns, vs⟩ := j
  unfold IsJV at h
  have e : l[i]? = some l[i] := List.getElem?_eq_getElem hi
  obtain ⟨⟨b, off, hA, hr⟩, hx⟩ := h.2.1.get e
  rw [Nat.zero_add, Nat.add_zero] at hr
  exact ⟨b, off, l[i], hA, e, hr, hx⟩
theorem jv_fld {w : World} {j : JV} (h : IsJV w j) {i : Nat} (hi : i < j.vs.length) : ∃ bl off n x, j.v.FA = some ⟨bl, off, none⟩ ∧ j.vs[i]? = some x ∧ j.ns[i]? = some n ∧ w.cell? ⟨bl, off + i * 7, none⟩ = some (.string n) ∧ w.rangeAt bl (off + i * 7 + 1) x.cells.toList ∧ IsJV w x := by
  obtain ⟨v, l, ns, vs⟩ := j
  unfold IsJV at h
  have e : vs[i]? = some vs[i] := List.getElem?_eq_getElem hi
  have hi2 : i < vs.length := hi
  have hn : i < ns.length := by have := h.1.2.2.2.2.2.1; omega
  have e2 : ns[i]? = some ns[i] := List.getElem?_eq_getElem hn
  obtain ⟨⟨b, off, hA, hr⟩, hx⟩ := h.2.2.get e
  obtain ⟨⟨b2, off2, hA2, hc⟩, _⟩ := h.1.2.2.2.2.2.2.2.2.get e2
  rw [Nat.zero_add] at hr hc
  have hAA := hA.symm.trans hA2
  cases hAA
  exact ⟨b, off, ns[i], vs[i], hA, e, e2, hc, hr, hx⟩
theorem size_l {j x : JV} {i : Nat} (h : j.l[i]? = some x) : SizeOf.sizeOf x < SizeOf.sizeOf j := by
  obtain ⟨v, l, ns, vs⟩ := j
  have h1 := List.sizeOf_lt_of_mem (List.mem_of_getElem? h)
  have h2 : SizeOf.sizeOf (JV.mk v l ns vs) = 1 + SizeOf.sizeOf v + SizeOf.sizeOf l + SizeOf.sizeOf ns + SizeOf.sizeOf vs := JV.mk.sizeOf_spec v l ns vs
  have h3 : SizeOf.sizeOf (JV.l (.mk v l ns vs)) = SizeOf.sizeOf l := rfl
  omega
theorem size_vs {j x : JV} {i : Nat} (h : j.vs[i]? = some x) : SizeOf.sizeOf x < SizeOf.sizeOf j := by
  obtain ⟨v, l, ns, vs⟩ := j
  have h1 := List.sizeOf_lt_of_mem (List.mem_of_getElem? h)
  have h2 : SizeOf.sizeOf (JV.mk v l ns vs) = 1 + SizeOf.sizeOf v + SizeOf.sizeOf l + SizeOf.sizeOf ns + SizeOf.sizeOf vs := JV.mk.sizeOf_spec v l ns vs
  have h3 : SizeOf.sizeOf (JV.vs (.mk v l ns vs)) = SizeOf.sizeOf vs := rfl
  omega
theorem below_dq {w w' : World} {n : Nat} (h : w.drewN n = w') : Below w.heap.size w w' := h ▸ ⟨rfl, rfl, rfl, Nat.le_refl _, fun _ _ => rfl⟩
end Go.Proofs.YtnjhmnolngdfaaaGreatDoor
