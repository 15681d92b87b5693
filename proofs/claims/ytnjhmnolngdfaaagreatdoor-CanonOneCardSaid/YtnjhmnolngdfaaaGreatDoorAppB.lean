/- Rows of bytes of the call's own: appending a row that lies whole in a block, appending none, the row as a text. -/
import Derived.Test.YtnjhmnolngdfaaaGreatDoorBesL
import Derived.Test.YtnjhmnolngdfaaaGreatDoorU8i
import Derived.Laws.AppendOwnNone
import Derived.Laws.IdiomStrings
namespace Go.Proofs.YtnjhmnolngdfaaaGreatDoor
open Go.RowKit
set_option linter.unusedVariables false
set_option linter.unusedSimpArgs false
variable {ops : Array Oper} {rest : List Oper} {o : Oper} {a : Act} {w : World} {Q : Exit → Act → World → Prop}
/-- v is a row of these bytes of the call's own. -/
abbrev OwnB (w : World) (base : Nat) (v : Value) (l : List UInt8) : Prop := w.ownsRow base 5 1 v l.length (Lib.byteCells l)
theorem OwnB.nil (w : World) (base : Nat) : OwnB w base (.slice none 0 0) [] := ⟨rfl, .inl ⟨rfl, rfl⟩⟩
theorem OwnB.bes {w w' : World} {X : Nat → Prop} {base : Nat} {v : Value} {l : List UInt8} (h : OwnB w base v l) (hb : Bes X w w') (hX : ∀ k, X k → k < base) : OwnB w' base v l :=
  Bes.own hb h fun k hk hx => by have := (own_in h hk).1; have := hX k hx; omega
theorem OwnB.below {w w' : World} {base : Nat} {v : Value} {l : List UInt8} (h : OwnB w base v l) (hb : Below w.heap.size w w') : OwnB w' base v l := h.bes (X := fun _ => False) (Bes.of_below hb) (fun _ h => h.elim)
theorem bytes_one (l : List UInt8) : ∀ u ∈ Lib.byteCells l, u.oneCell' = true := by
  intro u hu
  unfold Lib.byteCells at hu
  obtain ⟨b, _, rfl⟩ := List.mem_map.1 hu
  rfl
/-- The row grown by the bytes of a row that lies whole in a block. -/
theorem wpl_append_bytes (hgd : o.guard = none) (s x : Operand) (t : TypeId) (ho : o.op = .call { callee := .builtin .append, args := #[s, x], argTypes := #[t, t] }) (ht : Tryz.prog.underlying t = some (.slice 5))
    (base : Nat) (v : Value) (l : List UInt8) (hs : a.eval s = v) (hown : OwnB w base v l)
    (g c : Nat) (m : List UInt8) (ty : TypeId) (k : Nat) (hk : k = m.length) (hx : a.eval x = .slice (some ⟨g, 0, none⟩) k c) (IB : ∀ (j : Nat) (u : Value), (Lib.byteCells m)[j]? = some u → w.cell? ⟨g, j, none⟩ = some u)
    (hl : l.length + m.length ≤ 140737488355328) (hbase : base ≤ w.heap.size)
    (h : ∀ v' w', OwnB w' base v' (l ++ m) → Bes (fun q => base ≤ q) w w' → Below base w w' → wpList Tryz.prog ops Q rest (a.put o.dst v') w') : wpList Tryz.prog ops Q (o :: rest) a w := by
  obtain ⟨ie, h1, h2, h3, h4⟩ := u8_info
  subst hk
  refine wpList_append_own w hgd s x t ho base 5 ie _ 1 1 ht h1 h2 h3 h4 rfl (by decide) v l.length (Lib.byteCells l) hs hown ⟨g, 0, none⟩ m.length c (Lib.byteCells m) hx (by rw [Lib.byteCells_length]; omega) ?_ (bytes_one m) (by unfold maxLen; omega) (by omega) hbase ?_
  · intro j u hu
    have hadd : (⟨g, 0, none⟩ : Addr).add j = ⟨g, j, none⟩ := by unfold Addr.add; split <;> simp_all
    rw [hadd]
    exact IB j u hu
  · intro v' w' h5 h6 _
    refine h v' w' ?_ (Bes.grown h6 fun k hk => (own_in hown hk).1) ((Below.refl base w).grown h6 hbase fun k hk => (hown.lt k hk).1)
    unfold OwnB
    rw [List.length_append, Lib.byteCells_append]
    exact h5
/-- Nothing is added. -/
theorem wpl_append_none (hgd : o.guard = none) (s x : Operand) (t : TypeId) (ho : o.op = .call { callee := .builtin .append, args := #[s, x], argTypes := #[t, t] }) (ht : Tryz.prog.underlying t = some (.slice 5))
    (base : Nat) (v : Value) (l : List UInt8) (hs : a.eval s = v) (hown : OwnB w base v l) (hx : a.eval x = .slice none 0 0)
    (h : wpList Tryz.prog ops Q rest (a.put o.dst v) w) : wpList Tryz.prog ops Q (o :: rest) a w := by
  obtain ⟨ie, h1, h2, h3, h4⟩ := u8_info
  exact wpList_append_own_none hgd s x t ho base 5 ie 1 ht h1 v l.length (Lib.byteCells l) hs hown hx h
theorem run_own_text {base : Nat} {v : Value} {l : List UInt8} {t u : TypeId} (ht : Tryz.prog.underlying t = some (.slice 5)) (hu : Tryz.prog.underlying u = some .string) (hown : OwnB w base v l) : (convert t u v).run Tryz.prog w = .ok (.string ⟨l.toArray⟩) w := by
  rcases hown.2 with ⟨rfl, h0⟩ | ⟨g, cap, cur, rfl, hb, hg, hn, hc, hs, htk⟩
  · have : l = [] := List.eq_nil_of_length_eq_zero h0
    subst this
    exact (run_convert_bytes_nil w t 5 ht Tryz.underlying5 0 0 u hu).trans (by rfl)
  · refine run_convert_bytes_back w t u 5 ⟨g, 0, none⟩ cap l ht Tryz.underlying5 hu fun j hj => ?_
    have hadd : (⟨g, 0, none⟩ : Addr).add j = ⟨g, j, none⟩ := by unfold Addr.add; split <;> simp_all
    have hI : IBox w g 5 cur := hg
    rw [hadd, hI.cell]
    have h1 : (Lib.byteCells l)[j]? = some (.int .u8 (l[j].toNat : Int)) := by
      unfold Lib.byteCells
      rw [List.getElem?_map, List.getElem?_eq_getElem hj]; rfl
    rw [← htk, List.getElem?_take] at h1
    split at h1
    · simpa using h1
    · cases h1
/-- The row as a text. -/
theorem wpl_own_text (hgd : o.guard = none) (x : Operand) (t u : TypeId) (ho : o.op = .convert t u x) (ht : Tryz.prog.underlying t = some (.slice 5)) (hu : Tryz.prog.underlying u = some .string) (base : Nat) (v : Value) (l : List UInt8) (hs : a.eval x = v) (hown : OwnB w base v l)
    (h : wpList Tryz.prog ops Q rest (a.put o.dst (.string ⟨l.toArray⟩)) w) : wpList Tryz.prog ops Q (o :: rest) a w :=
  wpList_plain hgd fun _ hK => by
    have e := run_own_text (t := t) (u := u) ht hu hown
    generalize hP : Tryz.prog = P at *
    unfold Oper.wp execOp
    simp only [ho, hs, Sem.run_bind, e, Result.andThen_ok, Sem.run_pure]
    exact hK _ _ h
theorem is_convert {P : Program} {d : Option Tmp} {t u : TypeId} {x : Operand} {tt : TypeId} {ps : String} {af : Array Edge} {gd : Option (Nat × Bool)} (h : wpList P ops Q (⟨d, .convert t u x, tt, ps, af, gd⟩ :: rest) a w) : wpList P ops Q (⟨d, .convert t u x, tt, ps, af, gd⟩ :: rest) a w := h
end Go.Proofs.YtnjhmnolngdfaaaGreatDoor
