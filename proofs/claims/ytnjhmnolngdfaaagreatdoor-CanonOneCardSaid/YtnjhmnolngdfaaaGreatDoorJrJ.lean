/- Layer 2: a value under way: its box, the row of what was read so far, the variables that a closure holds. -/
import Derived.Test.YtnjhmnolngdfaaaGreatDoorJrI
import Derived.Test.YtnjhmnolngdfaaaGreatDoorJvB
namespace Go.Proofs.YtnjhmnolngdfaaaGreatDoor
open Go.RowKit Go.PlainAid
set_option linter.unusedVariables false
set_option linter.unusedSimpArgs false

theorem IBox.mv {r : Nat} {w w' : World} {g : Nat} {t : TypeId} {arr : Array Value} (h : IBox w g t arr) (hm : Mv r w w') (hg : g ≠ r) : IBox w' g t arr := (hm.block g h.lt hg).trans h
/-- The memory of a value under way. -/
structure LK (r : Nat) (s : ByteArray) (b0 b1 gv gr gd : Nat) (dep : Int) (E : TypeId) (size : Nat) (k : Nat) (arr : Array Value) (v : Value) (n : Nat) (xs : List Value) (acc : List JV) (w : World) : Prop where
  rd : Rd w r s k
  gl : Gl w r
  box : IBox w gv 25 arr
  rb : IBox w gr 68 #[At r]
  db : IBox w gd 3 #[.int .i64 dep]
  own : w.ownsRow b1 E size v n xs
  els : ∀ y ∈ acc, IsJV w y ∧ Off (fun q => q < b1 ∨ v.ownBlock = some q) y
  st : r < b0 ∧ b0 ≤ gv ∧ gv < b1 ∧ gr < b1 ∧ gd < b1 ∧ gv ≠ gr ∧ gv ≠ gd ∧ gr ≠ r ∧ gd ≠ r ∧ b1 ≤ w.heap.size
section
variable {r : Nat} {s : ByteArray} {b0 b1 gv gr gd : Nat} {dep : Int} {E : TypeId} {size k : Nat} {arr : Array Value} {v : Value} {n : Nat} {xs : List Value} {acc : List JV} {w w' : World}
theorem LK.mv (h : LK r s b0 b1 gv gr gd dep E size k arr v n xs acc w) (hm : Mv r w w') {k' : Nat} (hr : Rd w' r s k') : LK r s b0 b1 gv gr gd dep E size k' arr v n xs acc w' := by
  obtain ⟨h1, h2, h3, h4, h5, h6, h7, h8, h9, h10⟩ := h.st
  refine ⟨hr, h.gl.mv hm, h.box.mv hm (by omega), h.rb.mv hm (by omega), h.db.mv hm (by omega), hm.own h.own (fun q e he => ?_), fun y hy => ?_, ⟨h1, h2, h3, h4, h5, h6, h7, h8, h9, Nat.le_trans h10 hm.size⟩⟩
  · have := (own_in h.own e).1; have he2 : q = r := he; omega
  · obtain ⟨a, b⟩ := h.els y hy
    exact ⟨IsJV.bes hm a (Off.mono (fun q e => Or.inl (by have e2 : q = r := e; omega)) b), b⟩
theorem LK.below (h : LK r s b0 b1 gv gr gd dep E size k arr v n xs acc w) (hb : Below w.heap.size w w') : LK r s b0 b1 gv gr gd dep E size k arr v n xs acc w' := h.mv (Mv.of hb) (h.rd.below hb)
theorem LK.add (h : LK r s b0 b1 gv gr gd dep E size k arr v n xs acc w) {j : JV} (hj : IsJV w j) {m : Nat} (hm : b1 ≤ m) (hv : ∀ q, v.ownBlock = some q → q < m) (ho : Off (fun q => q < m) j) : LK r s b0 b1 gv gr gd dep E size k arr v n xs (acc ++ [j]) w :=
  ⟨h.rd, h.gl, h.box, h.rb, h.db, h.own, fun y hy => by
    rcases List.mem_append.1 hy with hy | hy
    · exact h.els y hy
    · obtain rfl : y = j := by simpa using hy
      exact ⟨hj, Off.mono (fun q e => e.elim (fun e => Nat.lt_of_lt_of_le e hm) (fun e => hv q e)) ho⟩, h.st⟩
theorem LK.append (h : LK r s b0 b1 gv gr gd dep E size k arr v n xs acc w) {g n' cap : Nat} {xs' : List Value} (ho : w'.ownsRow b1 E size (.slice (some ⟨g, 0, none⟩) n' cap) n' xs') (hg : w.grownBy w' v.ownBlock) (hat : v.ownBlock = some g ∨ g = w.heap.size) :
    LK r s b0 b1 gv gr gd dep E size k arr (.slice (some ⟨g, 0, none⟩) n' cap) n' xs' acc w' ∧ Bes (fun q => v.ownBlock = some q) w w' := by
  obtain ⟨h1, h2, h3, h4, h5, h6, h7, h8, h9, h10⟩ := h.st
  have hb := Bes.grown (X := fun q => v.ownBlock = some q) hg (fun _ e => e)
  have lo : ∀ q, v.ownBlock = some q → b1 ≤ q := fun q e => (own_in h.own e).1
  have hr : r < w.heap.size := h.rd.lt
  have hm : ∀ b, b < b1 → ¬ v.ownBlock = some b := fun b hb e => by have := lo b e; omega
  refine ⟨⟨hb.box h.rd (hm r (by omega)), ?_, hb.box h.box (hm gv h3), hb.box h.rb (hm gr h4), hb.box h.db (hm gd h5), ho, fun y hy => ?_, ⟨h1, h2, h3, h4, h5, h6, h7, h8, h9, Nat.le_trans h10 hb.size⟩⟩, hb⟩
  · exact h.gl.bes hb (fun q hq => hm q (by omega))
  · obtain ⟨a, b⟩ := h.els y hy
    refine ⟨IsJV.bes hb a (Off.mono (fun q e => Or.inr e) b), ?_⟩
    refine Off.mono (fun q e => ?_) (Off.or b (off_heap a))
    rcases e with e | e
    · exact .inl (.inl e)
    · have e2 : g = q := Option.some.inj e
      subst e2
      rcases hat with h | h
      · exact .inl (.inr h)
      · exact .inr (by show w.heap.size ≤ g; omega)
theorem LK.stored (h : LK r s b0 b1 gv gr gd dep E size k arr v n xs acc w) {g : Nat} {xs' : List Value} (hv : v.ownBlock = some g) (ho : w'.ownsRow b1 E size v n xs') (hb : Bes (· = g) w w') : LK r s b0 b1 gv gr gd dep E size k arr v n xs' acc w' := by
  obtain ⟨h1, h2, h3, h4, h5, h6, h7, h8, h9, h10⟩ := h.st
  have lo : b1 ≤ g := (own_in h.own hv).1
  have hm : ∀ b, b < b1 → ¬ b = g := fun b hb => by omega
  refine ⟨hb.box h.rd (hm r (by omega)), h.gl.bes hb (fun q hq => hm q (by omega)), hb.box h.box (hm gv h3), hb.box h.rb (hm gr h4), hb.box h.db (hm gd h5), ho, fun y hy => ?_, ⟨h1, h2, h3, h4, h5, h6, h7, h8, h9, Nat.le_trans h10 hb.size⟩⟩
  obtain ⟨a, b⟩ := h.els y hy
  exact ⟨IsJV.bes hb a (Off.mono (fun q e => Or.inr (by have e2 : q = g := e; rw [e2]; exact hv)) b), b⟩
theorem LK.put (h : LK r s b0 b1 gv gr gd dep E size k arr v n xs acc w) {arr' : Array Value} (hw : Hid (w' = w.setRow gv arr')) : LK r s b0 b1 gv gr gd dep E size k arr' v n xs acc w' ∧ Bes (· = gv) w w' := by
  obtain ⟨h1, h2, h3, h4, h5, h6, h7, h8, h9, h10⟩ := h.st
  have hb := Bes.row (X := fun q => q = gv) hw rfl
  refine ⟨⟨hb.box h.rd (by omega), h.gl.bes hb (fun q hq e => by have e2 : q = gv := e; omega), hid_row hw h.box, hb.box h.rb (fun e => h6 e.symm), hb.box h.db (fun e => h7 e.symm), hb.own h.own (fun q e he => ?_), fun y hy => ?_, ⟨h1, h2, h3, h4, h5, h6, h7, h8, h9, Nat.le_trans h10 hb.size⟩⟩, hb⟩
  · have := (own_in h.own e).1; have he2 : q = gv := he; omega
  · obtain ⟨a, b⟩ := h.els y hy
    exact ⟨IsJV.bes hb a (Off.mono (fun q e => Or.inl (by have e2 : q = gv := e; omega)) b), b⟩
theorem LK.frOwn (h : LK r s b0 b1 gv gr gd dep E size k arr v n xs acc w) {a : World} (hf : Fr b0 r a w) (hb : Bes (fun q => v.ownBlock = some q) w w') : Fr b0 r a w' :=
  hf.trans (Bes.trans hb (Bes.of_below (X := fun _ => False) (Below.refl _ _)) (fun q e => Or.inr (by have := (own_in h.own e).1; have := h.st.2.1; have := h.st.2.2.1; omega)) (fun _ _ e => e.elim))
theorem LK.frG (h : LK r s b0 b1 gv gr gd dep E size k arr v n xs acc w) {a : World} (hf : Fr b0 r a w) {g : Nat} (hg : b0 ≤ g) (hb : Bes (· = g) w w') : Fr b0 r a w' :=
  hf.trans (Bes.trans hb (Bes.of_below (X := fun _ => False) (Below.refl _ _)) (fun q e => Or.inr (by have e2 : q = g := e; omega)) (fun _ _ e => e.elim))
end
/-- A value of kind t whose list lies at u and whose fields lie at f. -/
def KC (t : Int) (u f : Value) : Array Value := #[.int .i64 t, .bool false, .int .i64 0, .string ⟨#[]⟩, u, f]
theorem KC_set4 (t : Int) (u f x : Value) : (KC t u f).setIfInBounds 4 x = KC t x f := rfl
theorem KC_set5 (t : Int) (u f x : Value) : (KC t u f).setIfInBounds 5 x = KC t u x := rfl
theorem info_sl1 : (Tryz.prog.info? 22).map (·.size) = some 1 := by kernel_rfl
theorem info_sl2 : (Tryz.prog.info? 23).map (·.size) = some 1 := by kernel_rfl
theorem info_valueZ : (Tryz.prog.info? 25).map (fun i => (i.zero, i.size, i.bytes)) = some (some (.agg JV.zero.cells), 6, 88) := by kernel_rfl
theorem val_slice0 : ∃ ie z, Tryz.prog.info? 25 = some ie ∧ ie.zero = some z ∧ ie.size = 6 ∧ ie.bytes = 88 ∧ z = .agg JV.zero.cells := by
  have h := info_valueZ
  cases hq : Tryz.prog.info? 25 with
  | none => rw [hq] at h; cases h
  | some ie =>
    rw [hq] at h
    simp only [Option.map_some, Option.some.injEq, Prod.mk.injEq] at h
    exact ⟨ie, _, rfl, h.1, h.2.1, h.2.2, rfl⟩
theorem val_fill : Instr.fill (fun i => some (i * 6, 6)) ((Array.range (1 * 6)).map ((Value.agg JV.zero.cells).cells[· % (Value.agg JV.zero.cells).cells.size]!)) [(0, .agg JV.zero.cells)] = some JV.zero.cells := by kernel_rfl
end Go.Proofs.YtnjhmnolngdfaaaGreatDoor
