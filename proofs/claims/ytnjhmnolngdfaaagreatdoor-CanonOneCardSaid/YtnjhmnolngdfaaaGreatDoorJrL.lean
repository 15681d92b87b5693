/- Layer 2: the names that an object has had, as a map to nothing. -/
import Derived.Test.YtnjhmnolngdfaaaGreatDoorJrK
import Derived.Maps.OwnSet
import Derived.Maps.Views
namespace Go.Proofs.YtnjhmnolngdfaaaGreatDoor
open Go.RowKit Go.PlainAid
set_option linter.unusedVariables false
set_option linter.unusedSimpArgs false

/-- How an empty struct reads. -/
def RS (v : Value) : Option (DataW Unit × List MemPlace) := match v with
  | .agg cs => if cs.size = 0 then some (.lit (.bool true), []) else none
  | _ => none
theorem RS_nil : RS (.agg #[]) = some (.lit (.bool true), []) := rfl
theorem RS_inv {v : Value} {d : DataW Unit × List MemPlace} (h : RS v = some d) : v = .agg #[] := by
  cases v with
  | agg cs =>
    simp only [RS] at h
    split at h
    · rename_i h0
      rw [Array.eq_empty_of_size_eq_zero h0]
    · cases h
  | _ => simp [RS] at h
theorem strKeyed : Maps.Keyed Tryz.prog 9 := Maps.string_keyed Tryz.underlying9
theorem key_str {n : ByteArray} (hn : n.size ≤ reach) : keyOf Tryz.prog 9 (.string n) = some (.string n.toList) := by
  rw [ba_toList]
  exact WideMaps.keyOf_string_mk Tryz.underlying9 (by unfold reach at hn; unfold maxLen; omega)
theorem info_unit : (Tryz.prog.info? 93).map (fun i => (i.zero, i.size)) = some (some (.agg #[]), 0) := by kernel_rfl
theorem zeroU (w : World) : (zeroValue 93).run Tryz.prog w = .ok (.agg #[]) w := (Go.zero_of_info info_unit).1 w
/-- Block m holds just these names. -/
def NSet (w : World) (m n : Nat) (ns : List ByteArray) : Prop := ∃ D : DataW Unit, w.ownsMap Tryz.prog 9 RS m n D ∧ ∀ nm : ByteArray, Maps.has D (.string nm.toList) = hasN ns nm
theorem NSet.lt {w : World} {m n : Nat} {ns : List ByteArray} (h : NSet w m n ns) : m < w.heap.size := by obtain ⟨D, h1, _⟩ := h; exact h1.lt
theorem NSet.new (w : World) : NSet (w.alloc (.map #[] 0)) w.heap.size 0 [] := ⟨.map [], World.ownsMap_made _ _ _ _, fun nm => rfl⟩
theorem NSet.bes {X : Nat → Prop} {w w' : World} {m n : Nat} {ns : List ByteArray} (h : NSet w m n ns) (hb : Bes X w w') (hx : ¬ X m) : NSet w' m n ns := by
  have hl := h.lt
  obtain ⟨D, ⟨es, clock, hbk, F, hs, hD⟩, h2⟩ := h
  exact ⟨D, ⟨es, clock, (hb.block m hl hx).trans hbk, F, hs, hD⟩, h2⟩
theorem NSet.look {w : World} {m n : Nat} {ns : List ByteArray} (h : NSet w m n ns) {nm : ByteArray} (hn : nm.size ≤ reach) : (Instr.lookup 92 (.map (some m)) (.string nm) true).run Tryz.prog w = .ok (.tuple #[.agg #[], .bool (hasN ns nm)]) w := by
  obtain ⟨D, h1, h2⟩ := h
  obtain ⟨v, ps, hrun, hv⟩ := h1.look_ok strKeyed Tryz.underlying92 (zeroU w) RS_nil (key_str hn)
  rw [hrun, RS_inv hv, h2]
theorem NSet.put {w : World} {m n : Nat} {ns : List ByteArray} (h : NSet w m n ns) (hnb : n < maxLen) {nm : ByteArray} (hn : nm.size ≤ reach) : ∃ w', (Instr.mapUpdate 92 (.map (some m)) (.string nm) (.agg #[])).run Tryz.prog w = .ok () w' ∧ NSet w' m (n + 1) (ns ++ [nm]) ∧ Bes (· = m) w w' := by
  obtain ⟨D, h1, h2⟩ := h
  have hM := h1.isMap
  obtain ⟨w', hrun, ho, hg⟩ := h1.update strKeyed Tryz.underlying92 hnb (key_str hn) RS_nil
  refine ⟨w', hrun, ⟨_, ho, fun x => ?_⟩, Bes.grown hg (fun k e => (Option.some.inj e).symm)⟩
  have e1 : hasN (ns ++ [nm]) x = (hasN ns x || (nm.toList == x.toList)) := by unfold hasN; simp
  rw [e1]
  by_cases he : nm.toList = x.toList
  · have h3 := Maps.has_put_same (k := Lit.string nm.toList) hM True.intro (.lit (.bool true))
    rw [he] at h3
    rw [he, h3]
    simp
  · have hne : Lit.string x.toList ≠ Lit.string nm.toList := fun e => he (Lit.string.inj e).symm
    have h3 := Maps.has_put_other (D := D) hne (.lit (.bool true))
    rw [h3, h2]
    have : (nm.toList == x.toList) = false := by simpa using he
    rw [this, Bool.or_false]
theorem wpl_look_n {ops : Array Oper} {rest : List Oper} {o : Oper} {a : Act} {w : World} {Q : Exit → Act → World → Prop} (hgd : o.guard = none) (m x : Operand) (hop : o.op = Op.lookup 92 m x true)
    {mb n : Nat} {ns : List ByteArray} (hN : NSet w mb n ns) (hm : a.eval m = .map (some mb)) (nm : ByteArray) (hx : a.eval x = .string nm) (hn : nm.size ≤ reach)
    (h : wpList Tryz.prog ops Q rest (a.put o.dst (.tuple #[.agg #[], .bool (hasN ns nm)])) w) : wpList Tryz.prog ops Q (o :: rest) a w := by
  refine wpList_plain hgd fun _ hK => ?_
  unfold Oper.wp execOp
  simp only [hop, hm, hx, hN.look hn, Sem.run_bind, Sem.run_pure, Result.andThen_ok]
  exact hK _ _ h
theorem wpl_put_n {ops : Array Oper} {rest : List Oper} {o : Oper} {a : Act} {w : World} {Q : Exit → Act → World → Prop} (hgd : o.guard = none) (m x y : Operand) (hop : o.op = Op.mapUpdate 92 m x y)
    {mb n : Nat} {ns : List ByteArray} (hN : NSet w mb n ns) (hnb : n < maxLen) (hm : a.eval m = .map (some mb)) (nm : ByteArray) (hx : a.eval x = .string nm) (hy : a.eval y = .agg #[]) (hn : nm.size ≤ reach)
    (h : ∀ w', NSet w' mb (n + 1) (ns ++ [nm]) → Bes (· = mb) w w' → wpList Tryz.prog ops Q rest (a.put o.dst undef) w') : wpList Tryz.prog ops Q (o :: rest) a w := by
  obtain ⟨w', hrun, h1, h2⟩ := hN.put hnb hn
  refine wpList_plain hgd fun _ hK => ?_
  unfold Oper.wp execOp
  simp only [hop, hm, hx, hy, hrun, Sem.run_bind, Sem.run_pure, Result.andThen_ok]
  exact hK _ _ (h w' h1 h2)
section
variable {r : Nat} {s : ByteArray} {b0 b1 gv gr gd : Nat} {dep : Int} {E : TypeId} {size k : Nat} {arr : Array Value} {v : Value} {n : Nat} {xs : List Value} {acc : List JV} {w w' : World}
/-- A block of none of these has changed. -/
theorem LK.other (h : LK r s b0 b1 gv gr gd dep E size k arr v n xs acc w) {m : Nat} (hb : Bes (· = m) w w') (hm0 : b0 ≤ m) (hm1 : m < b1) (h1 : m ≠ gv) (h2 : m ≠ gr) (h3 : m ≠ gd) : LK r s b0 b1 gv gr gd dep E size k arr v n xs acc w' := by
  obtain ⟨s1, s2, s3, s4, s5, s6, s7, s8, s9, s10⟩ := h.st
  refine ⟨hb.box h.rd (fun e => by have e2 : r = m := e; omega), h.gl.bes hb (fun q hq e => by have e2 : q = m := e; omega), hb.box h.box (fun e => h1 (by have e2 : gv = m := e; omega)), hb.box h.rb (fun e => h2 (by have e2 : gr = m := e; omega)), hb.box h.db (fun e => h3 (by have e2 : gd = m := e; omega)), hb.own h.own (fun q e he => ?_), fun y hy => ?_, ⟨s1, s2, s3, s4, s5, s6, s7, s8, s9, Nat.le_trans s10 hb.size⟩⟩
  · have := (own_in h.own e).1; have he2 : q = m := he; omega
  · obtain ⟨a, b⟩ := h.els y hy
    exact ⟨IsJV.bes hb a (Off.mono (fun q e => Or.inl (by have e2 : q = m := e; omega)) b), b⟩
end
/-- A text that is read is no more than four times as long as the whole. -/
theorem textL_size {s : ByteArray} : ∀ (n i : Nat) (acc : List UInt8) (t : ByteArray) (k : Nat), acc.length ≤ 4 * i → s.size < i + n → textL s n i acc = .ok t k → t.size ≤ 4 * s.size
  | 0, i, acc, t, k, ha, hn, h => by unfold textL at h; cases h
  | n + 1, i, acc, t, k, ha, hn, h => by
    unfold textL at h
    split at h
    · cases h
    · rename_i h1
      have hi : i < s.size := pk_lt' (by omega)
      split at h
      · injection h with h2 h3
        subst h2
        show acc.toArray.size ≤ _
        simp
        omega
      · split at h
        · split at h
          · cases h
          · rename_i x q hq
            have hg := char_goes x q hq
            have hl := Lib.runeCells_le x
            rw [Lib.runeCells_length] at hl
            exact textL_size n q _ t k (by simp; omega) (by omega) h
        · split at h
          · cases h
          · have hd := dec_bounds s i hi
            have hl := Lib.runeCells_le ((Utf8.decode s i).1 : Int)
            rw [Lib.runeCells_length] at hl
            exact textL_size n _ _ t k (by simp; omega) (by omega) h
theorem text_size {s : ByteArray} {i : Nat} {t : ByteArray} {k : Nat} (h : textTo s i = .ok t k) (hi : i < s.size) : t.size ≤ 4 * s.size := textL_size _ _ [] t k (by simp) (by omega) h
end Go.Proofs.YtnjhmnolngdfaaaGreatDoor
