/- Rows of values and of fields that the call itself lays: from ownsRow to a value of JSON; what a value's memory has nothing to do with (Off). -/
import Derived.Test.YtnjhmnolngdfaaaGreatDoorBesL
namespace Go.Proofs.YtnjhmnolngdfaaaGreatDoor
open Go.RowKit
set_option linter.unusedVariables false
set_option linter.unusedSimpArgs false

theorem mi0 : I64 0 := by unfold I64; decide
theorem mi5 : I64 5 := by unfold I64; decide
theorem mi4 : I64 4 := by unfold I64; decide
theorem mz80 : 0 * 80 ≤ reach := by decide
theorem mze : (⟨#[]⟩ : ByteArray).size ≤ reach := by decide
def fldA (p : ByteArray × JV) : Array Value := #[.string p.1, .int .i64 p.2.v.kind, .bool p.2.v.b, .int .i64 p.2.v.i, .string p.2.v.t, .slice p.2.v.LA p.2.v.Ln p.2.v.Lc, .slice p.2.v.FA p.2.v.Fn p.2.v.Fc]
def fldL (L : List (ByteArray × JV)) : List Value := L.flatMap fun p => (fldA p).toList
theorem fldL_app (L M : List (ByteArray × JV)) : fldL (L ++ M) = fldL L ++ fldL M := by unfold fldL; exact List.flatMap_append
theorem fldL_one (p : ByteArray × JV) : fldL [p] = (fldA p).toList := by unfold fldL; simp
theorem fldL_get : ∀ {L : List (ByteArray × JV)} {j : Nat} {p : ByteArray × JV}, L[j]? = some p → ∀ (i : Nat) (v : Value), (fldA p).toList[i]? = some v → (fldL L)[j * 7 + i]? = some v
  | [], j, p, h => by simp at h
  | q :: r, 0, p, h => by
    intro i v hv
    have : q = p := by simpa using h
    subst this
    unfold fldL
    rw [List.flatMap_cons, Nat.zero_mul, Nat.zero_add, List.getElem?_append_left (List.getElem?_eq_some_iff.1 hv).1]
    exact hv
  | q :: r, j + 1, p, h => by
    intro i v hv
    have h' : r[j]? = some p := by simpa using h
    have := fldL_get h' i v hv
    unfold fldL at *
    rw [List.flatMap_cons, List.getElem?_append_right (by simp [fldA]; omega)]
    rw [show (j + 1) * 7 + i - (fldA q).toList.length = j * 7 + i from by simp [fldA]; omega]
    exact this
theorem namesAt_of {w : World} {A : Option Addr} {step : Nat} : ∀ (l : List ByteArray) (k : Nat), (∀ i n, l[i]? = some n → (∃ b off, A = some ⟨b, off, none⟩ ∧ w.cell? ⟨b, off + (k + i) * step, none⟩ = some (.string n)) ∧ n.size ≤ reach) → NamesAt w A step k l
  | [], k, h => by unfold NamesAt; exact True.intro
  | x :: r, k, h => by
    unfold NamesAt
    have h0 := h 0 x rfl
    exact ⟨h0.1, h0.2, namesAt_of r (k + 1) (fun i j hj => by
      have := h (i + 1) j (by simpa using hj)
      rwa [show k + (i + 1) = k + 1 + i from by omega] at this)⟩
theorem isRow_of {w : World} {A : Option Addr} {step shift : Nat} : ∀ (l : List JV) (k : Nat), (∀ i j, l[i]? = some j → (∃ b off, A = some ⟨b, off, none⟩ ∧ w.rangeAt b (off + (k + i) * step + shift) j.cells.toList) ∧ IsJV w j) → IsRow w A step shift k l
  | [], k, h => by unfold IsRow; exact True.intro
  | x :: r, k, h => by
    unfold IsRow
    have h0 := h 0 x rfl
    exact ⟨h0.1, h0.2, isRow_of r (k + 1) (fun i j hj => by
      have := h (i + 1) j (by simpa using hj)
      rwa [show k + (i + 1) = k + 1 + i from by omega] at this)⟩
/-- An object of these fields, whose row lies at A. -/
def objJ (A : Option Addr) (c : Nat) (L : List (ByteArray × JV)) : JV := .mk ⟨5, false, 0, ⟨#[]⟩, none, 0, 0, A, L.length, c⟩ [] (L.map (·.1)) (L.map (·.2))
theorem objJ_cells (A : Option Addr) (c : Nat) (L : List (ByteArray × JV)) : (objJ A c L).cells = #[.int .i64 5, .bool false, .int .i64 0, .string ⟨#[]⟩, .slice none 0 0, .slice A L.length c] := rfl
theorem own_obj {w : World} {base : Nat} {e : TypeId} {v : Value} {L : List (ByteArray × JV)} {n : Nat} (h : w.ownsRow base e 7 v n (fldL L)) (hn : n = L.length) (hs : ∀ p ∈ L, p.1.size ≤ reach ∧ IsJV w p.2) (hb : L.length * 96 ≤ reach) :
    ∃ A c, v = .slice A L.length c ∧ IsJV w (objJ A c L) := by
  subst hn
  have fin : ∀ A c, (∀ j p, L[j]? = some p → ∃ b off, A = some ⟨b, off, none⟩ ∧ w.rangeAt b (off + j * 7) (fldA p).toList) → IsJV w (objJ A c L) := fun A c hr => by
    unfold objJ IsJV
    refine ⟨⟨mi5, mi0, mze, rfl, by simp, by simp, mz80, hb, ?_⟩, ?_, ?_⟩
    · refine namesAt_of _ 0 fun i nm hi => ?_
      rw [List.getElem?_map] at hi
      obtain ⟨p, hp, rfl⟩ := Option.map_eq_some_iff.1 hi
      obtain ⟨b, off, hA, hc⟩ := hr i p hp
      refine ⟨⟨b, off, hA, ?_⟩, (hs p (List.mem_of_getElem? hp)).1⟩
      rw [Nat.zero_add]
      simpa using hc 0 _ rfl
    · unfold IsRow; exact True.intro
    · refine isRow_of _ 0 fun i j hi => ?_
      rw [List.getElem?_map] at hi
      obtain ⟨p, hp, rfl⟩ := Option.map_eq_some_iff.1 hi
      obtain ⟨b, off, hA, hc⟩ := hr i p hp
      refine ⟨⟨b, off, hA, fun k u hu => ?_⟩, (hs p (List.mem_of_getElem? hp)).2⟩
      rw [Nat.zero_add]
      have h7 : (fldA p).toList[k + 1]? = some u := by
        have e1 : (fldA p).toList = .string p.1 :: p.2.cells.toList := rfl
        rw [e1, List.getElem?_cons_succ]
        exact hu
      have := hc (k + 1) u h7
      rwa [show off + i * 7 + (k + 1) = off + i * 7 + 1 + k from by omega] at this
  rcases h.2 with ⟨rfl, h0⟩ | ⟨g, cap, cur, rfl, _, hg, _, _, _, htake⟩
  · have hL : L = [] := List.eq_nil_of_length_eq_zero h0
    exact ⟨none, 0, by rw [h0], fin none 0 (fun j p hj => by rw [hL] at hj; simp at hj)⟩
  · refine ⟨some ⟨g, 0, none⟩, cap, rfl, fin _ _ (fun j p hj => ⟨g, 0, rfl, fun i u hu => ?_⟩)⟩
    have e1 := fldL_get hj i u hu
    have hI : IBox w g e cur := hg
    rw [← htake, List.getElem?_take] at e1
    rw [show 0 + j * 7 + i = j * 7 + i from by omega, hI.cell]
    split at e1
    · simpa using e1
    · cases e1
/-- The tree of an object of these fields. -/
theorem erL_map : ∀ (L : List JV), erL L = L.map er
  | [] => by unfold erL; rfl
  | x :: r => by unfold erL; rw [erL_map r]; rfl
theorem er_obj (A : Option Addr) (c : Nat) (L : List (ByteArray × JV)) : er (objJ A c L) = .mk 5 false 0 ⟨#[]⟩ [] (L.map (·.1)) (L.map fun p => er p.2) := by
  show JT.mk 5 false 0 ⟨#[]⟩ (erL []) (L.map (·.1)) (erL (L.map (·.2))) = _
  rw [erL_map, erL_map, List.map_map]
  rfl
theorem info_field : (Tryz.prog.info? 52).map (fun i => (i.zero, i.size, i.bytes)) = some (some (.agg (fldA (⟨#[]⟩, JV.zero))), 7, 104) := by kernel_rfl
theorem info_field7 : (Tryz.prog.info? 52).map (·.size) = some 7 := by kernel_rfl
theorem box_range {w : World} {g : Nat} {t : TypeId} {arr : Array Value} (h : IBox w g t arr) : w.rangeAt g 0 arr.toList := fun j v hv => by rw [Nat.zero_add, h.cell]; simpa using hv
theorem own_mono {w : World} {base base' : Nat} {e : TypeId} {size : Nat} {v : Value} {n : Nat} {xs : List Value} (h : w.ownsRow base e size v n xs) (hb : base' ≤ base) : w.ownsRow base' e size v n xs := by
  refine ⟨h.1, ?_⟩
  rcases h.2 with h0 | ⟨g, cap, cur, hv, hg, rest⟩
  · exact .inl h0
  · exact .inr ⟨g, cap, cur, hv, Nat.le_trans hb hg, rest⟩
theorem range_bes {X : Nat → Prop} {w w' : World} (h : Bes X w w') {b off : Nat} {cs : List Value} (hr : w.rangeAt b off cs) (hb : b < w.heap.size ∧ ¬ X b) : w'.rangeAt b off cs := fun j v hv => by
  rw [World.cell?_of_block (h.block b hb.1 hb.2)]
  exact hr j v hv
variable {P : Program} {o : Oper} {a : Act} {ops : Array Oper}
theorem fld_build (nm : ByteArray) (x : JV) (w : World) : (Instr.build 52 #[(0, .string nm), (1, .agg x.cells)]).run Tryz.prog w = .ok (.agg (fldA (nm, x))) w := by kernel_rfl
theorem yields_build {S : World → Prop} {t : TypeId} {vals : List (Nat × Value)} {cells : Array Value} (hw : Region.wanted o (yielded ops a.tmps) = true) (hrun : ∀ w, (Instr.build t vals.toArray).run P w = .ok (.agg cells) w) (parts : Array (Nat × Operand)) (ho : o.op = .build t parts)
    (hv : parts.toList.map (fun x => (x.1, a.eval x.2)) = vals) : YieldsIf P ops S o (.agg cells) a :=
  .inl ⟨hw, fun w _ => by
    unfold execOp
    simp only [ho, parts_vals parts vals hv, Sem.run_bind, hrun, Result.andThen_ok, Sem.run_pure]⟩
theorem fld_one (p : ByteArray × JV) : (fldA p).all (·.oneCell') = true := by simp [fldA, Value.oneCell']
theorem fld_size (p : ByteArray × JV) : (fldA p).size = 7 := rfl
theorem fldL_len : ∀ L : List (ByteArray × JV), (fldL L).length = L.length * 7
  | [] => rfl
  | p :: r => by
    have h : fldL (p :: r) = (fldA p).toList ++ fldL r := rfl
    rw [h, List.length_append, fldL_len r, List.length_cons, Nat.add_mul, Array.length_toList, fld_size]; omega
theorem fld_slice0 : ∃ ie z, Tryz.prog.info? 52 = some ie ∧ ie.zero = some z ∧ ie.size = 7 ∧ ie.bytes = 104 ∧ z = .agg (fldA (⟨#[]⟩, JV.zero)) := by
  have h := info_field
  cases hq : Tryz.prog.info? 52 with
  | none => rw [hq] at h; cases h
  | some ie =>
    rw [hq] at h
    simp only [Option.map_some, Option.some.injEq, Prod.mk.injEq] at h
    exact ⟨ie, _, rfl, h.1, h.2.1, h.2.2, rfl⟩
theorem fld_fill (p : ByteArray × JV) : Instr.fill (fun i => some (i * 7, 7)) ((Array.range (1 * 7)).map ((Value.agg (fldA (⟨#[]⟩, JV.zero))).cells[· % (Value.agg (fldA (⟨#[]⟩, JV.zero))).cells.size]!)) [(0, .agg (fldA p))] = some (fldA p) := by kernel_rfl
mutual
/-- No row of the value lies in a block of X. -/
def Off (X : Nat → Prop) : JV → Prop
  | .mk v l ns vs => (l ≠ [] → ∀ a, v.LA = some a → ¬ X a.block) ∧ (vs ≠ [] → ∀ a, v.FA = some a → ¬ X a.block) ∧ OffL X l ∧ OffL X vs
def OffL (X : Nat → Prop) : List JV → Prop
  | [] => True
  | x :: r => Off X x ∧ OffL X r
end
mutual
theorem Off.mono {X Y : Nat → Prop} (h : ∀ k, Y k → X k) : ∀ {j : JV}, Off X j → Off Y j
  | .mk v l ns vs, o => by
    unfold Off at o ⊢
    exact ⟨fun hl a ha hy => o.1 hl a ha (h _ hy), fun hl a ha hy => o.2.1 hl a ha (h _ hy), OffL.mono h o.2.2.1, OffL.mono h o.2.2.2⟩
theorem OffL.mono {X Y : Nat → Prop} (h : ∀ k, Y k → X k) : ∀ {l : List JV}, OffL X l → OffL Y l
  | [], _ => by unfold OffL; exact True.intro
  | x :: r, o => by unfold OffL at o ⊢; exact ⟨Off.mono h o.1, OffL.mono h o.2⟩
end
mutual
theorem Off.or {X Y : Nat → Prop} : ∀ {j : JV}, Off X j → Off Y j → Off (fun k => X k ∨ Y k) j
  | .mk v l ns vs, o, q => by
    unfold Off at o q ⊢
    exact ⟨fun hl a ha hy => hy.elim (o.1 hl a ha) (q.1 hl a ha), fun hl a ha hy => hy.elim (o.2.1 hl a ha) (q.2.1 hl a ha), OffL.or o.2.2.1 q.2.2.1, OffL.or o.2.2.2 q.2.2.2⟩
theorem OffL.or {X Y : Nat → Prop} : ∀ {l : List JV}, OffL X l → OffL Y l → OffL (fun k => X k ∨ Y k) l
  | [], _, _ => by unfold OffL; exact True.intro
  | x :: r, o, q => by unfold OffL at o q ⊢; exact ⟨Off.or o.1 q.1, OffL.or o.2 q.2⟩
end
theorem offL_of {X : Nat → Prop} : ∀ {l : List JV}, (∀ x ∈ l, Off X x) → OffL X l
  | [], _ => by unfold OffL; exact True.intro
  | x :: r, h => by unfold OffL; exact ⟨h x (by simp), offL_of fun y hy => h y (by simp [hy])⟩
theorem range_lt {w : World} {b off : Nat} {x : JV} (h : w.rangeAt b off x.cells.toList) : b < w.heap.size := by
  have := h 0 (.int .i64 x.v.kind) rfl
  exact World.block_lt_of_cell? w _ this
mutual
theorem off_heap {w : World} : ∀ {j : JV}, IsJV w j → Off (fun k => w.heap.size ≤ k) j
  | .mk v l ns vs, h => by
    unfold IsJV at h
    unfold Off
    refine ⟨fun hl a ha hk => ?_, fun hl a ha hk => ?_, off_heapL h.2.1, off_heapL h.2.2⟩
    · cases l with
      | nil => exact hl rfl
      | cons x r =>
        have h1 := h.2.1
        unfold IsRow at h1
        obtain ⟨⟨b, off, e, hr⟩, _⟩ := h1
        have h2 := range_lt hr
        rw [ha] at e
        have := Option.some.inj e
        subst this
        have h3 : w.heap.size ≤ b := hk
        omega
    · cases vs with
      | nil => exact hl rfl
      | cons x r =>
        have h1 := h.2.2
        unfold IsRow at h1
        obtain ⟨⟨b, off, e, hr⟩, _⟩ := h1
        have h2 := range_lt hr
        rw [ha] at e
        have := Option.some.inj e
        subst this
        have h3 : w.heap.size ≤ b := hk
        omega
theorem off_heapL {w : World} {A : Option Addr} {step shift : Nat} : ∀ {l : List JV} {k : Nat}, IsRow w A step shift k l → OffL (fun k => w.heap.size ≤ k) l
  | [], _, _ => by unfold OffL; exact True.intro
  | x :: r, k, h => by unfold IsRow at h; unfold OffL; exact ⟨off_heap h.2.1, off_heapL h.2.2⟩
end
theorem NamesAt.bes {X : Nat → Prop} {w w' : World} (hb : Bes X w w') {A : Option Addr} {step : Nat} : ∀ {l : List ByteArray} {k : Nat}, (l ≠ [] → ∀ a, A = some a → ¬ X a.block) → NamesAt w A step k l → NamesAt w' A step k l
  | [], _, _, h => by unfold NamesAt; exact True.intro
  | x :: r, k, ho, h => by
    unfold NamesAt at h ⊢
    obtain ⟨⟨b, off, e, hc⟩, h2, h3⟩ := h
    have hn := ho (by simp) _ e
    exact ⟨⟨b, off, e, (World.cell?_of_block (hb.block b (World.block_lt_of_cell? w _ hc) hn)).trans hc⟩, h2, NamesAt.bes hb (fun _ a ha => ho (by simp) a ha) h3⟩
mutual
theorem IsJV.bes {X : Nat → Prop} {w w' : World} (hb : Bes X w w') : ∀ {j : JV}, IsJV w j → Off X j → IsJV w' j
  | .mk v l ns vs, h, o => by
    unfold IsJV at h ⊢
    unfold Off at o
    refine ⟨⟨h.1.1, h.1.2.1, h.1.2.2.1, h.1.2.2.2.1, h.1.2.2.2.2.1, h.1.2.2.2.2.2.1, h.1.2.2.2.2.2.2.1, h.1.2.2.2.2.2.2.2.1, NamesAt.bes hb (fun hn => ?_) h.1.2.2.2.2.2.2.2.2⟩, IsRow.bes hb o.1 h.2.1 o.2.2.1, IsRow.bes hb o.2.1 h.2.2 o.2.2.2⟩
    refine o.2.1 fun hv => hn ?_
    have := h.1.2.2.2.2.2.1
    rw [hv] at this
    exact List.eq_nil_of_length_eq_zero this
theorem IsRow.bes {X : Nat → Prop} {w w' : World} (hb : Bes X w w') {A : Option Addr} {step shift : Nat} : ∀ {l : List JV} {k : Nat}, (l ≠ [] → ∀ a, A = some a → ¬ X a.block) → IsRow w A step shift k l → OffL X l → IsRow w' A step shift k l
  | [], _, _, h, _ => by unfold IsRow; exact True.intro
  | x :: r, k, ho, h, o => by
    unfold IsRow at h ⊢
    unfold OffL at o
    obtain ⟨⟨b, off, e, hr⟩, h2, h3⟩ := h
    exact ⟨⟨b, off, e, range_bes hb hr ⟨range_lt hr, ho (by simp) _ e⟩⟩, IsJV.bes hb h2 o.1, IsRow.bes hb (fun _ a ha => ho (by simp) a ha) h3 o.2⟩
end
/-- The cells of some values, one behind the other. -/
def valL (l : List JV) : List Value := l.flatMap fun x => x.cells.toList
theorem valL_app (l m : List JV) : valL (l ++ m) = valL l ++ valL m := by unfold valL; exact List.flatMap_append
theorem valL_one (x : JV) : valL [x] = x.cells.toList := by unfold valL; simp
theorem valL_get : ∀ {l : List JV} {j : Nat} {x : JV}, l[j]? = some x → ∀ (i : Nat) (v : Value), x.cells.toList[i]? = some v → (valL l)[j * 6 + i]? = some v
  | [], j, x, h => by simp at h
  | q :: r, 0, x, h => by
    intro i v hv
    have : q = x := by simpa using h
    subst this
    unfold valL
    rw [List.flatMap_cons, Nat.zero_mul, Nat.zero_add, List.getElem?_append_left (List.getElem?_eq_some_iff.1 hv).1]
    exact hv
  | q :: r, j + 1, x, h => by
    intro i v hv
    have h' : r[j]? = some x := by simpa using h
    have := valL_get h' i v hv
    unfold valL at *
    have h6 : q.cells.toList.length = 6 := rfl
    rw [List.flatMap_cons, List.getElem?_append_right (by rw [h6]; omega)]
    rw [show (j + 1) * 6 + i - q.cells.toList.length = j * 6 + i from by rw [h6]; omega]
    exact this
/-- A list of these values, whose row lies at A. -/
def listJ (A : Option Addr) (c : Nat) (l : List JV) : JV := .mk ⟨4, false, 0, ⟨#[]⟩, A, l.length, c, none, 0, 0⟩ l [] []
theorem listJ_cells (A : Option Addr) (c : Nat) (l : List JV) : (listJ A c l).cells = #[.int .i64 4, .bool false, .int .i64 0, .string ⟨#[]⟩, .slice A l.length c, .slice none 0 0] := rfl
theorem er_list (A : Option Addr) (c : Nat) (l : List JV) : er (listJ A c l) = .mk 4 false 0 ⟨#[]⟩ (l.map er) [] [] := by
  show JT.mk 4 false 0 ⟨#[]⟩ (erL l) [] (erL []) = _
  rw [erL_map]
  rfl
theorem own_vals {w : World} {base : Nat} {e : TypeId} {v : Value} {l : List JV} {n : Nat} (h : w.ownsRow base e 6 v n (valL l)) (hn : n = l.length) (hs : ∀ x ∈ l, IsJV w x) (hb : l.length * 80 ≤ reach) :
    ∃ A c, v = .slice A l.length c ∧ IsJV w (listJ A c l) ∧ (∀ a, A = some a → base ≤ a.block) := by
  subst hn
  have fin : ∀ A c, (∀ j x, l[j]? = some x → ∃ b off, A = some ⟨b, off, none⟩ ∧ w.rangeAt b (off + j * 6) x.cells.toList) → IsJV w (listJ A c l) := fun A c hr => by
    unfold listJ IsJV
    refine ⟨⟨mi4, mi0, mze, rfl, rfl, rfl, hb, (by decide : 0 * 96 ≤ reach), ?_⟩, ?_, ?_⟩
    · unfold NamesAt; exact True.intro
    · refine isRow_of _ 0 fun i x hi => ?_
      obtain ⟨b, off, hA, hc⟩ := hr i x hi
      refine ⟨⟨b, off, hA, fun k u hu => ?_⟩, hs x (List.mem_of_getElem? hi)⟩
      rw [Nat.zero_add, Nat.add_zero]
      exact hc k u hu
    · unfold IsRow; exact True.intro
  rcases h.2 with ⟨rfl, h0⟩ | ⟨g, cap, cur, rfl, hbg, hg, _, _, _, htake⟩
  · have hL : l = [] := List.eq_nil_of_length_eq_zero h0
    exact ⟨none, 0, by rw [h0], fin none 0 (fun j p hj => by rw [hL] at hj; simp at hj), fun a ha => nomatch ha⟩
  · refine ⟨some ⟨g, 0, none⟩, cap, rfl, fin _ _ (fun j p hj => ⟨g, 0, rfl, fun i u hu => ?_⟩), fun a ha => ?_⟩
    · have e1 := valL_get hj i u hu
      have hI : IBox w g e cur := hg
      rw [← htake, List.getElem?_take] at e1
      rw [show 0 + j * 6 + i = j * 6 + i from by omega, hI.cell]
      split at e1
      · simpa using e1
      · cases e1
    · have := Option.some.inj ha
      subst this
      exact hbg
theorem own_at {w : World} {base : Nat} {e : TypeId} {size : Nat} {A : Option Addr} {n m c : Nat} {xs : List Value} (h : w.ownsRow base e size (.slice A m c) n xs) : ∀ a, A = some a → base ≤ a.block := fun a ha => by
  rcases h.2 with ⟨hv, _⟩ | ⟨g, cap, cur, hv, hbg, _⟩
  · injection hv with h1; rw [h1] at ha; cases ha
  · injection hv with h1
    rw [h1] at ha
    have := Option.some.inj ha
    subst this
    exact hbg
end Go.Proofs.YtnjhmnolngdfaaaGreatDoor
