/- Rows of bytes that a conversion made: their mark stands behind their last cell; appending to them. -/
import Derived.Lib.FrozenHead2
import Derived.Test.YtbehakabglegjaaGreatDoorQ07
import Derived.Test.YtbehakabglegjaaGreatDoorQ08
import Derived.Test.YtbehakabglegjaaGreatDoorQ04
namespace Go.Proofs.YtbehakabglegjaaGreatDoor
open Go.RowKit Go.Lib
set_option linter.unusedVariables false
set_option linter.unusedSimpArgs false
/-- As run_storeCells_atF, the mark standing behind the row. -/
theorem storeCells_mark (P : Program) (g o : Nat) (t : TypeId) (fz : Nat × Nat) : ∀ (vs : List Value) (i : Nat) (cur : Array Value) (w : World), w.heap[g]? = some (.cells cur t fz) → cur.size ≤ fz.1 → o + i + vs.length ≤ cur.size → (∀ v ∈ vs, v.oneCell' = true) →
    (storeCells ⟨g, o, none⟩ vs i).run P w = .ok () (w.setRow g (cur.toList.take (o + i) ++ vs ++ cur.toList.drop (o + i + vs.length)).toArray)
  | [], i, cur, w, hg, _, _, _ => by
    simp only [storeCells, List.append_nil, List.length_nil, Nat.add_zero, List.take_append_drop, Array.toArray_toList]
    rw [setRow_self w g cur t fz hg]
    rfl
  | v :: rest, i, cur, w, hg, hfz, hl, h1 => by
    have hi : o + i < cur.size := by simp at hl; omega
    have hadd : (⟨g, o, none⟩ : Addr).add i = ⟨g, o + i, none⟩ := by unfold Addr.add; split <;> simp_all
    have hcell : w.cell? ⟨g, o + i, none⟩ = some cur[o + i] := by simp [World.cell?, hg, hi]
    have hfro : w.frozen? ⟨g, o + i, none⟩ = false := by
      obtain ⟨lo, hi'⟩ := fz
      simp only [World.frozen?, hg, Bool.and_eq_false_iff, decide_eq_false_iff_not]
      left
      simp only at hfz
      omega
    have hst : (store ((⟨g, o, none⟩ : Addr).add i) v).run P w = .ok () (w.setRow g (cur.setIfInBounds (o + i) v)) := by
      rw [hadd, run_store P w _ v _ (h1 v (by simp)), hcell]
      simp [hfro, setCell_eq_setRow w g (o + i) cur t fz v hg]
    have ih := storeCells_mark P g o t fz rest (i + 1) (cur.setIfInBounds (o + i) v) (w.setRow g (cur.setIfInBounds (o + i) v)) (setRow_heap w g cur _ t _ hg) (by simpa using hfz) (by simp at hl ⊢; omega) (fun x hx => h1 x (by simp [hx]))
    simp only [storeCells, Sem.run_bind, hst, Result.andThen_ok, ih, setRow_setRow]
    congr 3
    have e := list_seg_step cur.toList (o + i) v rest (by simp at hl ⊢; omega)
    simpa [Array.toList_setIfInBounds, Nat.add_assoc] using e
/-- A row of the call's own, of a conversion perhaps. -/
def OwnM (w : World) (base : Nat) (v : Value) (l : List UInt8) : Prop := OwnB w base v l ∨
  ∃ g cap cur fz, v = .slice (some ⟨g, 0, none⟩) l.length cap ∧ base ≤ g ∧ w.heap[g]? = some (.cells cur 5 fz) ∧ cur.size ≤ fz.1 ∧ l.length ≤ cap ∧ cap ≤ maxLen ∧ cur.size = cap ∧ cur.toList.take l.length = Lib.byteCells l
theorem OwnM.lt {w : World} {base : Nat} {v : Value} {l : List UInt8} (h : OwnM w base v l) : ∀ k, v.ownBlock = some k → base ≤ k ∧ k < w.heap.size ∧ ∃ c fz, w.heap[k]? = some (.cells c 5 fz) := fun k hk => by
  rcases h with h | ⟨g, cap, cur, fz, rfl, hb, hg, _⟩
  · refine ⟨(h.lt k hk).1, (h.lt k hk).2, ?_⟩
    rcases h.2 with ⟨rfl, _⟩ | ⟨g2, cap, cur, rfl, _, hg, _⟩
    · cases hk
    · cases hk
      exact ⟨_, _, hg⟩
  · cases hk
    exact ⟨hb, (Array.getElem?_eq_some_iff.1 hg).1, _, _, hg⟩
theorem OwnM.mono {w : World} {base b2 : Nat} {v : Value} {l : List UInt8} (h : OwnM w base v l) (hb : b2 ≤ base) : OwnM w b2 v l := by
  rcases h with h | ⟨g, cap, cur, fz, hv, hbg, hr⟩
  · refine .inl ⟨h.1, ?_⟩
    rcases h.2 with h2 | ⟨g, cap, cur, hv, hbg, hr⟩
    · exact .inl h2
    · exact .inr ⟨g, cap, cur, hv, Nat.le_trans hb hbg, hr⟩
  · exact .inr ⟨g, cap, cur, fz, hv, Nat.le_trans hb hbg, hr⟩
theorem KB.grownM {base : Nat} {w w' : World} {v : Value} {l : List UInt8} (hO : OwnM w base v l) (h : w.grownBy w' v.ownBlock) (hb : base ≤ w.heap.size) : KB base w w' := by
  refine ⟨(Below.refl base w).grown h hb fun k hk => (hO.lt k hk).1, fun g T arr hT hI => ?_⟩
  refine Bes.box (Bes.grown (X := fun q => v.ownBlock = some q) h (fun _ e => e)) hI fun e => ?_
  obtain ⟨_, _, c, fz, hg⟩ := hO.lt g e
  have e3 := hg.symm.trans hI
  injection e3 with e3
  injection e3 with _ e4 _
  exact hT e4.symm
theorem OwnM.slice {w : World} {base : Nat} {v : Value} {l : List UInt8} (h : OwnM w base v l) : ∃ A c, v = .slice A l.length c := by
  rcases h with h | ⟨g, cap, cur, fz, rfl, _⟩
  · rcases h.2 with ⟨rfl, h0⟩ | ⟨g, cap, cur, rfl, _⟩
    · exact ⟨none, 0, by rw [h0]⟩
    · exact ⟨_, _, rfl⟩
  · exact ⟨_, _, rfl⟩
theorem OwnM.below {w w' : World} {base : Nat} {v : Value} {l : List UInt8} (h : OwnM w base v l) (hb : Below w.heap.size w w') : OwnM w' base v l := by
  rcases h with h | ⟨g, cap, cur, fz, rfl, hbg, hg, hr⟩
  · exact .inl (h.below hb)
  · exact .inr ⟨g, cap, cur, fz, rfl, hbg, (hb.block g (Array.getElem?_eq_some_iff.1 hg).1).trans hg, hr⟩
/-- A conversion's row. -/
theorem OwnM.conv (w : World) (s : ByteArray) (hs : s.size ≤ maxLen) : OwnM (Lib.bytesWorld w 5 s) w.heap.size (.slice (some ⟨w.heap.size, 0, none⟩) s.size (grownCap w s.size 0 5)) s.data.toList := by
  have hge := grownCap_ge w s.size 0 5
  have hl : s.data.toList.length = s.size := rfl
  have hsz : (Lib.bytesCells w 5 s).size = grownCap w s.size 0 5 := by
    unfold Lib.bytesCells
    rw [Array.size_append, Array.size_map, Array.size_replicate]
    have : s.data.size = s.size := rfl
    omega
  refine .inr ⟨w.heap.size, _, _, _, rfl, Nat.le_refl _, Lib.bytesWorld_at_new w 5 s, Nat.le_refl _, hge, grownCap_le_maxLen w s.size 0 5 hs, hsz, ?_⟩
  unfold Lib.bytesCells Lib.byteCells
  rw [Array.toList_append, hl]
  have e : (Array.map (fun b : UInt8 => Value.int .u8 b.toNat) s.data).toList.length = s.size := by simp
  rw [← e, List.take_left]
  simp
section
variable {ops : Array Oper} {rest : List Oper} {o : Oper} {a : Act} {w : World} {Q : Exit → Act → World → Prop}
/-- A text's bytes in a row that may grow. -/
theorem wpl_conv_own (hgd : o.guard = none) (x : Operand) (ho : o.op = .convert 9 23 x) (s : ByteArray) (hx : a.eval x = .string s) (hs : s.size ≤ maxLen)
    (hQ : ∀ w' v, OwnM w' w.heap.size v s.data.toList → Below w.heap.size w w' → wpList Tryz.prog ops Q rest (a.put o.dst v) w') : wpList Tryz.prog ops Q (o :: rest) a w :=
  wpList_plain hgd fun _ hK => by
    have e := Lib.run_convert_string_bytes (P := Tryz.prog) w 9 23 5 s Tryz.underlying9 Tryz.underlying23 Tryz.underlying5
    have hr := OwnM.conv w s hs
    have hb : Below w.heap.size w (Lib.bytesWorld w 5 s) := Lib.bytesWorld_below w 5 s
    generalize Lib.bytesWorld w 5 s = w9 at *
    generalize hP : Tryz.prog = P at *
    unfold Oper.wp execOp
    simp only [ho, hx, Sem.run_bind, e, Result.andThen_ok, Sem.run_pure]
    exact hK _ _ (hQ w9 _ hr hb)
theorem run_app_strM (base : Nat) (t u ty : TypeId) (ht : Tryz.prog.underlying t = some (.slice 5)) (hu : Tryz.prog.underlying u = some .string) (v : Value) (l : List UInt8) (h : OwnM w base v l) (s : ByteArray) (hl : l.length + s.size ≤ 140737488355328) (hbase : base ≤ w.heap.size) :
    ∃ v' w', (Builtin.append_ #[t, u] ty #[v, .string s]).run Tryz.prog w = .ok v' w' ∧ OwnM w' base v' (l ++ s.data.toList) ∧ KB base w w' := by
  obtain ⟨ie, h1, h2, h3, h4⟩ := u8_info
  have hsl : s.data.toList.length = s.size := rfl
  rcases id h with hO | ⟨g, cap, cur, fz, rfl, hbg, hg, hfz, hnc, hcm, hcs, htake⟩
  · obtain ⟨v', w', r1, r2, r3, _⟩ := Lib.run_append_own_string (P := Tryz.prog) w base t u ty 5 ie ht hu h1 h2 h3 h4 v l.length (Lib.byteCells l) hO s (by unfold maxLen; omega) hl hbase
    exact ⟨v', w', r1, .inl (by unfold OwnB; rw [List.length_append, Lib.byteCells_append, hsl]; exact r2), KB.grown hO r3 hbase⟩
  · have hxl : (Lib.byteCells l).length = l.length := Lib.byteCells_length l
    by_cases hroom : l.length + s.size ≤ cap
    · have hf := Lib.run_firstCells_string (P := Tryz.prog) w 1 s
      have hst := storeCells_mark Tryz.prog g l.length 5 fz (strCells s) 0 cur w hg hfz (by rw [strCells_length]; omega) (strCells_oneCell s)
      simp only [Nat.add_zero, strCells_length] at hst
      have hr : (Builtin.append_ #[t, u] ty #[.slice (some ⟨g, 0, none⟩) l.length cap, .string s]).run Tryz.prog w = .ok (.slice (some ⟨g, 0, none⟩) (l.length + s.size) cap) (w.setRow g (cur.toList.take l.length ++ strCells s ++ cur.toList.drop (l.length + s.size)).toArray) := by
        simp [Builtin.append_, run_underlying ht, run_underlying hu, sizeOf, typeInfo, h1, h3, Builtin.lenOf, hroom, hf, Addr.add_lit, hst]
      have hgr : w.grownBy (w.setRow g (cur.toList.take l.length ++ strCells s ++ cur.toList.drop (l.length + s.size)).toArray) (Value.slice (some ⟨g, 0, none⟩) l.length cap).ownBlock := ⟨rfl, rfl, rfl, by simp, fun k _ hk => setRow_other w g k _ (fun e => hk (by simp [Value.ownBlock, e]))⟩
      have hsz : (cur.toList.take l.length ++ strCells s ++ cur.toList.drop (l.length + s.size)).toArray.size = cap := by
        simp only [List.size_toArray, List.length_append, List.length_take, List.length_drop, Array.length_toList, strCells_length]
        omega
      refine ⟨_, _, hr, .inr ⟨g, cap, _, fz, by rw [List.length_append, hsl], hbg, setRow_heap w g cur _ 5 _ hg, by rw [hsz]; omega, by rw [List.length_append, hsl]; exact hroom, hcm, hsz, ?_⟩, KB.grownM h hgr hbase⟩
      have e2 : (Lib.byteCells l ++ strCells s).length = (l ++ s.data.toList).length := by rw [List.length_append, List.length_append, hxl, strCells_length, hsl]
      rw [htake, Lib.byteCells_append, ← Lib.strCells_eq, ← e2]
      exact List.take_left
    · have holds : ∀ j u, (Lib.byteCells l)[j]? = some u → w.cell? ((⟨g, 0, none⟩ : Addr).add j) = some u := fun j u hu => by
        have hadd : (⟨g, 0, none⟩ : Addr).add j = ⟨g, j, none⟩ := by unfold Addr.add; split <;> simp_all
        rw [hadd, cell_of_row w g j cur 5 fz hg]
        rw [← htake, List.getElem?_take] at hu
        split at hu
        · simpa using hu
        · cases hu
      have hr := Lib.run_append_grow_string (P := Tryz.prog) w t u ty 5 ie (.int .u8 0) ht hu h1 h2 ⟨g, 0, none⟩ l.length cap (Lib.byteCells l) (by rw [h3]; simpa using hxl) holds s (by omega) (by omega) (by rw [h4]; exact growslice_fits (by omega) (by omega))
      have hge := grownCap_ge w (l.length + s.size) cap 5
      have hcm2 : grownCap w (l.length + s.size) cap 5 ≤ maxLen := grownCap_le_maxLen w (l.length + s.size) cap 5 (by unfold maxLen; omega)
      have hgr : w.grownBy (w.drew.alloc (.cells ((byteCells l).toArray ++ (strCells s).toArray ++ Builtin.zeroCells (Value.int IntKind.u8 0).cells (grownCap w (l.length + s.size) cap 5 - (l.length + s.size))) 5)) (Value.slice (some ⟨g, 0, none⟩) l.length cap).ownBlock := ⟨rfl, rfl, rfl, by simp, fun k hk _ => heap_alloc_old w.drew _ (show k < w.drew.heap.size from hk)⟩
      refine ⟨_, _, hr, .inl ⟨?_, .inr ⟨w.heap.size, grownCap w (l.length + s.size) cap 5, _, ?_, hbase, heap_alloc_new w.drew _, ?_, hcm2, ?_, ?_⟩⟩, KB.grownM h hgr hbase⟩
      · rw [Lib.byteCells_length, Nat.mul_one]
      · rw [List.length_append, hsl]
      · rw [List.length_append, hsl]; exact hge
      · have hz1 : (Value.int IntKind.u8 0).cells.size = 1 := rfl
        simp only [Array.size_append, List.size_toArray, size_zeroCells, hz1, hxl, strCells_length]
        omega
      · have e2 : (Lib.byteCells l ++ strCells s).length = (l ++ s.data.toList).length := by rw [List.length_append, List.length_append, hxl, strCells_length, hsl]
        rw [Array.toList_append, Array.toList_append, Nat.mul_one, ← e2, Lib.byteCells_append, ← Lib.strCells_eq]
        exact List.take_left
theorem run_app_none (t ty : TypeId) (ht : Tryz.prog.underlying t = some (.slice 5)) (A : Option Addr) (n cap c : Nat) (hn : n ≤ cap) : (Builtin.append_ #[t, t] ty #[.slice A n cap, .slice none 0 c]).run Tryz.prog w = .ok (.slice A n cap) w := by
  obtain ⟨ie, h1, h2, h3, h4⟩ := u8_info
  have hf := run_firstCells_none (P := Tryz.prog) w 1 0 0 c
  cases A <;> simp [Builtin.append_, run_underlying ht, sizeOf, typeInfo, h1, h3, Builtin.lenOf, hn, hf, storeCells]
theorem OwnM.cap {w : World} {base : Nat} {A : Option Addr} {n c : Nat} {l : List UInt8} (h : OwnM w base (.slice A n c) l) : n ≤ c := by
  rcases h with h | ⟨g, cap, cur, fz, hv, _, _, _, hn, _⟩
  · rcases h.2 with ⟨hv, h0⟩ | ⟨g, cap, cur, hv, _, _, hn, _⟩
    · injection hv with _ e2 e3
      omega
    · injection hv with _ e2 e3
      omega
  · injection hv with _ e2 e3
    omega
theorem run_app_rowM (base : Nat) (t ty : TypeId) (ht : Tryz.prog.underlying t = some (.slice 5)) (v : Value) (l : List UInt8) (h : OwnM w base v l) (x : Value) (m : List UInt8) (hx : BtAt w x m) (hl : l.length + m.length ≤ 140737488355328) (hbase : base ≤ w.heap.size) :
    ∃ v' w', (Builtin.append_ #[t, t] ty #[v, x]).run Tryz.prog w = .ok v' w' ∧ OwnM w' base v' (l ++ m) ∧ KB base w w' := by
  obtain ⟨ie, h1, h2, h3, h4⟩ := u8_info
  obtain ⟨A, c, rfl, hcells⟩ := hx
  cases A with
  | none =>
    have hm : m = [] := by
      cases m with
      | nil => rfl
      | cons u r =>
        obtain ⟨b, off, e, _⟩ := hcells 0 u rfl
        cases e
    subst hm
    obtain ⟨A, cp, rfl⟩ := h.slice
    exact ⟨_, w, run_app_none t ty ht A l.length cp c h.cap, by rw [List.append_nil]; exact h, KB.refl hbase⟩
  | some ad =>
    have hnews : ∀ (j : Nat) (u : Value), (Lib.byteCells m)[j]? = some u → w.cell? (ad.add j) = some u := fun j u hu => by
      unfold Lib.byteCells at hu
      rw [List.getElem?_map] at hu
      obtain ⟨b, hb, rfl⟩ := Option.map_eq_some_iff.1 hu
      obtain ⟨g, off, e, hc⟩ := hcells j b hb
      obtain rfl : ad = ⟨g, off, none⟩ := Option.some.inj e
      have hadd : (⟨g, off, none⟩ : Addr).add j = ⟨g, off + j, none⟩ := by unfold Addr.add; split <;> simp_all
      rw [hadd]
      exact hc
    have hml : (Lib.byteCells m).length = m.length := Lib.byteCells_length m
    rcases id h with hO | ⟨g, cap, cur, fz, rfl, hbg, hg, hfz, hnc, hcm, hcs, htake⟩
    · obtain ⟨v', w', r1, r2, r3, _⟩ := run_append_own (P := Tryz.prog) w base t ty 5 ie _ 1 1 ht h1 h2 h3 h4 rfl (by decide) v l.length (Lib.byteCells l) hO ad m.length c (Lib.byteCells m) (by omega) hnews (bytes_one m) (by unfold maxLen; omega) (by omega) hbase
      exact ⟨v', w', r1, .inl (by unfold OwnB; rw [List.length_append, Lib.byteCells_append]; exact r2), KB.grown hO r3 hbase⟩
    · have hxl : (Lib.byteCells l).length = l.length := Lib.byteCells_length l
      by_cases hroom : l.length + m.length ≤ cap
      · have hf := run_firstCells_some (P := Tryz.prog) w 1 m.length ad m.length c (Lib.byteCells m) (by omega) hnews
        have hst := storeCells_mark Tryz.prog g l.length 5 fz (Lib.byteCells m) 0 cur w hg hfz (by rw [hml]; omega) (bytes_one m)
        simp only [Nat.add_zero, hml] at hst
        have hr : (Builtin.append_ #[t, t] ty #[.slice (some ⟨g, 0, none⟩) l.length cap, .slice (some ad) m.length c]).run Tryz.prog w = .ok (.slice (some ⟨g, 0, none⟩) (l.length + m.length) cap) (w.setRow g (cur.toList.take l.length ++ Lib.byteCells m ++ cur.toList.drop (l.length + m.length)).toArray) := by
          simp [Builtin.append_, run_underlying ht, sizeOf, typeInfo, h1, h3, Builtin.lenOf, hroom, hf, Addr.add_lit, hst]
        have hgr : w.grownBy (w.setRow g (cur.toList.take l.length ++ Lib.byteCells m ++ cur.toList.drop (l.length + m.length)).toArray) (Value.slice (some ⟨g, 0, none⟩) l.length cap).ownBlock := ⟨rfl, rfl, rfl, by simp, fun k _ hk => setRow_other w g k _ (fun e => hk (by simp [Value.ownBlock, e]))⟩
        have hsz : (cur.toList.take l.length ++ Lib.byteCells m ++ cur.toList.drop (l.length + m.length)).toArray.size = cap := by
          simp only [List.size_toArray, List.length_append, List.length_take, List.length_drop, Array.length_toList, hml]
          omega
        refine ⟨_, _, hr, .inr ⟨g, cap, _, fz, by rw [List.length_append], hbg, setRow_heap w g cur _ 5 _ hg, by rw [hsz]; omega, by rw [List.length_append]; exact hroom, hcm, hsz, ?_⟩, KB.grownM h hgr hbase⟩
        have e2 : (Lib.byteCells l ++ Lib.byteCells m).length = (l ++ m).length := by rw [List.length_append, List.length_append, hxl, hml]
        rw [htake, Lib.byteCells_append, ← e2]
        exact List.take_left
      · have holds : ∀ j u, (Lib.byteCells l)[j]? = some u → w.cell? ((⟨g, 0, none⟩ : Addr).add j) = some u := fun j u hu => by
          have hadd : (⟨g, 0, none⟩ : Addr).add j = ⟨g, j, none⟩ := by unfold Addr.add; split <;> simp_all
          rw [hadd, cell_of_row w g j cur 5 fz hg]
          rw [← htake, List.getElem?_take] at hu
          split at hu
          · simpa using hu
          · cases hu
        have hr := run_append_grow (P := Tryz.prog) w t ty 5 ie (.int .u8 0) ht h1 h2 ⟨g, 0, none⟩ l.length cap (Lib.byteCells l) (by rw [h3]; simpa using hxl) holds ad m.length c (Lib.byteCells m) (by rw [h3]; omega) hnews (by omega) (by omega) (by rw [h4]; exact growslice_fits (by omega) (by omega))
        have hge := grownCap_ge w (l.length + m.length) cap 5
        have hcm2 : grownCap w (l.length + m.length) cap 5 ≤ maxLen := grownCap_le_maxLen w (l.length + m.length) cap 5 (by unfold maxLen; omega)
        have hgr : w.grownBy (w.drew.alloc (.cells ((byteCells l).toArray ++ (byteCells m).toArray ++ Builtin.zeroCells (Value.int IntKind.u8 0).cells (grownCap w (l.length + m.length) cap 5 - (l.length + m.length))) 5)) (Value.slice (some ⟨g, 0, none⟩) l.length cap).ownBlock := ⟨rfl, rfl, rfl, by simp, fun k hk _ => heap_alloc_old w.drew _ (show k < w.drew.heap.size from hk)⟩
        refine ⟨_, _, hr, .inl ⟨?_, .inr ⟨w.heap.size, grownCap w (l.length + m.length) cap 5, _, ?_, hbase, heap_alloc_new w.drew _, ?_, hcm2, ?_, ?_⟩⟩, KB.grownM h hgr hbase⟩
        · rw [Lib.byteCells_length, Nat.mul_one]
        · rw [List.length_append]
        · rw [List.length_append]; exact hge
        · have hz1 : (Value.int IntKind.u8 0).cells.size = 1 := rfl
          simp only [Array.size_append, List.size_toArray, size_zeroCells, hz1, hxl, hml]
          omega
        · have e2 : (Lib.byteCells l ++ Lib.byteCells m).length = (l ++ m).length := by rw [List.length_append, List.length_append, hxl, hml]
          rw [Array.toList_append, Array.toList_append, Nat.mul_one, ← e2, Lib.byteCells_append]
          exact List.take_left
/-- The operations, for the walk. -/
theorem wpl_app_strM (hgd : o.guard = none) (s x : Operand) (t u : TypeId) (ho : o.op = .call { callee := .builtin .append, args := #[s, x], argTypes := #[t, u] }) (ht : Tryz.prog.underlying t = some (.slice 5)) (hu : Tryz.prog.underlying u = some .string) {base : Nat} {v : Value} {l : List UInt8} (hs : a.eval s = v) (h : OwnM w base v l) (x0 : ByteArray) (hx : a.eval x = .string x0) (hl : l.length + x0.size ≤ 140737488355328) (hbase : base ≤ w.heap.size)
    (hQ : ∀ v' w', OwnM w' base v' (l ++ x0.data.toList) → KB base w w' → wpList Tryz.prog ops Q rest (a.put o.dst v') w') : wpList Tryz.prog ops Q (o :: rest) a w :=
  wpList_plain hgd fun _ hK => by
    obtain ⟨v', w', hr, h2, h3⟩ := run_app_strM base t u o.type ht hu v l h x0 hl hbase
    have hq := hQ v' w' h2 h3
    generalize hP : Tryz.prog = P at *
    unfold Oper.wp execOp
    simp only [ho, resolve, invoke, builtin, Sem.run_bind, Sem.run_pure, Result.andThen_ok, List.map_toArray, List.map_cons, List.map_nil, hs, hx, hr]
    exact hK _ _ hq
theorem wpl_app_rowM (hgd : o.guard = none) (s x : Operand) (t : TypeId) (ho : o.op = .call { callee := .builtin .append, args := #[s, x], argTypes := #[t, t] }) (ht : Tryz.prog.underlying t = some (.slice 5)) {base : Nat} {v : Value} {l : List UInt8} (hs : a.eval s = v) (h : OwnM w base v l) {x0 : Value} {m : List UInt8} (hx : a.eval x = x0) (hb : BtAt w x0 m) (hl : l.length + m.length ≤ 140737488355328) (hbase : base ≤ w.heap.size)
    (hQ : ∀ v' w', OwnM w' base v' (l ++ m) → KB base w w' → wpList Tryz.prog ops Q rest (a.put o.dst v') w') : wpList Tryz.prog ops Q (o :: rest) a w :=
  wpList_plain hgd fun _ hK => by
    obtain ⟨v', w', hr, h2, h3⟩ := run_app_rowM base t o.type ht v l h x0 m hb hl hbase
    have hq := hQ v' w' h2 h3
    generalize hP : Tryz.prog = P at *
    unfold Oper.wp execOp
    simp only [ho, resolve, invoke, builtin, Sem.run_bind, Sem.run_pure, Result.andThen_ok, List.map_toArray, List.map_cons, List.map_nil, hs, hx, hr]
    exact hK _ _ hq
end
end Go.Proofs.YtbehakabglegjaaGreatDoor
