/- Rows of bytes of its own that may begin within their block: what is behind a cut; appending to them. Layer 9: a feed under changes elsewhere; messages put one behind the other; a fault's text. -/
import Derived.Deep.AppendSrc
import Derived.Deep.Upon
import Derived.Test.YtbehakabglegjaaGreatDoorQ05
import Derived.Test.YtbehakabglegjaaGreatDoorQ09
import Derived.Test.YtbehakabglegjaaGreatDoorQ37
import Derived.Test.YtbehakabglegjaaGreatDoorQ30
import Derived.Test.YtbehakabglegjaaGreatDoorQ25
namespace Go.Proofs.YtbehakabglegjaaGreatDoor
open Go.RowKit
set_option linter.unusedVariables false
set_option linter.unusedSimpArgs false
def OwnO (w : World) (base : Nat) (v : Value) (l : List UInt8) : Prop := (v = .slice none 0 0 ∧ l = []) ∨ ∃ g off cap cur, v = .slice (some ⟨g, off, none⟩) l.length cap ∧ base ≤ g ∧ IBox w g 5 cur ∧ l.length ≤ cap ∧ cap ≤ maxLen ∧ off + cap ≤ cur.size ∧ (cur.toList.drop off).take l.length = Lib.byteCells l
section
variable {w w' : World} {base : Nat} {v u : Value} {l m : List UInt8}
theorem OwnO.nil (w : World) (base : Nat) : OwnO w base (.slice none 0 0) [] := .inl ⟨rfl, rfl⟩
theorem OwnO.lt (h : OwnO w base v l) : ∀ q, v.ownBlock = some q → base ≤ q ∧ q < w.heap.size := fun q e => by
  rcases h with ⟨rfl, _⟩ | ⟨g, off, cap, cur, rfl, hb, hI, _⟩
  · cases e
  · cases e
    exact ⟨hb, IBox.lt hI⟩
theorem OwnO.ty (h : OwnO w base v l) : TyB w v 5 := fun q e => by
  rcases h with ⟨rfl, _⟩ | ⟨g, off, cap, cur, rfl, hb, hI, _⟩
  · cases e
  · cases e
    exact ⟨_, _, hI⟩
theorem OwnO.bes {X : Nat → Prop} (hb : Bes X w w') (h : OwnO w base v l) (ho : ∀ q, v.ownBlock = some q → ¬ X q) : OwnO w' base v l := by
  rcases h with h | ⟨g, off, cap, cur, rfl, hbg, hI, hr⟩
  · exact .inl h
  · exact .inr ⟨g, off, cap, cur, rfl, hbg, Bes.box hb hI (ho g rfl), hr⟩
theorem OwnO.below (hb : Below w.heap.size w w') (h : OwnO w base v l) : OwnO w' base v l := h.bes (X := fun _ => False) (Bes.of_below hb) (fun _ _ x => x)
theorem OwnO.row (h : OwnO w base v l) : ∃ A cp, v = .slice A l.length cp ∧ l.length ≤ cp ∧ RowB w A l ∧ (∀ bb off, A = some ⟨bb, off, none⟩ → bb < w.heap.size ∧ v.ownBlock = some bb) := by
  rcases h with ⟨rfl, rfl⟩ | ⟨g, off, cap, cur, rfl, hb, hI, hn, hcm, hof, htk⟩
  · exact ⟨none, 0, rfl, Nat.le_refl _, (fun i u h => by simp at h), (fun bb off e => by cases e)⟩
  · refine ⟨_, cap, rfl, hn, fun i u hu => ⟨g, off, rfl, ?_⟩, fun bb o e => ?_⟩
    · have hi := (List.getElem?_eq_some_iff.1 hu).1
      have h1 : (Lib.byteCells l)[i]? = some (.int .u8 (u.toNat : Int)) := by
        unfold Lib.byteCells
        rw [List.getElem?_map, hu]; rfl
      rw [← htk, List.getElem?_take, if_pos hi, List.getElem?_drop] at h1
      rw [hI.cell, ← Array.getElem?_toList]
      exact h1
    · injection e with e
      injection e with e1 e2
      subst e1
      exact ⟨IBox.lt hI, rfl⟩
/-- What stands behind the first k bytes. -/
theorem OwnO.cut {g off cap k : Nat} (h : OwnO w base (.slice (some ⟨g, off, none⟩) l.length cap) l) (hk : k ≤ l.length) : OwnO w base (.slice (some ⟨g, off + k, none⟩) (l.length - k) (cap - k)) (l.drop k) ∧ (cap = k → OwnO w base (.slice (some ⟨g, off, none⟩) 0 0) (l.drop k)) := by
  rcases h with ⟨h, _⟩ | ⟨g2, o2, c2, cur, hv, hb, hI, hn, hcm, hof, htk⟩
  · cases h
  · injection hv with e1 e2 e3
    injection e1 with e1
    injection e1 with e1 e4
    subst e1 e3 e4
    refine ⟨.inr ⟨g, off + k, cap - k, cur, by rw [List.length_drop], hb, hI, by rw [List.length_drop]; omega, by omega, by omega, ?_⟩, fun hc => .inr ⟨g, off, 0, cur, ?_, hb, hI, ?_, by omega, by omega, ?_⟩⟩
    · have h2 := congrArg (List.drop k) htk
      rw [List.drop_take, List.drop_drop] at h2
      rw [List.length_drop, h2]
      unfold Lib.byteCells
      rw [List.map_drop]
    · have : l.drop k = [] := List.drop_eq_nil_of_le (by omega)
      rw [this]; rfl
    · have : l.drop k = [] := List.drop_eq_nil_of_le (by omega)
      rw [this]; exact Nat.le_refl _
    · have : l.drop k = [] := List.drop_eq_nil_of_le (by omega)
      rw [this]; rfl
theorem src_of {t : TypeId} (hk : Tryz.prog.underlying t = some (.slice 5)) (h : BtAt w u m) : Src Tryz.prog 1 t u m.length (Lib.byteCells m) w := by
  obtain ⟨A, c, rfl, hc⟩ := h
  cases A with
  | none =>
    have : m = [] := by
      cases m with
      | nil => rfl
      | cons x r =>
        obtain ⟨b, off, e, _⟩ := hc 0 x rfl
        cases e
    subst this
    exact Src.ofNil w hk c
  | some ad =>
    refine Src.ofSlice w hk ad m.length c (Lib.byteCells m) (by rw [Lib.byteCells_length, Nat.mul_one]) (fun j x hx => ?_) (bytes_one m)
    unfold Lib.byteCells at hx
    rw [List.getElem?_map] at hx
    obtain ⟨d, h1, rfl⟩ := Option.map_eq_some_iff.1 hx
    obtain ⟨b, off, e, h2⟩ := hc j d h1
    obtain rfl : ad = ⟨b, off, none⟩ := Option.some.inj e
    rw [Addr.add_lit]
    exact h2
theorem off_new (w : World) (base k : Nat) (l : List UInt8) (hbase : base ≤ w.heap.size) (hl : l.length ≤ maxLen) :
    OwnO (w.drew.alloc (.cells ((Lib.byteCells l).toArray ++ Builtin.zeroCells (Value.int IntKind.u8 0).cells (grownCap w l.length k 5 - l.length)) 5)) base (.slice (some ⟨w.heap.size, 0, none⟩) l.length (grownCap w l.length k 5)) l ∧ ∀ r, w.grownBy (w.drew.alloc (.cells ((Lib.byteCells l).toArray ++ Builtin.zeroCells (Value.int IntKind.u8 0).cells (grownCap w l.length k 5 - l.length)) 5)) r := by
  have hge := grownCap_ge w l.length k 5
  have hcm := grownCap_le_maxLen w l.length k 5 hl
  have hz1 : (Value.int IntKind.u8 0).cells.size = 1 := rfl
  refine ⟨.inr ⟨w.heap.size, 0, _, _, rfl, hbase, heap_alloc_new w.drew _, hge, hcm, ?_, ?_⟩, fun r => ⟨rfl, rfl, rfl, by simp, fun q hq _ => heap_alloc_old w.drew _ (show q < w.drew.heap.size from hq)⟩⟩
  · simp only [Array.size_append, List.size_toArray, size_zeroCells, hz1, Lib.byteCells_length]
    omega
  · rw [Array.toList_append, List.drop_zero]
    have e : l.length = (Lib.byteCells l).length := (Lib.byteCells_length l).symm
    rw [e]
    exact List.take_left
theorem run_app_off (t ty : TypeId) (ht : Tryz.prog.underlying t = some (.slice 5)) (h : OwnO w base v l) (hu : BtAt w u m) (hl : l.length + m.length ≤ 140737488355328) (hbase : base ≤ w.heap.size) :
    ∃ v' w', (Builtin.append_ #[t, t] ty #[v, u]).run Tryz.prog w = .ok v' w' ∧ OwnO w' base v' (l ++ m) ∧ Bes (fun q => v.ownBlock = some q) w w' ∧ (v'.ownBlock = v.ownBlock ∨ v'.ownBlock = some w.heap.size) := by
  obtain ⟨ie, h1, h2, h3, h4⟩ := u8_info
  have hs0 := src_of ht hu
  have hs : Src Tryz.prog ie.size t u m.length (Lib.byteCells m) w := by rw [h3]; exact hs0
  have hml : (Lib.byteCells m).length = m.length := Lib.byteCells_length m
  have hap : (l ++ m).length = l.length + m.length := List.length_append
  rcases h with ⟨rfl, rfl⟩ | ⟨g, off, cap, cur, rfl, hb, hI, hn, hcm, hof, htk⟩
  · by_cases hm : m = []
    · subst hm
      have hr := run_append_nothing w t t ty 5 ie ht h1 none 0 0 (Nat.le_refl _) u hs
      exact ⟨_, _, hr, .inl ⟨rfl, rfl⟩, Bes.of_below (Below.refl _ _), .inl rfl⟩
    · have hpos : 0 < m.length := List.length_pos_iff.2 hm
      have hr := run_append_grow_src w t t ty 5 ie (.int .u8 0) ht h1 h2 none 0 0 [] (run_firstCells_none w.drew ie.size 0 0 0) u m.length (Lib.byteCells m) hs (by omega) (by simp only [List.length_nil] at hl; omega) (by rw [h4]; exact growslice_fits (by simp only [List.length_nil] at hl; omega) (by simp only [List.length_nil] at hl; omega))
      have hnw := off_new w base 0 m hbase (by simp only [List.length_nil] at hl; unfold maxLen; omega)
      simp only [List.nil_append, Nat.zero_add] at hr ⊢
      exact ⟨_, _, hr, hnw.1, Bes.grown (hnw.2 none) (fun _ e => by cases e), .inr rfl⟩
  · have hll : (Lib.byteCells l).length = l.length := Lib.byteCells_length l
    by_cases hroom : l.length + m.length ≤ cap
    · have hr := run_append_room_src w t t ty 5 ie ht h1 g off l.length cap u m.length (Lib.byteCells m) hs hroom (fun j hj => by rw [hI.cell, Array.getElem?_eq_getElem (by rw [h3]; omega)]; rfl) (fun j hj => hI.frozen _)
      rw [h3, Nat.mul_one] at hr
      refine ⟨_, _, hr, .inr ⟨g, off, cap, over cur (off + l.length) (Lib.byteCells m), by rw [hap], hb, setCells_box _ _ _ _ hI, by rw [hap]; exact hroom, hcm, by rw [over_size]; exact hof, ?_⟩, setCells_bes (X := fun q => (Value.slice (some ⟨g, off, none⟩) l.length cap).ownBlock = some q) rfl _ _ _ _ hI, .inl rfl⟩
      apply List.ext_getElem?
      intro k
      have hk := congrArg (fun x => x[k]?) htk
      simp only [List.getElem?_take, List.getElem?_drop, Array.getElem?_toList] at hk ⊢
      rw [over_get _ _ _ _ (by omega), hap, Lib.byteCells_append]
      by_cases c1 : k < l.length
      · rw [if_pos (by omega), if_neg (by omega), List.getElem?_append_left (by omega)]
        rw [if_pos c1] at hk
        exact hk
      · rw [List.getElem?_append_right (by omega), hll]
        by_cases c2 : k < l.length + m.length
        · rw [if_pos c2, if_pos (by omega), show off + k - (off + l.length) = k - l.length by omega]
        · rw [if_neg c2, List.getElem?_eq_none (by omega)]
    · have hold : (Builtin.firstCells ie.size l.length (.slice (some ⟨g, off, none⟩) l.length cap)).run Tryz.prog w.drew = .ok (Lib.byteCells l).toArray w.drew := by
        refine run_firstCells_some w.drew ie.size l.length ⟨g, off, none⟩ l.length cap (Lib.byteCells l) (by rw [h3, hll, Nat.mul_one]) (fun j x hx => ?_)
        have hj : j < l.length := by have := (List.getElem?_eq_some_iff.1 hx).1; omega
        rw [Addr.add_lit]
        show w.cell? ⟨g, off + j, none⟩ = some x
        rw [hI.cell, ← Array.getElem?_toList]
        rw [← htk, List.getElem?_take, if_pos hj, List.getElem?_drop] at hx
        exact hx
      have hr := run_append_grow_src w t t ty 5 ie (.int .u8 0) ht h1 h2 (some ⟨g, off, none⟩) l.length cap (Lib.byteCells l) hold u m.length (Lib.byteCells m) hs (by omega) (by omega) (by rw [h4]; exact growslice_fits (by omega) (by omega))
      have hnw := off_new w base cap (l ++ m) hbase (by rw [hap]; unfold maxLen; omega)
      rw [hap, Lib.byteCells_append] at hnw
      exact ⟨_, _, hr, by rw [← hap] at hnw ⊢; exact hnw.1, Bes.grown (hnw.2 none) (fun _ e => by cases e), .inr rfl⟩
end
/-- Bytes are put behind the row. -/
theorem wpl_app_off {ops : Array Oper} {rest : List Oper} {o : Oper} {a : Act} {w : World} {Q : Exit → Act → World → Prop} (hgd : o.guard = none) (s x : Operand) (t : TypeId) (ho : o.op = .call { callee := .builtin .append, args := #[s, x], argTypes := #[t, t] }) (ht : Tryz.prog.underlying t = some (.slice 5)) {base : Nat} {v u : Value} {l m : List UInt8} (hs : a.eval s = v) (h : OwnO w base v l) (hx : a.eval x = u) (hu : BtAt w u m) (hl : l.length + m.length ≤ 140737488355328) (hbase : base ≤ w.heap.size)
    (hQ : ∀ v' w', OwnO w' base v' (l ++ m) → Bes (fun q => v.ownBlock = some q) w w' → (v'.ownBlock = v.ownBlock ∨ v'.ownBlock = some w.heap.size) → wpList Tryz.prog ops Q rest (a.put o.dst v') w') : wpList Tryz.prog ops Q (o :: rest) a w :=
  wpList_plain hgd fun _ hK => by
    obtain ⟨v', w', hr, k1, k2, k3⟩ := run_app_off t o.type ht h hu hl hbase
    generalize hP : Tryz.prog = P at *
    unfold Oper.wp execOp
    simp only [ho, resolve, invoke, builtin, Sem.run_bind, Sem.run_pure, Result.andThen_ok, List.map_toArray, List.map_cons, List.map_nil, hs, hx, hr]
    exact hK _ _ (hQ v' w' k1 k2 k3)
end Go.Proofs.YtbehakabglegjaaGreatDoor
namespace Go.Proofs.YtbehakabglegjaaGreatDoor
open Go.RowKit Go.PlainAid
set_option linter.unusedVariables false
set_option linter.unusedSimpArgs false
section
variable {base : Bs} {g : Nat} {F : Fs} {nx tk hs bd wh : Value} {L : List Mm} {w w' : World}
theorem FdM.bes {X : Nat → Prop} (h : FdM base g F nx tk hs bd wh L w) (hb : Bes X w w') (hX : ∀ q, X q → ¬ Live g tk hs bd wh q) (hm : ∀ x ∈ L, MOff X x) : FdM base g F nx tk hs bd wh L w' :=
  ⟨Bes.box hb h.1 (fun x => hX g x (.inl rfl)), ⟨⟨h.2.gl.1, Nat.lt_of_lt_of_le h.2.gl.2 hb.size⟩, Bes.own hb h.2.rt (fun k e x => hX k x (.inr (.inl e))), Bes.own hb h.2.rh (fun k e x => hX k x (.inr (.inr (.inl e)))), Bes.own hb h.2.rb (fun k e x => hX k x (.inr (.inr (.inr (.inl e))))), Bes.own hb h.2.rw_ (fun k e x => hX k x (.inr (.inr (.inr (.inr e))))), h.2.wl, h.2.ap,
    fun x hx => ⟨(h.2.ms x hx).1.bes hb (hm x hx), (h.2.ms x hx).2⟩, h.2.off, fun q e => Nat.lt_of_lt_of_le (h.2.avl q e) hb.size, h.2.ma⟩⟩
/-- With other blocks that are to be let be. -/
theorem FdM.lets {n : Nat} {P av : Nat → Prop} (h : FdM ⟨n, P⟩ g F nx tk hs bd wh L w) (hav : ∀ q, av q → q < w.heap.size ∧ ¬ Live g tk hs bd wh q) (hma : ∀ x ∈ L, MOff av x) : FdM ⟨n, av⟩ g F nx tk hs bd wh L w :=
  ⟨h.1, h.2.gl, h.2.rt, h.2.rh, h.2.rb, h.2.rw_, h.2.wl, h.2.ap, h.2.ms, fun q hl ha => (hav q ha).2 hl, fun q ha => (hav q ha).1, hma⟩
theorem Bl.as_bes {X : Nat → Prop} {n : Nat} {av : Nat → Prop} (h : Bl ⟨n, av⟩ w w') (hX : ∀ q, q < w.heap.size → ¬ X q → av q) : Bes X w w' :=
  ⟨h.b.os, h.b.tape, h.b.output, h.b.size, fun k hk hn => h.k k (hX k hk hn)⟩
theorem mmsL_get : ∀ {L : List Mm} {i : Nat} {x : Mm}, L[i]? = some x → ∀ j v, x.cells.toList[j]? = some v → (mmsL L)[i * 6 + j]? = some v
  | [], i, x, h, _, _, _ => by simp at h
  | y :: r, 0, x, h, j, v, hv => by
    obtain rfl : y = x := by simpa using h
    have e : mmsL (y :: r) = y.cells.toList ++ mmsL r := rfl
    have hj : j < y.cells.toList.length := (List.getElem?_eq_some_iff.1 hv).1
    rw [e, Nat.zero_mul, Nat.zero_add, List.getElem?_append_left hj]
    exact hv
  | y :: r, i + 1, x, h, j, v, hv => by
    have h2 : r[i]? = some x := by simpa using h
    have e : mmsL (y :: r) = y.cells.toList ++ mmsL r := rfl
    have hl : y.cells.toList.length = 6 := rfl
    rw [e, List.getElem?_append_right (by rw [hl]; omega), hl, show (i + 1) * 6 + j - 6 = i * 6 + j by omega]
    exact mmsL_get h2 j v hv
theorem mms_row {n : Nat} {v : Value} (h : w.ownsRow n 25 6 v L.length (mmsL L)) (hm : ∀ x ∈ L, MgB w x) : MmsAt w v L := by
  obtain ⟨A, c, hv, hc⟩ := own_slice h
  refine ⟨A, c, hv, fun i x hx => ?_⟩
  obtain ⟨b, hA, _⟩ := hc (i * 6 + 0) (.string x.m.meth) (mmsL_get hx 0 _ rfl)
  refine ⟨b, 0, hA, fun j u hu => ?_, hm x (List.mem_of_getElem? hx)⟩
  obtain ⟨b2, hA2, hw⟩ := hc (i * 6 + j) u (mmsL_get hx j u hu)
  obtain rfl : b = b2 := by rw [hA] at hA2; injection hA2 with e; injection e
  rw [Nat.zero_add]
  exact hw
theorem FdM.mms (h : FdM base g F nx tk hs bd wh L w) : MmsAt w wh L := mms_row h.2.rw_ (fun x hx => mm_b (h.2.ms x hx).1)
theorem ty_off {v : Value} {T T2 : TypeId} {q : Nat} {arr : Array Value} {fz : Nat × Nat} (h : TyB w v T) (hq : w.heap[q]? = some (.cells arr T2 fz)) (hne : T ≠ T2) : v.ownBlock ≠ some q := fun e => by
  obtain ⟨a2, f2, h2⟩ := h q e
  rw [h2] at hq
  injection hq with hq
  injection hq with _ hq _
  exact hne hq
/-- A message lies apart from blocks of another type. -/
theorem mm_off {X : Nat → Prop} {x : Mm} {T : TypeId} (h : IsMm w x) (hX : ∀ q, X q → ∃ arr fz, w.heap[q]? = some (.cells arr T fz)) (h1 : T ≠ 51) (h2 : T ≠ 5) : MOff X x :=
  ⟨fun q e y => by
    obtain ⟨arr, fz, hq⟩ := hX q y
    exact ty_off h.2.2.2.2.2.1 hq (Ne.symm h1) e, fun q e y => by
    obtain ⟨arr, fz, hq⟩ := hX q y
    exact ty_off h.2.2.2.2.2.2.1 hq (Ne.symm h2) e⟩
end
theorem mg_info : ∃ i, Tryz.prog.info? 25 = some i ∧ i.zero = some (.agg zeroM) ∧ i.size = 6 ∧ i.bytes = 104 := by
  have h : (Tryz.prog.info? 25).map (fun i => (i.zero, i.size, i.bytes)) = some (some (.agg zeroM), 6, 104) := by kernel_rfl
  obtain ⟨i, h1, h2⟩ := Option.map_eq_some_iff.1 h
  injection h2 with h2 h3
  injection h3 with h3 h4
  exact ⟨i, h1, h2, h3, h4⟩
theorem mmr_one : ∀ (L : List Mm), (∀ x ∈ L, (∃ A n c, x.hs = .slice A n c) ∧ ∃ A n c, x.bd = .slice A n c) → ∀ u ∈ mmsL L, u.oneCell' = true
  | [], _, u, h => by cases h
  | x :: r, hx, u, h => by
    have e : mmsL (x :: r) = x.cells.toList ++ mmsL r := rfl
    rw [e] at h
    rcases List.mem_append.1 h with h | h
    · obtain ⟨⟨A, n, c, e1⟩, ⟨A2, n2, c2, e2⟩⟩ := hx x (List.mem_cons_self ..)
      unfold Mm.cells at h
      rw [e1, e2] at h
      simp at h
      rcases h with rfl | rfl | rfl | rfl | rfl | rfl <;> rfl
    · exact mmr_one r (fun y hy => hx y (List.mem_cons_of_mem _ hy)) u h
theorem mmsL_len : ∀ (L : List Mm), (mmsL L).length = L.length * 6
  | [] => rfl
  | x :: r => by
    have e : mmsL (x :: r) = x.cells.toList ++ mmsL r := rfl
    rw [e, List.length_append, mmsL_len r, List.length_cons, show x.cells.toList.length = 6 from rfl]
    omega
section
variable {ops : Array Oper} {rest : List Oper} {o : Oper} {a : Act} {w : World} {Q : Exit → Act → World → Prop}
theorem run_app_nothing (t ty : TypeId) (ht : Tryz.prog.underlying t = some (.slice 25)) (A : Option Addr) (n cap c : Nat) (hn : n ≤ cap) : (Builtin.append_ #[t, t] ty #[.slice A n cap, .slice none 0 c]).run Tryz.prog w = .ok (.slice A n cap) w := by
  obtain ⟨ie, h1, h2, h3, h4⟩ := mg_info
  have hf := run_firstCells_none (P := Tryz.prog) w 6 0 0 c
  cases A <;> simp [Builtin.append_, run_underlying ht, sizeOf, typeInfo, h1, h3, Builtin.lenOf, hn, hf, storeCells]
theorem own_cap {w : World} {base : Nat} {E : TypeId} {size n cap : Nat} {A : Option Addr} {xs : List Value} {k : Nat} (h : w.ownsRow base E size (.slice A n cap) k xs) : n ≤ cap := by
  rcases h.2 with ⟨hv, h0⟩ | ⟨g, cp, cur, hv, _, _, hn, _⟩
  · injection hv with _ e2 e3; omega
  · injection hv with _ e2 e3; omega
/-- A row of messages put behind the call's own. -/
theorem wpl_app_mms (hgd : o.guard = none) (s x : Operand) (t : TypeId) (ho : o.op = .call { callee := .builtin .append, args := #[s, x], argTypes := #[t, t] }) (ht : Tryz.prog.underlying t = some (.slice 25)) {base : Nat} {v : Value} {M : List Mm} (hs : a.eval s = v) (hown : w.ownsRow base 25 6 v M.length (mmsL M))
    {u : Value} {n2 : Nat} {K : List Mm} (hx : a.eval x = u) (hu : w.ownsRow n2 25 6 u K.length (mmsL K)) (h1 : ∀ x ∈ K, (∃ A n c, x.hs = .slice A n c) ∧ ∃ A n c, x.bd = .slice A n c) (hl : M.length + K.length ≤ 1099511627776) (hbase : base ≤ w.heap.size)
    (hQ : ∀ v' w', w'.ownsRow base 25 6 v' (M ++ K).length (mmsL (M ++ K)) → Bes (fun q => v.ownBlock = some q) w w' → (v'.ownBlock = v.ownBlock ∨ v'.ownBlock = some w.heap.size) → wpList Tryz.prog ops Q rest (a.put o.dst v') w') : wpList Tryz.prog ops Q (o :: rest) a w := by
  obtain ⟨ie, i1, i2, i3, i4⟩ := mg_info
  obtain ⟨A, c, rfl, hc⟩ := own_slice hu
  have hlen : (M ++ K).length = M.length + K.length := List.length_append
  cases A with
  | none =>
    have hK : K = [] := by
      cases K with
      | nil => rfl
      | cons y r =>
        obtain ⟨b, e, _⟩ := hc 0 (.string y.m.meth) rfl
        cases e
    subst hK
    obtain ⟨A, cp, rfl, _⟩ := own_slice hown
    refine wpList_plain hgd fun _ hK => ?_
    have hr := run_app_nothing (w := w) t o.type ht A M.length cp c (own_cap hown)
    unfold Oper.wp execOp
    simp only [ho, resolve, invoke, builtin, Sem.run_bind, Sem.run_pure, Result.andThen_ok, List.map_toArray, List.map_cons, List.map_nil, hs, hx]
    rw [show ([] : List Mm).length = 0 from rfl, hr]
    exact hK _ _ (hQ _ _ (by rw [List.append_nil]; exact hown) (Bes.of_below (Below.refl _ _)) (.inl rfl))
  | some ad =>
    refine wpList_append_own_at w hgd s x t ho base 25 ie (.agg zeroM) 6 104 ht i1 i2 i3 i4 rfl (by decide) v M.length (mmsL M) hs hown ad K.length c (mmsL K) hx (mmsL_len K) (fun j z hz => ?_) (mmr_one K h1) (by unfold maxLen; omega) (by omega) hbase ?_
    · obtain ⟨b, e, hw⟩ := hc j z hz
      obtain rfl : ad = ⟨b, 0, none⟩ := Option.some.inj e
      have hadd : (⟨b, 0, none⟩ : Addr).add j = ⟨b, j, none⟩ := by unfold Addr.add; split <;> simp_all
      rw [hadd]
      exact hw
    · intro v' w' k1 k2 k3 k4
      exact hQ v' w' (by rw [hlen, mmsL_app]; exact k1) (Bes.grown (X := fun q => v.ownBlock = some q) k2 (fun _ e => e)) k4
end
/-- What a fault says. -/
def codeT (k : Int) : ByteArray := (⟨#[99, 111, 118, 101, 121, 58, 32, 101, 114, 114, 111, 114, 32]⟩ : ByteArray) ++ txt (Lib.itoa k)
def faultT (k : Int) (p : Nat) : ByteArray := (txt (Lib.itoa (p : Int)) ++ (⟨#[58, 32]⟩ : ByteArray)) ++ codeT k
end Go.Proofs.YtbehakabglegjaaGreatDoor
