/- Layer 3: a value whose objects' fields stand the other way round (coveylaw03.turned), walked. Layer 3: the law CanonOne answers true. -/
import Derived.Test.YtnjhmnolngdfaaaGreatDoorCoD
import Derived.Maps.AppendAt
namespace Go.Proofs.YtnjhmnolngdfaaaGreatDoor
section
open Go.RowKit Go.PlainAid
set_option linter.unusedVariables false
set_option linter.unusedSimpArgs false
theorem word_pln {α : Type} {o : Out α} {f : α → JT} {t : JT} {k : Nat} (h : o.map f = .ok t k) (hf : ∀ x, plnT (f x) = f x) : plnT t = t := by
  obtain ⟨x, _, rfl⟩ := map_ok h
  exact hf x
/-- What a reader answers holds nothing but what its kind uses. -/
theorem value_pln {s : ByteArray} : ∀ (d i : Nat) (t : JT) (k : Nat), valueTo s d i = .ok t k → plnT t = t
  | d, i, t, k, h => by
    unfold valueTo at h
    split at h
    · obtain ⟨x, _, rfl⟩ := map_ok h
      exact pln_else (by decide) (by decide) (by decide) (by decide) (by decide)
    · split at h
      · obtain ⟨x, _, rfl⟩ := map_ok h
        exact pln_1
      · split at h
        · obtain ⟨x, _, rfl⟩ := map_ok h
          exact pln_1
        · split at h
          · obtain ⟨x, hx, rfl⟩ := map_ok h
            exact pln_2
          · split at h
            · obtain ⟨x, hx, rfl⟩ := map_ok h
              exact pln_3
            · split at h
              · cases h
              · cases d with
                | zero => cases h
                | succ d =>
                  simp only at h
                  split at h
                  · obtain ⟨l, hl, rfl⟩ := map_ok h
                    have hP := eachTo_keeps (P := fun l => ∀ x ∈ l, plnT x = x) (fun i x y k hy hx => by
                      obtain ⟨t, ht, rfl⟩ := map_ok hy
                      have hg := value_pln d i t k ht
                      intro z hz
                      rcases List.mem_append.1 hz with hz | hz
                      · exact hx z hz
                      · obtain rfl : z = t := by simpa using hz
                        exact hg) hl (fun z hz => by cases hz)
                    rw [jList, pln_4, map_self hP]
                  · obtain ⟨x, hx, rfl⟩ := map_ok h
                    have hP := eachTo_keeps (P := fun x : List ByteArray × List JT => ∀ z ∈ x.2, plnT z = z) (fun i x y k hy hx => by
                      unfold objStep at hy
                      split at hy
                      · split at hy
                        · cases hy
                        · split at hy
                          · cases hy
                          · split at hy
                            · cases hy
                            · obtain ⟨t, ht, rfl⟩ := map_ok hy
                              have hg := value_pln d _ t k ht
                              intro z hz
                              rcases List.mem_append.1 hz with hz | hz
                              · exact hx z hz
                              · obtain rfl : z = t := by simpa using hz
                                exact hg
                      · cases hy) hx (fun z hz => by cases hz)
                    rw [jObj, pln_5, map_self hP]
theorem parse_pln {s : ByteArray} {t : JT} {k : Nat} (h : parseTo s = .ok t k) : plnT t = t := by
  unfold parseTo at h
  split at h
  · cases h
  · rename_i t' k' hv
    split at h
    · cases h
    · injection h with h1 _
      subst h1
      exact value_pln _ _ _ _ hv
/-- A plain tree by its kind. -/
theorem pln_ways {t : JT} (h : plnT t = t) : (∃ l, t = .mk 4 false 0 ⟨#[]⟩ l [] [] ∧ ∀ x ∈ l, plnT x = x) ∨ (∃ ns vs, t = .mk 5 false 0 ⟨#[]⟩ [] ns vs ∧ ∀ x ∈ vs, plnT x = x) ∨ ∃ k b i s, t = .mk k b i s [] [] [] := by
  obtain ⟨k, b, i, s, l, ns, vs⟩ := t
  rcases jt_kinds k with rfl | rfl | rfl | rfl | rfl | rfl | ⟨k0, k1, k2, k3, k4, k5⟩
  · rw [pln_else (by decide) (by decide) (by decide) (by decide) (by decide)] at h
    exact .inr (.inr ⟨_, _, _, _, h.symm⟩)
  · rw [pln_1] at h
    exact .inr (.inr ⟨_, _, _, _, h.symm⟩)
  · rw [pln_2] at h
    exact .inr (.inr ⟨_, _, _, _, h.symm⟩)
  · rw [pln_3] at h
    exact .inr (.inr ⟨_, _, _, _, h.symm⟩)
  · rw [pln_4] at h
    injection h with _ h2 h3 h4 h5 h6 h7
    subst h2 h3 h4 h6 h7
    refine .inl ⟨l, rfl, fun x hx => ?_⟩
    have := List.map_inj_left.1 (h5.trans (List.map_id l).symm) x hx
    exact this
  · rw [pln_5] at h
    injection h with _ h2 h3 h4 h5 h6 h7
    subst h2 h3 h4 h5
    refine .inr (.inl ⟨ns, vs, rfl, fun x hx => ?_⟩)
    have := List.map_inj_left.1 (h7.trans (List.map_id vs).symm) x hx
    exact this
  · rw [pln_else k1 k2 k3 k4 k5] at h
    exact .inr (.inr ⟨_, _, _, _, h.symm⟩)
/-- The result under way: its box, and the row that it holds. -/
structure PK (b1 g : Nat) (E : TypeId) (size : Nat) (arr : Array Value) (v : Value) (n : Nat) (xs : List Value) (acc : List JV) (w : World) : Prop where
  box : IBox w g 25 arr
  own : w.ownsRow b1 E size v n xs
  els : ∀ y ∈ acc, IsJV w y ∧ Off (fun q => q < b1 ∨ v.ownBlock = some q) y
  st : g < b1 ∧ b1 ≤ w.heap.size
section
variable {b1 g : Nat} {E : TypeId} {size : Nat} {arr : Array Value} {v : Value} {n : Nat} {xs : List Value} {acc : List JV} {w w' : World}
theorem PK.below (h : PK b1 g E size arr v n xs acc w) (hb : Below w.heap.size w w') : PK b1 g E size arr v n xs acc w' :=
  ⟨IBox.below h.box hb (IBox.lt h.box), own_below h.own hb, fun y hy => ⟨IsJV.below hb (h.els y hy).1, (h.els y hy).2⟩, ⟨h.st.1, Nat.le_trans h.st.2 hb.size⟩⟩
theorem PK.more (h : PK b1 g E size arr v n xs acc w) {v' : Value} {n' : Nat} {xs' : List Value} {j : JV} (ho : w'.ownsRow b1 E size v' n' xs') (hb : Bes (fun q => v.ownBlock = some q) w w') (hat : v'.ownBlock = v.ownBlock ∨ v'.ownBlock = some w.heap.size)
    (hj : IsJV w j) (hoj : Off (fun q => q < b1 ∨ v.ownBlock = some q) j) : PK b1 g E size arr v' n' xs' (acc ++ [j]) w' := by
  obtain ⟨h1, h2⟩ := h.st
  have lo : ∀ q, v.ownBlock = some q → b1 ≤ q := fun q e => (own_in h.own e).1
  refine ⟨Bes.box hb h.box (fun e => by have := lo g e; omega), ho, fun y hy => ?_, ⟨h1, Nat.le_trans h2 hb.size⟩⟩
  have key : ∀ y : JV, IsJV w y → Off (fun q => q < b1 ∨ v.ownBlock = some q) y → IsJV w' y ∧ Off (fun q => q < b1 ∨ v'.ownBlock = some q) y := fun y a b => by
    refine ⟨IsJV.bes hb a (Off.mono (fun q e => Or.inr e) b), ?_⟩
    refine Off.mono (fun q e => ?_) (Off.or b (off_heap a))
    rcases e with e | e
    · exact .inl (.inl e)
    · rcases hat with h3 | h3
      · exact .inl (.inr (h3 ▸ e))
      · rw [h3] at e
        have e2 := Option.some.inj e
        exact .inr (by show w.heap.size ≤ q; omega)
  rcases List.mem_append.1 hy with hy | hy
  · exact key y (h.els y hy).1 (h.els y hy).2
  · obtain rfl : y = j := by simpa using hy
    exact key y hj hoj
theorem PK.put (h : PK b1 g E size arr v n xs acc w) {arr2 : Array Value} (hw : Hid (w' = w.setRow g arr2)) : PK b1 g E size arr2 v n xs acc w' := by
  have hb := Bes.row (X := fun q => q = g) hw rfl
  refine ⟨hid_row hw h.box, Bes.own hb h.own (fun q e he => ?_), fun y hy => ?_, ⟨h.st.1, Nat.le_trans h.st.2 hb.size⟩⟩
  · have := (own_in h.own e).1; have he2 : q = g := he; have := h.st.1; omega
  · obtain ⟨a, b⟩ := h.els y hy
    exact ⟨IsJV.bes hb a (Off.mono (fun q e => Or.inl (by have e2 : q = g := e; have := h.st.1; omega)) b), b⟩
end
theorem psz_sv : (Tryz.prog.info? 22).map (·.size) = some 1 := by kernel_rfl
theorem psz_sf : (Tryz.prog.info? 23).map (·.size) = some 1 := by kernel_rfl
theorem pk_list {b1 g : Nat} {arr : Array Value} {A : Option Addr} {c : Nat} {acc : List JV} {w : World} (h : PK b1 g 25 6 arr (.slice A acc.length c) acc.length (valL acc) acc w) (hb : acc.length * 80 ≤ reach) : IsJV w (listJ A c acc) ∧ Off (fun q => q < b1) (listJ A c acc) := by
  obtain ⟨A', c', he, hj, _⟩ := own_vals h.own rfl (fun x hx => (h.els x hx).1) hb
  injection he with e1 _ e3
  subst e1 e3
  refine ⟨hj, ?_⟩
  unfold listJ Off
  refine ⟨fun _ a ha e => ?_, fun h => absurd rfl h, offL_of fun x hx => Off.mono (fun q e => Or.inl e) (h.els x hx).2, by unfold OffL; exact True.intro⟩
  have h1 := own_at h.own a ha
  have e2 : a.block < b1 := e
  omega
theorem er_pl {n : Nat} (A : Option Addr) (c : Nat) (acc : List JV) (L : List JT) (h : acc.map er = L.take n) (hn : L.length = n) : er (listJ A c acc) = .mk 4 false 0 ⟨#[]⟩ L [] [] := by
  rw [List.take_of_length_le (by omega)] at h
  rw [← h, ← erL_map]
  unfold listJ
  rw [er_mk]
  rfl
theorem pval_fill (j : JV) : Instr.fill (fun i => some (i * 6, 6)) ((Array.range (1 * 6)).map ((Value.agg JV.zero.cells).cells[· % (Value.agg JV.zero.cells).cells.size]!)) [(0, .agg j.cells)] = some j.cells := by kernel_rfl
theorem jv_nm_le {w : World} {j : JV} (h : IsJV w j) {i : Nat} {n : ByteArray} (hn : j.ns[i]? = some n) : n.size ≤ reach := by
  obtain ⟨v, l, ns, vs⟩ := j
  unfold IsJV at h
  exact (NamesAt.get h.1.2.2.2.2.2.2.2.2 hn).2
theorem take_get {α : Type} {l : List α} {n i : Nat} {x : α} (h : (l.take n)[i]? = some x) : l[i]? = some x := by
  rw [List.getElem?_take] at h
  split at h
  · exact h
  · cases h
theorem pk_obj {b1 g : Nat} {arr : Array Value} {A : Option Addr} {c : Nat} {L : List (ByteArray × JV)} {w : World} (h : PK b1 g 52 7 arr (.slice A L.length c) L.length (fldL L) (L.map (·.2)) w) (hn : ∀ p ∈ L, p.1.size ≤ reach) (hb : L.length * 96 ≤ reach) : IsJV w (objJ A c L) ∧ Off (fun q => q < b1) (objJ A c L) := by
  have hm : ∀ p ∈ L, p.2 ∈ L.map (·.2) := fun p hp => List.mem_map.2 ⟨p, hp, rfl⟩
  obtain ⟨A', c', he, hj⟩ := own_obj h.own rfl (fun p hp => ⟨hn p hp, (h.els _ (hm p hp)).1⟩) hb
  injection he with e1 _ e3
  subst e1 e3
  refine ⟨hj, ?_⟩
  unfold objJ Off
  refine ⟨fun h => absurd rfl h, fun _ a ha e => ?_, by unfold OffL; exact True.intro, offL_of fun x hx => Off.mono (fun q e => Or.inl e) (h.els x hx).2⟩
  have h1 := own_at h.own a ha
  have e2 : a.block < b1 := e
  omega
theorem er_po {n : Nat} (A : Option Addr) (c : Nat) (L : List (ByteArray × JV)) (N : List ByteArray) (V : List JT) (h1 : L.map (·.1) = N.take n) (h2 : (L.map fun p => er p.2) = V.take n) (hn : V.length = n) (hm : N.length = n) : er (objJ A c L) = .mk 5 false 0 ⟨#[]⟩ [] N V := by
  rw [List.take_of_length_le (by omega)] at h1 h2
  rw [er_obj, h1, h2]
theorem tbl_build (k : Int) (b : Bool) (i : Int) (t : ByteArray) (w : World) : (Instr.build 25 #[(0, .int .i64 k), (1, .bool b), (2, .int .i64 i), (3, .string t)]).run Tryz.prog w = .ok (.agg (leafJ k b i t).cells) w := by kernel_rfl
/-- What turned gives. -/
def TuV (j : JV) (w : World) (e : Ending) (w' : World) : Prop := ∃ k, e = .returned (.agg k.cells) ∧ IsJV w' k ∧ er k = turT (er j) ∧ Off (fun q => q < w.heap.size) k ∧ Below w.heap.size w w'
theorem tu_leaf {j : JV} {w w' : World} {k i : Int} {b : Bool} {t : ByteArray} (hk : I64 k) (hi : I64 i) (ht : t.size ≤ reach) (he : turT (er j) = .mk k b i t [] [] []) (hb : Below w.heap.size w w') : TuV j w (.returned (.agg (leafJ k b i t).cells)) w' := by
  obtain ⟨h1, h2, h3⟩ := leaf_ok w' w hk hi ht
  exact ⟨_, rfl, h1, h2.trans he.symm, h3, hb⟩
theorem tk_round {j x k : JV} {acc : List JV} {b1 g ga cap : Nat} {w3 w : World} (h : PK b1 g 25 6 (#[.int .i64 4, .bool false, .int .i64 0, .string ⟨#[]⟩, .slice (some ⟨ga, 0, none⟩) (acc.length + 1) cap, .slice none 0 0] : Array Value) (.slice (some ⟨ga, 0, none⟩) (acc.length + 1) cap) (acc.length + 1) (valL acc ++ k.cells.toList) (acc ++ [k]) w)
    (hac : acc.map er = (turL (erL j.l)).take acc.length) (hk : er k = turT (er x)) (hx : j.l[acc.length]? = some x) (hl : acc.length < j.v.Ln) (hb : Below g w3 w) :
    (∃ (q : Nat) (A : Option Addr) (c : Nat) (acc_1 : List JV), Value.int .i64 ((acc.length : Int) + 1) = .int .i64 q ∧ q ≤ j.v.Ln ∧ acc_1.length = q ∧ Hid (acc_1.map er = (turL (erL j.l)).take q) ∧ PK b1 g 25 6 (#[.int .i64 4, .bool false, .int .i64 0, .string ⟨#[]⟩, .slice A acc_1.length c, .slice none 0 0] : Array Value) (.slice A acc_1.length c) acc_1.length (valL acc_1) acc_1 w ∧ Below g w3 w) ∧
      j.v.Ln - (intOf (Value.int .i64 ((acc.length : Int) + 1))).toNat < j.v.Ln - (intOf (Value.int .i64 (acc.length : Int))).toNat := by
  refine ⟨⟨acc.length + 1, some ⟨ga, 0, none⟩, cap, acc ++ [k], by simp, hl, by simp, Lib.hid ?_, ?_, hb⟩, ?_⟩
  · rw [take_next (x := er k) (by rw [turL_map, erL_map, hk]; simp [hx]), ← hac, List.map_append]
    rfl
  · rw [valL_app, valL_one, List.length_append]
    exact h
  · show j.v.Ln - ((acc.length : Int) + 1).toNat < j.v.Ln - ((acc.length : Int)).toNat
    omega
theorem rev_get {α : Type} {l : List α} {n i : Nat} {x : α} (h : l[i]? = some x) (hn : n + i + 1 = l.length) : l.reverse[n]? = some x := by
  rw [List.getElem?_reverse (by omega), show l.length - 1 - n = i by omega, h]
theorem to_round {j x k : JV} {L : List (ByteArray × JV)} {nm : ByteArray} {b1 g ga cap i : Nat} {w3 w : World} (h : PK b1 g 52 7 (#[.int .i64 5, .bool false, .int .i64 0, .string ⟨#[]⟩, .slice none 0 0, .slice (some ⟨ga, 0, none⟩) (L.length + 1) cap] : Array Value) (.slice (some ⟨ga, 0, none⟩) (L.length + 1) cap) (L.length + 1) (fldL L ++ (fldA (nm, k)).toList) (L.map (·.2) ++ [k]) w)
    (hac : L.map (·.1) = j.ns.reverse.take L.length) (hav : (L.map fun p => er p.2) = (turL (erL j.vs)).reverse.take L.length) (hk : er k = turT (er x)) (hx : j.vs[i]? = some x) (hn : j.ns[i]? = some nm) (hl : L.length + i + 1 = j.v.Fn) (hv : j.v.Fn = j.vs.length) (hns : j.ns.length = j.vs.length) (hb : Below g w3 w) :
    (∃ (A : Option Addr) (c : Nat) (L_1 : List (ByteArray × JV)), ((Value.int .i64 ((i : Int) - 1) = .int .i64 (-1) ∧ L_1.length = j.v.Fn) ∨ ∃ i' : Nat, Value.int .i64 ((i : Int) - 1) = .int .i64 (i' : Int) ∧ L_1.length + i' + 1 = j.v.Fn) ∧ Hid (L_1.map (·.1) = j.ns.reverse.take L_1.length) ∧ Hid ((L_1.map fun p => er p.2) = (turL (erL j.vs)).reverse.take L_1.length) ∧ PK b1 g 52 7 (#[.int .i64 5, .bool false, .int .i64 0, .string ⟨#[]⟩, .slice none 0 0, .slice A L_1.length c] : Array Value) (.slice A L_1.length c) L_1.length (fldL L_1) (L_1.map (·.2)) w ∧ Below g w3 w) ∧
      (intOf (Value.int .i64 ((i : Int) - 1)) + 1).toNat < (intOf (Value.int .i64 (i : Int)) + 1).toNat := by
  have el : (L ++ [(nm, k)]).length = L.length + 1 := by simp
  refine ⟨⟨some ⟨ga, 0, none⟩, cap, L ++ [(nm, k)], ?_, Lib.hid ?_, Lib.hid ?_, ?_, hb⟩, ?_⟩
  · cases i with
    | zero => exact .inl ⟨rfl, by rw [el]; omega⟩
    | succ i => exact .inr ⟨i, by congr 1; omega, by rw [el]; omega⟩
  · rw [el, take_next (rev_get hn (by omega)), ← hac, List.map_append]
    rfl
  · rw [el, take_next (x := er k) (rev_get (i := i) (by rw [turL_map, erL_map, hk]; simp [hx]) (by rw [turL_map, List.length_map, erL_len]; omega)), ← hav, List.map_append]
    rfl
  · rw [fldL_app, fldL_one, el, List.map_append]
    exact h
  · show ((i : Int) - 1 + 1).toNat < ((i : Int) + 1).toNat
    omega
set_option maxRecDepth 100000 in
set_option maxHeartbeats 8000000 in
theorem tu_leaves {j : JV} {w : World} (HJ : IsJV w j) (hs : SzT (er j) ≤ 1048576) {k i : Int} {b : Bool} {t : ByteArray} (he : er j = .mk k b i t [] [] []) : Calls Tryz.prog 23 #[.agg j.cells] w (TuV j w) := by
    obtain ⟨l1, l2, l3, l4, l5⟩ := jv_lens HJ
    obtain ⟨s1, s2, s3, s4⟩ := sz_parts j
    have hI : I64 j.v.kind ∧ I64 j.v.i ∧ j.v.t.size ≤ reach := by obtain ⟨v, _, _, _⟩ := j; unfold IsJV at HJ; exact ⟨HJ.1.1, HJ.1.2.1, HJ.1.2.2.1⟩
    have HI := Lib.hid hI
    have LL := Lib.hid l1
    have LV := Lib.hid l2
    have LN := Lib.hid l3
    have S3 := Lib.hid s3
    have S4 := Lib.hid s4
    have HSS := Lib.hid hs
    have hLn : j.v.Ln ≤ 1048576 := by omega
    have hFn : j.v.Fn ≤ 1048576 := by omega
    have HB := Below.refl w.heap.size w
    have HJ0 := HJ
    have hm := er_mk j
    rw [he] at hm
    injection hm with m1 m2 m3 m4 m5 m6 m7
    have HK : Hid (turT (er j) = .mk j.v.kind j.v.b j.v.i j.v.t [] [] []) := Lib.hid (by rw [he, ← m1, ← m2, ← m3, ← m4]; simp [turT, turL])
    have L0 : Hid (j.v.Ln = 0) := Lib.hid (by rw [l1, ← erL_len, ← m5]; rfl)
    have F0 : Hid (j.v.Fn = 0) := Lib.hid (by rw [l2, ← erL_len, ← m7]; rfl)
    clear l1 l2 l3 l4 l5 s1 s2 s3 s4 hI hs he m1 m2 m3 m4 m5 m6 m7
    go_enter Tryz.func23, Tryz.ntmps23
    go_wp2_with (first
      | (refine wpl_newbox 3 rfl rfl 25 rfl rfl (.tmp 14) rfl _ zeroV (leafJ j.v.kind j.v.b j.v.i j.v.t).cells rfl rfl info_value rfl (jv_one _) ?_; intro w3 hw; have hb := hid_grow hw; have B3 := (hid_alloc hw).1; have hz3 := Lib.hid (hid_alloc hw).2.1; replace B1 := IBox.below B1 hb (IBox.lt B1); replace B2 := IBox.below B2 hb (IBox.lt B2); replace HB := HB.trans (hb.mono HB.size); replace HJ := HJ.below hb; clear hb hw; clear c1_0 c1_1 c1_2 c1_3; have hzz : w1.heap.size = w.heap.size + 1 ∧ w2.heap.size = w.heap.size + 2 ∧ w3.heap.size = w.heap.size + 3 := (by have := hz1.out; have := hz2.out; have := hz3.out; omega); have HZ := Lib.hid hzz; clear hzz hz1 hz2 hz3)
      | (refine wpl_box_at rfl 25 (.tmp 0) rfl _ rfl ?_; intro w1 hw; have hb := hid_grow hw; have B1 := (hid_alloc hw).1; have hz1 := Lib.hid (hid_alloc hw).2.1; replace HB := HB.trans (hb.mono HB.size); replace HJ := HJ.below hb; clear hb hw)
      | ((with_reducible refine is_alloc ?_); refine wpl_alloc_at (o := ⟨some 2, _, _, _, _, _⟩) rfl 25 rfl _ zeroV ?_; intro w2 hw; have hb := hid_grow hw; have B2 := hid_alloc0 hw; have hz2 := Lib.hid (hid_alloc hw).2.1; replace B1 := IBox.below B1 hb (IBox.lt B1); replace HB := HB.trans (hb.mono HB.size); replace HJ := HJ.below hb; clear hb hw; have c1_0 : w2.cell? ⟨_, 0, none⟩ = some (.int .i64 j.v.kind) := (B1.cell 0).trans (by show some (Value.int .i64 j.v.kind) = _; rfl); have c1_1 : w2.cell? ⟨_, 1, none⟩ = some (.bool j.v.b) := (B1.cell 1).trans (by show some (Value.bool j.v.b) = _; rfl); have c1_2 : w2.cell? ⟨_, 2, none⟩ = some (.int .i64 j.v.i) := (B1.cell 2).trans (by show some (Value.int .i64 j.v.i) = _; rfl); have c1_3 : w2.cell? ⟨_, 3, none⟩ = some (.string j.v.t) := (B1.cell 3).trans (by show some (Value.string j.v.t) = _; rfl))
      | ((with_reducible refine is_build ?_); refine wpl_build_at (vals := _) (tbl_build j.v.kind j.v.b j.v.i j.v.t) rfl _ rfl rfl ?_))
    have c1_4 : w3.cell? ⟨_, 4, none⟩ = some (.slice j.v.LA 0 j.v.Lc) := (B1.cell 4).trans (by show some (Value.slice j.v.LA j.v.Ln j.v.Lc) = _; rw [L0.out])
    have c1_5 : w3.cell? ⟨_, 5, none⟩ = some (.slice j.v.FA 0 j.v.Fc) := (B1.cell 5).trans (by show some (Value.slice j.v.FA j.v.Fn j.v.Fc) = _; rw [F0.out])
    go_loopw [4] (fun iv wr => iv = .int .i64 0 ∧ w3 = wr) (fun _ _ => 0)
    case atStart => exact ⟨rfl, rfl⟩
    case round =>
      obtain ⟨rfl, rfl⟩ := hrel
      go_wp2
      go_loopw [5] (fun iv wr => iv = .int .i64 (-1) ∧ w3 = wr) (fun _ _ => 0)
      case atStart => exact ⟨rfl, rfl⟩
      case round =>
        obtain ⟨rfl, rfl⟩ := hrel
        go_wp2_with (first
          | ((with_reducible refine is_load ?_); refine wpl_load_box rfl 25 (.tmp 3) rfl _ rfl _ (leafJ j.v.kind j.v.b j.v.i j.v.t).cells _ B3 Tryz.underlying25 rfl info_value ?_)
          | ((with_reducible refine is_store ?_); refine wpl_store_at rfl 25 (.tmp 2) (.tmp 60) rfl w1.heap.size (leafJ j.v.kind j.v.b j.v.i j.v.t).cells rfl rfl _ _ B2 info_value rfl (jv_one _) ?_; intro w5 hw; have hbe := Bes.row (X := fun q => q = w1.heap.size) hw rfl; replace HB := HB.trans (Bes.below hbe (fun q e => by have e2 : q = w1.heap.size := e; have := HZ.out; omega) HB.size); replace B2 := hid_row hw B2; clear hw hbe))
        refine bodyPost_ret (results_box rfl _ _ w1.heap.size _ (leafJ j.v.kind j.v.b j.v.i j.v.t).cells _ rfl B2 Tryz.underlying25 rfl info_value) rfl ?_
        exact tu_leaf HI.out.1 HI.out.2.1 HI.out.2.2 HK.out HB
set_option maxRecDepth 100000 in
set_option maxHeartbeats 8000000 in
theorem tu_list {j : JV} {w : World} (HJ : IsJV w j) (hs : SzT (er j) ≤ 1048576) (IH : Hid (∀ (x : JV) (w : World), SizeOf.sizeOf x < SizeOf.sizeOf j → IsJV w x → SzT (er x) ≤ 1048576 → plnT (er x) = er x → Calls Tryz.prog 23 #[.agg x.cells] w (TuV x w))) {l : List JT} (he : er j = .mk 4 false 0 ⟨#[]⟩ l [] []) (hp : ∀ x ∈ l, plnT x = x) : Calls Tryz.prog 23 #[.agg j.cells] w (TuV j w) := by
    obtain ⟨l1, l2, l3, l4, l5⟩ := jv_lens HJ
    obtain ⟨s1, s2, s3, s4⟩ := sz_parts j
    have hI : I64 j.v.kind ∧ I64 j.v.i ∧ j.v.t.size ≤ reach := by obtain ⟨v, _, _, _⟩ := j; unfold IsJV at HJ; exact ⟨HJ.1.1, HJ.1.2.1, HJ.1.2.2.1⟩
    have HI := Lib.hid hI
    have LL := Lib.hid l1
    have LV := Lib.hid l2
    have LN := Lib.hid l3
    have S3 := Lib.hid s3
    have S4 := Lib.hid s4
    have HSS := Lib.hid hs
    have hLn : j.v.Ln ≤ 1048576 := by omega
    have hFn : j.v.Fn ≤ 1048576 := by omega
    have HB := Below.refl w.heap.size w
    have HJ0 := HJ
    have hm := er_mk j
    rw [he] at hm
    injection hm with m1 m2 m3 m4 m5 m6 m7
    have HK : Hid (turT (er j) = .mk 4 false 0 ⟨#[]⟩ (turL (erL j.l)) [] []) := Lib.hid (by rw [he, m5]; simp [turT, turL])
    have HPX : Hid (∀ (i : Nat) (x : JV), j.l[i]? = some x → plnT (er x) = er x) := Lib.hid (fun i x hx => hp _ (by rw [m5, erL_map]; exact List.mem_map_of_mem (List.mem_of_getElem? hx)))
    have F0 : Hid (j.v.Fn = 0) := Lib.hid (by rw [l2, ← erL_len, ← m7]; rfl)
    have K1 := Lib.hid m1.symm
    have K2 := Lib.hid m2.symm
    have K3 := Lib.hid m3.symm
    have K4 := Lib.hid m4.symm
    clear l1 l2 l3 l4 l5 s1 s2 s3 s4 hI hs he m1 m2 m3 m4 m5 m6 m7
    clear hp
    obtain ⟨ie, z, hie1, hie2, hie3, hie4, hz⟩ := val_slice0
    subst hz
    go_enter Tryz.func23, Tryz.ntmps23
    go_wp2_with (first
      | (refine wpl_newbox 3 rfl rfl 25 rfl rfl (.tmp 14) rfl _ zeroV (leafJ 4 false 0 ⟨#[]⟩).cells rfl rfl info_value rfl (jv_one _) ?_; intro w3 hw; have hb := hid_grow hw; have B3 := (hid_alloc hw).1; have hz3 := Lib.hid (hid_alloc hw).2.1; replace B1 := IBox.below B1 hb (IBox.lt B1); replace B2 := IBox.below B2 hb (IBox.lt B2); replace HB := HB.trans (hb.mono HB.size); replace HJ := HJ.below hb; clear hb hw; clear c1_0 c1_1 c1_2 c1_3; have hzz : w1.heap.size = w.heap.size + 1 ∧ w2.heap.size = w.heap.size + 2 ∧ w3.heap.size = w.heap.size + 3 := (by have := hz1.out; have := hz2.out; have := hz3.out; omega); have HZ := Lib.hid hzz; clear hzz hz1 hz2 hz3)
      | (refine wpl_box_at rfl 25 (.tmp 0) rfl _ rfl ?_; intro w1 hw; have hb := hid_grow hw; have B1 := (hid_alloc hw).1; have hz1 := Lib.hid (hid_alloc hw).2.1; replace HB := HB.trans (hb.mono HB.size); replace HJ := HJ.below hb; clear hb hw)
      | ((with_reducible refine is_alloc ?_); refine wpl_alloc_at (o := ⟨some 2, _, _, _, _, _⟩) rfl 25 rfl _ zeroV ?_; intro w2 hw; have hb := hid_grow hw; have B2 := hid_alloc0 hw; have hz2 := Lib.hid (hid_alloc hw).2.1; replace B1 := IBox.below B1 hb (IBox.lt B1); replace HB := HB.trans (hb.mono HB.size); replace HJ := HJ.below hb; clear hb hw; have c1_0 : w2.cell? ⟨_, 0, none⟩ = some (.int .i64 4) := (B1.cell 0).trans (by show some (Value.int .i64 j.v.kind) = _; rw [K1.out]); have c1_1 : w2.cell? ⟨_, 1, none⟩ = some (.bool false) := (B1.cell 1).trans (by show some (Value.bool j.v.b) = _; rw [K2.out]); have c1_2 : w2.cell? ⟨_, 2, none⟩ = some (.int .i64 0) := (B1.cell 2).trans (by show some (Value.int .i64 j.v.i) = _; rw [K3.out]); have c1_3 : w2.cell? ⟨_, 3, none⟩ = some (.string ⟨#[]⟩) := (B1.cell 3).trans (by show some (Value.string j.v.t) = _; rw [K4.out]))
      | ((with_reducible refine is_build ?_); refine wpl_build_at (vals := _) (tbl_build 4 false 0 ⟨#[]⟩) rfl _ rfl rfl ?_))
    go_loopw [4] (fun iv wr => ∃ (q : Nat) (A : Option Addr) (c : Nat) (acc : List JV), iv = .int .i64 q ∧ q ≤ j.v.Ln ∧ acc.length = q ∧ Hid (acc.map er = (turL (erL j.l)).take q) ∧ PK w3.heap.size w2.heap.size 25 6 (#[.int .i64 4, .bool false, .int .i64 0, .string ⟨#[]⟩, .slice A acc.length c, .slice none 0 0] : Array Value) (.slice A acc.length c) acc.length (valL acc) acc wr ∧ Below w2.heap.size w3 wr) (fun iv _ => j.v.Ln - (intOf iv).toNat)
    case atStart => exact ⟨0, none, 0, [], rfl, Nat.zero_le _, rfl, Lib.hid rfl, ⟨B3, ⟨rfl, .inl ⟨rfl, rfl⟩⟩, (fun y hy => by cases hy), ⟨Nat.lt_of_lt_of_le (by have := HZ.out; omega) (Nat.le_refl _), Nat.le_refl _⟩⟩, Below.refl _ _⟩
    case round =>
      obtain ⟨_, A, c, acc, rfl, hq, rfl, HAC, HL, hbq⟩ := hrel
      have HL0 : w2.heap.size < w3.heap.size := by have := HZ.out; omega
      have c1_4 : wr.cell? ⟨_, 4, none⟩ = some (.slice j.v.LA j.v.Ln j.v.Lc) := (IBox.below B1 hbq (by have := HZ.out; omega)).cell 4
      by_cases hqL : acc.length < j.v.Ln
      · obtain ⟨bl, off, x, hla, hx, hrg, HX⟩ := jv_elem HJ0 (show acc.length < j.l.length from LL.out ▸ hqL)
        have HXS := Lib.hid (size_l hx)
        have HXZ := Lib.hid (Nat.le_trans (S3.out _ x hx) HSS.out)
        have hblw : bl < w.heap.size := block_lt_of_cell (hrg 0 (.int .i64 x.v.kind) rfl)
        have HB3 : Below w.heap.size w wr := HB.trans (hbq.mono (by have := HZ.out; omega))
        have HS0 : LS w.heap.size bl (off + acc.length * 6) j.cells x.cells.toList wr := ⟨IBox.below B1 hbq (by have := HZ.out; omega), range_below HB3 hrg⟩
        have HSG : Hid (∀ k, k = w.heap.size ∨ k = bl → k < w3.heap.size) := Lib.hid (fun k hk => by have := HZ.out; omega)
        have HSL : Hid (∀ k, k = w.heap.size ∨ k = bl → k < w2.heap.size) := Lib.hid (fun k hk => by have := HZ.out; omega)
        have HX1 := Lib.hid hx
        have HXP := Lib.hid (HPX.out _ _ hx)
        have HLA := Lib.hid hla
        clear hx hla hrg HB3 hblw
        go_wp2
        refine wp_region_S (S := LS w.heap.size bl (off + acc.length * 6) j.cells x.cells.toList) (by kernel_rfl) (fun w5 hh => HS0.to (fun k _ => by rw [hh])) (fun w5 hh hbb HS => ?_)
        have hb := hbb _ (Nat.le_refl _)
        replace hbq := hbq.trans (hb.mono (Nat.le_trans (Nat.le_of_lt HL0) HL.st.2))
        replace HL := HL.below hb
        clear hb hbb hh HS0 c1_4
        refine wpAnyH_take (i := 0) (oi := ⟨some 22, _, _, _, _, _⟩) (v := ?_) rfl (by kernel_rfl) (by kernel_rfl) (by kernel_rfl) (fun _ _ _ h => h) (Or.inl ⟨by kernel_rfl, ?_⟩) (by assumption) ?_
        rotate_left
        · (intro w hSw; (try dsimp only at hSw); go_simp; try with_reducible rfl)
        try simp only [Act.put, List.setIfInBounds_toArray, List.set_cons_zero, List.set_cons_succ]
        refine wpAnyH_take (i := 2) (oi := ⟨some 24, _, _, _, _, _⟩) (v := ?_) rfl (by kernel_rfl) (by kernel_rfl) (by kernel_rfl) (fun _ _ _ h => h) (Or.inl ⟨by kernel_rfl, ?_⟩) (by assumption) ?_
        rotate_left
        · (intro w hSw; (try dsimp only at hSw); go_simp; try with_reducible rfl)
        try simp only [Act.put, List.setIfInBounds_toArray, List.set_cons_zero, List.set_cons_succ]
        refine wpAnyH_take (i := 3) (oi := ⟨some 25, _, _, _, _, _⟩) (v := ?_) rfl (by kernel_rfl) (by kernel_rfl) (by kernel_rfl) (fun _ _ _ h => h) (Or.inl ⟨by kernel_rfl, ?_⟩) (by assumption) ?_
        rotate_left
        · (intro w hSw; (try dsimp only at hSw); have : w.cell? ⟨_, 4, none⟩ = some (.slice (some ⟨bl, off, none⟩) j.v.Ln j.v.Lc) := (by rw [← HLA.out]; exact hSw.1.cell 4); go_simp; try with_reducible rfl)
        try simp only [Act.put, List.setIfInBounds_toArray, List.set_cons_zero, List.set_cons_succ]
        refine wpAnyH_take (i := 4) (oi := ⟨some 26, _, _, _, _, _⟩) (v := ?_) rfl (by kernel_rfl) (by kernel_rfl) (by kernel_rfl) (fun _ _ _ h => h) (Or.inl ⟨by kernel_rfl, ?_⟩) (by assumption) ?_
        rotate_left
        · (intro w hSw; (try dsimp only at hSw); go_simp; try with_reducible rfl)
        try simp only [Act.put, List.setIfInBounds_toArray, List.set_cons_zero, List.set_cons_succ]
        refine wpAnyH_take (i := 5) (oi := ⟨some 27, _, _, _, _, _⟩) (v := ?_) rfl (by kernel_rfl) (by kernel_rfl) (by kernel_rfl) (fun _ _ _ h => h) (Or.inl ⟨by kernel_rfl, ?_⟩) (by assumption) ?_
        rotate_left
        · (intro w hSw; (try dsimp only at hSw); go_simp; try with_reducible rfl)
        try simp only [Act.put, List.setIfInBounds_toArray, List.set_cons_zero, List.set_cons_succ]
        refine wpAnyH_take (i := 6) (oi := ⟨some 28, _, _, _, _, _⟩) (v := _) rfl (by kernel_rfl) (by kernel_rfl) (by kernel_rfl) (fun _ _ _ h => h) (yields_rangeS (by kernel_rfl) _ _ rfl _ _ rfl _ _ (fun _ h => h.2) Tryz.underlying25 rfl info_value) (by assumption) ?_
        try simp only [Act.put, List.setIfInBounds_toArray, List.set_cons_zero, List.set_cons_succ]
        refine wpAnyH_ready (rs := [1, 7]) (by kernel_rfl) (by simp) ?_
        refine AllReadyH.cons (o := ⟨some 23, _, _, _, _, _⟩) rfl (fun K hK => ?_) ?_
        · have cg : _ = some (Value.slice A acc.length c) := HL.box.cell 4
          go_simp
          clear cg
          refine hK.out _ _ HS (fun hS2 => ?_)
          clear hK K hS2
          try simp only [Act.put, List.setIfInBounds_toArray, List.set_cons_zero, List.set_cons_succ]
          refine wpAnyH_ready (rs := [7]) (by kernel_rfl) (by simp) ?_
          refine AllReadyH.cons (o := ⟨some 29, _, _, _, _, _⟩) rfl (fun K hK => ?_) AllReadyH.nil
          go_simp
          (go_at_call 23; (with_reducible refine (IH.out x _ HXS.out (IsJV.below (HB.trans (hbq.mono (by have := HZ.out; omega))) HX) HXZ.out HXP.out).mono ?_); rintro e w9 ⟨k, rfl, HK1, HK2, HK3, hb⟩)
          have HLs := HL.st.2
          have HLo := HL.own
          replace HS := HS.to (fun k hk => hb.block k (HS.lt hk))
          replace HL := HL.below hb
          replace hbq := hbq.trans (hb.mono (Nat.le_trans (Nat.le_of_lt HL0) HLs))
          clear hb
          have HKO : Off (fun q => q < w3.heap.size ∨ (Value.slice A acc.length c).ownBlock = some q) k := Off.mono (fun q e => e.elim (fun h => Nat.lt_of_lt_of_le h HLs) (fun h => (own_in HLo h).2)) HK3
          clear HLs HLo HK3
          refine hK.out _ _ HS (fun hS2 => ?_)
          clear hK K hS2
          try simp only [Act.put, List.setIfInBounds_toArray, List.set_cons_zero, List.set_cons_succ]
          refine wpAnyH_ready (rs := [8]) (by kernel_rfl) (by simp) ?_
          refine AllReadyH.cons (o := ⟨some 30, _, _, _, _, _⟩) rfl (fun K hK => ?_) AllReadyH.nil
          simp only [Region.wanted, if_true]
          refine op_slice_at 1 _ _ ie _ (by rw [hie3]; exact pval_fill k) 22 25 _ rfl rfl rfl hie1 hie2 (by rw [hie3]; decide) (by rw [hie3]; decide) ?_
          intro w10 hw
          have hb := hid_grow hw
          have BN := (hid_alloc hw).1
          replace HK1 := IsJV.below hb HK1
          have HLs := HL.st.2
          have HLo := HL.own
          replace HS := HS.to (fun k hk => hb.block k (HS.lt hk))
          replace HL := HL.below hb
          replace hbq := hbq.trans (hb.mono (Nat.le_trans (Nat.le_of_lt HL0) HLs))
          clear hb
          clear HLs HLo hw
          refine hK.out _ _ HS (fun hS2 => ?_)
          clear hK K hS2
          try simp only [Act.put, List.setIfInBounds_toArray, List.set_cons_zero, List.set_cons_succ]
          refine wpAnyH_ready (rs := [9]) (by kernel_rfl) (by simp) ?_
          refine AllReadyH.cons (o := ⟨some 31, _, _, _, _, _⟩) rfl (fun K hK => ?_) AllReadyH.nil
          simp only [Region.wanted, if_true]
          refine op_append_at _ _ 22 rfl w3.heap.size 25 ie _ 6 88 rfl hie1 hie2 hie3 hie4 rfl (by decide) (.slice A acc.length c) acc.length (valL acc) rfl HL.own _ _ _ _ BN (by rfl) rfl (jv_one _) (by unfold maxLen; omega) (by omega) HL.st.2 ?_
          intro ga cap w11 HO2 hgrow hat hlt
          have hbe := Bes.grown (X := fun q => (Value.slice A acc.length c).ownBlock = some q) hgrow (fun _ h => h)
          have hlo : ∀ q, (Value.slice A acc.length c).ownBlock = some q → w3.heap.size ≤ q := fun q e => (own_in HL.own e).1
          replace HS := HS.to (fun k hk => hbe.block k (HS.lt hk) (fun e => Nat.lt_irrefl _ (Nat.lt_of_lt_of_le (HSG.out k hk) (hlo k e))))
          replace hbq := hbq.trans (Bes.below hbe (fun q e => Nat.le_trans (Nat.le_of_lt HL0) (hlo q e)) (Nat.le_trans (Nat.le_of_lt HL0) HL.st.2))
          have HL2 := HL.more HO2 hbe (hat.elim (fun h => .inl h.symm) (fun h => .inr (congrArg some h))) HK1 HKO
          clear hbe hlo hat hlt HO2 HL hgrow BN
          refine hK.out _ _ HS (fun hS2 => ?_)
          clear hK K hS2
          try simp only [Act.put, List.setIfInBounds_toArray, List.set_cons_zero, List.set_cons_succ]
          refine wpAnyH_take (i := 10) (oi := ⟨some 32, _, _, _, _, _⟩) (v := ?_) rfl (by kernel_rfl) (by kernel_rfl) (by kernel_rfl) (fun _ _ _ h => h) (Or.inl ⟨by kernel_rfl, ?_⟩) (by assumption) ?_
          rotate_left
          · (intro w hSw; (try dsimp only at hSw); go_simp; try with_reducible rfl)
          try simp only [Act.put, List.setIfInBounds_toArray, List.set_cons_zero, List.set_cons_succ]
          refine wpAnyH_ready (rs := [11]) (by kernel_rfl) (by simp) ?_
          refine AllReadyH.cons (o := ⟨none, _, _, _, _, _⟩) rfl (fun K hK => ?_) AllReadyH.nil
          simp only [Region.wanted, if_true]
          refine op_store_cell 22 _ _ rfl w2.heap.size 4 rfl (.slice (some ⟨ga, 0, none⟩) (acc.length + 1) cap) rfl _ _ HL2.box (show 4 < 6 by decide) psz_sv rfl ?_
          intro w12 hw
          have hbe := Bes.row (X := fun q => q = w2.heap.size) hw rfl
          replace HS := HS.to (fun k hk => hbe.block k (HS.lt hk) (fun e => by have h1 := HSL.out k hk; have e2 : k = w2.heap.size := e; omega))
          replace hbq := hbq.trans (Bes.below hbe (fun q e => by have e2 : q = w2.heap.size := e; omega) (Nat.le_trans (Nat.le_of_lt HL0) HL2.st.2))
          have HL3 := PK.put HL2 (arr2 := #[.int .i64 4, .bool false, .int .i64 0, .string ⟨#[]⟩, .slice (some ⟨ga, 0, none⟩) (acc.length + 1) cap, .slice none 0 0]) hw
          clear hbe hw HL2
          refine hK.out _ _ HS (fun hS2 => ?_)
          clear hK K hS2
          try simp only [Act.put, List.setIfInBounds_toArray, List.set_cons_zero, List.set_cons_succ]
          refine wpAnyH_done (by kernel_rfl) ?_ _
          clear HS
          go_wp2
          exact tk_round HL3 HAC.out HK2 HX1.out hqL hbq
        refine AllReadyH.cons (o := ⟨some 29, _, _, _, _, _⟩) rfl (fun K hK => ?_) AllReadyH.nil
        go_simp
        (go_at_call 23; (with_reducible refine (IH.out x _ HXS.out (IsJV.below (HB.trans (hbq.mono (by have := HZ.out; omega))) HX) HXZ.out HXP.out).mono ?_); rintro e w9 ⟨k, rfl, HK1, HK2, HK3, hb⟩)
        have HLs := HL.st.2
        have HLo := HL.own
        replace HS := HS.to (fun k hk => hb.block k (HS.lt hk))
        replace HL := HL.below hb
        replace hbq := hbq.trans (hb.mono (Nat.le_trans (Nat.le_of_lt HL0) HLs))
        clear hb
        have HKO : Off (fun q => q < w3.heap.size ∨ (Value.slice A acc.length c).ownBlock = some q) k := Off.mono (fun q e => e.elim (fun h => Nat.lt_of_lt_of_le h HLs) (fun h => (own_in HLo h).2)) HK3
        clear HLs HLo HK3
        refine hK.out _ _ HS (fun hS2 => ?_)
        clear hK K hS2
        try simp only [Act.put, List.setIfInBounds_toArray, List.set_cons_zero, List.set_cons_succ]
        refine wpAnyH_ready (rs := [1, 8]) (by kernel_rfl) (by simp) ?_
        refine AllReadyH.cons (o := ⟨some 23, _, _, _, _, _⟩) rfl (fun K hK => ?_) ?_
        · have cg : _ = some (Value.slice A acc.length c) := HL.box.cell 4
          go_simp
          clear cg
          refine hK.out _ _ HS (fun hS2 => ?_)
          clear hK K hS2
          try simp only [Act.put, List.setIfInBounds_toArray, List.set_cons_zero, List.set_cons_succ]
          refine wpAnyH_ready (rs := [8]) (by kernel_rfl) (by simp) ?_
          refine AllReadyH.cons (o := ⟨some 30, _, _, _, _, _⟩) rfl (fun K hK => ?_) AllReadyH.nil
          simp only [Region.wanted, if_true]
          refine op_slice_at 1 _ _ ie _ (by rw [hie3]; exact pval_fill k) 22 25 _ rfl rfl rfl hie1 hie2 (by rw [hie3]; decide) (by rw [hie3]; decide) ?_
          intro w10 hw
          have hb := hid_grow hw
          have BN := (hid_alloc hw).1
          replace HK1 := IsJV.below hb HK1
          have HLs := HL.st.2
          have HLo := HL.own
          replace HS := HS.to (fun k hk => hb.block k (HS.lt hk))
          replace HL := HL.below hb
          replace hbq := hbq.trans (hb.mono (Nat.le_trans (Nat.le_of_lt HL0) HLs))
          clear hb
          clear HLs HLo hw
          refine hK.out _ _ HS (fun hS2 => ?_)
          clear hK K hS2
          try simp only [Act.put, List.setIfInBounds_toArray, List.set_cons_zero, List.set_cons_succ]
          refine wpAnyH_ready (rs := [9]) (by kernel_rfl) (by simp) ?_
          refine AllReadyH.cons (o := ⟨some 31, _, _, _, _, _⟩) rfl (fun K hK => ?_) AllReadyH.nil
          simp only [Region.wanted, if_true]
          refine op_append_at _ _ 22 rfl w3.heap.size 25 ie _ 6 88 rfl hie1 hie2 hie3 hie4 rfl (by decide) (.slice A acc.length c) acc.length (valL acc) rfl HL.own _ _ _ _ BN (by rfl) rfl (jv_one _) (by unfold maxLen; omega) (by omega) HL.st.2 ?_
          intro ga cap w11 HO2 hgrow hat hlt
          have hbe := Bes.grown (X := fun q => (Value.slice A acc.length c).ownBlock = some q) hgrow (fun _ h => h)
          have hlo : ∀ q, (Value.slice A acc.length c).ownBlock = some q → w3.heap.size ≤ q := fun q e => (own_in HL.own e).1
          replace HS := HS.to (fun k hk => hbe.block k (HS.lt hk) (fun e => Nat.lt_irrefl _ (Nat.lt_of_lt_of_le (HSG.out k hk) (hlo k e))))
          replace hbq := hbq.trans (Bes.below hbe (fun q e => Nat.le_trans (Nat.le_of_lt HL0) (hlo q e)) (Nat.le_trans (Nat.le_of_lt HL0) HL.st.2))
          have HL2 := HL.more HO2 hbe (hat.elim (fun h => .inl h.symm) (fun h => .inr (congrArg some h))) HK1 HKO
          clear hbe hlo hat hlt HO2 HL hgrow BN
          refine hK.out _ _ HS (fun hS2 => ?_)
          clear hK K hS2
          try simp only [Act.put, List.setIfInBounds_toArray, List.set_cons_zero, List.set_cons_succ]
          refine wpAnyH_take (i := 10) (oi := ⟨some 32, _, _, _, _, _⟩) (v := ?_) rfl (by kernel_rfl) (by kernel_rfl) (by kernel_rfl) (fun _ _ _ h => h) (Or.inl ⟨by kernel_rfl, ?_⟩) (by assumption) ?_
          rotate_left
          · (intro w hSw; (try dsimp only at hSw); go_simp; try with_reducible rfl)
          try simp only [Act.put, List.setIfInBounds_toArray, List.set_cons_zero, List.set_cons_succ]
          refine wpAnyH_ready (rs := [11]) (by kernel_rfl) (by simp) ?_
          refine AllReadyH.cons (o := ⟨none, _, _, _, _, _⟩) rfl (fun K hK => ?_) AllReadyH.nil
          simp only [Region.wanted, if_true]
          refine op_store_cell 22 _ _ rfl w2.heap.size 4 rfl (.slice (some ⟨ga, 0, none⟩) (acc.length + 1) cap) rfl _ _ HL2.box (show 4 < 6 by decide) psz_sv rfl ?_
          intro w12 hw
          have hbe := Bes.row (X := fun q => q = w2.heap.size) hw rfl
          replace HS := HS.to (fun k hk => hbe.block k (HS.lt hk) (fun e => by have h1 := HSL.out k hk; have e2 : k = w2.heap.size := e; omega))
          replace hbq := hbq.trans (Bes.below hbe (fun q e => by have e2 : q = w2.heap.size := e; omega) (Nat.le_trans (Nat.le_of_lt HL0) HL2.st.2))
          have HL3 := PK.put HL2 (arr2 := #[.int .i64 4, .bool false, .int .i64 0, .string ⟨#[]⟩, .slice (some ⟨ga, 0, none⟩) (acc.length + 1) cap, .slice none 0 0]) hw
          clear hbe hw HL2
          refine hK.out _ _ HS (fun hS2 => ?_)
          clear hK K hS2
          try simp only [Act.put, List.setIfInBounds_toArray, List.set_cons_zero, List.set_cons_succ]
          refine wpAnyH_done (by kernel_rfl) ?_ _
          clear HS
          go_wp2
          exact tk_round HL3 HAC.out HK2 HX1.out hqL hbq
        refine AllReadyH.cons (o := ⟨some 30, _, _, _, _, _⟩) rfl (fun K hK => ?_) AllReadyH.nil
        simp only [Region.wanted, if_true]
        refine op_slice_at 1 _ _ ie _ (by rw [hie3]; exact pval_fill k) 22 25 _ rfl rfl rfl hie1 hie2 (by rw [hie3]; decide) (by rw [hie3]; decide) ?_
        intro w10 hw
        have hb := hid_grow hw
        have BN := (hid_alloc hw).1
        replace HK1 := IsJV.below hb HK1
        have HLs := HL.st.2
        have HLo := HL.own
        replace HS := HS.to (fun k hk => hb.block k (HS.lt hk))
        replace HL := HL.below hb
        replace hbq := hbq.trans (hb.mono (Nat.le_trans (Nat.le_of_lt HL0) HLs))
        clear hb
        clear HLs HLo hw
        refine hK.out _ _ HS (fun hS2 => ?_)
        clear hK K hS2
        try simp only [Act.put, List.setIfInBounds_toArray, List.set_cons_zero, List.set_cons_succ]
        refine wpAnyH_ready (rs := [1]) (by kernel_rfl) (by simp) ?_
        refine AllReadyH.cons (o := ⟨some 23, _, _, _, _, _⟩) rfl (fun K hK => ?_) AllReadyH.nil
        have cg : _ = some (Value.slice A acc.length c) := HL.box.cell 4
        go_simp
        clear cg
        refine hK.out _ _ HS (fun hS2 => ?_)
        clear hK K hS2
        try simp only [Act.put, List.setIfInBounds_toArray, List.set_cons_zero, List.set_cons_succ]
        refine wpAnyH_ready (rs := [9]) (by kernel_rfl) (by simp) ?_
        refine AllReadyH.cons (o := ⟨some 31, _, _, _, _, _⟩) rfl (fun K hK => ?_) AllReadyH.nil
        simp only [Region.wanted, if_true]
        refine op_append_at _ _ 22 rfl w3.heap.size 25 ie _ 6 88 rfl hie1 hie2 hie3 hie4 rfl (by decide) (.slice A acc.length c) acc.length (valL acc) rfl HL.own _ _ _ _ BN (by rfl) rfl (jv_one _) (by unfold maxLen; omega) (by omega) HL.st.2 ?_
        intro ga cap w11 HO2 hgrow hat hlt
        have hbe := Bes.grown (X := fun q => (Value.slice A acc.length c).ownBlock = some q) hgrow (fun _ h => h)
        have hlo : ∀ q, (Value.slice A acc.length c).ownBlock = some q → w3.heap.size ≤ q := fun q e => (own_in HL.own e).1
        replace HS := HS.to (fun k hk => hbe.block k (HS.lt hk) (fun e => Nat.lt_irrefl _ (Nat.lt_of_lt_of_le (HSG.out k hk) (hlo k e))))
        replace hbq := hbq.trans (Bes.below hbe (fun q e => Nat.le_trans (Nat.le_of_lt HL0) (hlo q e)) (Nat.le_trans (Nat.le_of_lt HL0) HL.st.2))
        have HL2 := HL.more HO2 hbe (hat.elim (fun h => .inl h.symm) (fun h => .inr (congrArg some h))) HK1 HKO
        clear hbe hlo hat hlt HO2 HL hgrow BN
        refine hK.out _ _ HS (fun hS2 => ?_)
        clear hK K hS2
        try simp only [Act.put, List.setIfInBounds_toArray, List.set_cons_zero, List.set_cons_succ]
        refine wpAnyH_take (i := 10) (oi := ⟨some 32, _, _, _, _, _⟩) (v := ?_) rfl (by kernel_rfl) (by kernel_rfl) (by kernel_rfl) (fun _ _ _ h => h) (Or.inl ⟨by kernel_rfl, ?_⟩) (by assumption) ?_
        rotate_left
        · (intro w hSw; (try dsimp only at hSw); go_simp; try with_reducible rfl)
        try simp only [Act.put, List.setIfInBounds_toArray, List.set_cons_zero, List.set_cons_succ]
        refine wpAnyH_ready (rs := [11]) (by kernel_rfl) (by simp) ?_
        refine AllReadyH.cons (o := ⟨none, _, _, _, _, _⟩) rfl (fun K hK => ?_) AllReadyH.nil
        simp only [Region.wanted, if_true]
        refine op_store_cell 22 _ _ rfl w2.heap.size 4 rfl (.slice (some ⟨ga, 0, none⟩) (acc.length + 1) cap) rfl _ _ HL2.box (show 4 < 6 by decide) psz_sv rfl ?_
        intro w12 hw
        have hbe := Bes.row (X := fun q => q = w2.heap.size) hw rfl
        replace HS := HS.to (fun k hk => hbe.block k (HS.lt hk) (fun e => by have h1 := HSL.out k hk; have e2 : k = w2.heap.size := e; omega))
        replace hbq := hbq.trans (Bes.below hbe (fun q e => by have e2 : q = w2.heap.size := e; omega) (Nat.le_trans (Nat.le_of_lt HL0) HL2.st.2))
        have HL3 := PK.put HL2 (arr2 := #[.int .i64 4, .bool false, .int .i64 0, .string ⟨#[]⟩, .slice (some ⟨ga, 0, none⟩) (acc.length + 1) cap, .slice none 0 0]) hw
        clear hbe hw HL2
        refine hK.out _ _ HS (fun hS2 => ?_)
        clear hK K hS2
        try simp only [Act.put, List.setIfInBounds_toArray, List.set_cons_zero, List.set_cons_succ]
        refine wpAnyH_done (by kernel_rfl) ?_ _
        clear HS
        go_wp2
        exact tk_round HL3 HAC.out HK2 HX1.out hqL hbq
      · have hqe := Lib.hid (Nat.le_antisymm hq (Nat.le_of_not_lt hqL))
        have c1_5 : wr.cell? ⟨_, 5, none⟩ = some (.slice j.v.FA 0 j.v.Fc) := ((IBox.below B1 hbq (by have := HZ.out; omega)).cell 5).trans (by show some (Value.slice j.v.FA j.v.Fn j.v.Fc) = _; rw [F0.out])
        replace B2 := IBox.below B2 hbq (by have := HZ.out; omega)
        replace HB := HB.trans (hbq.mono (by have := HZ.out; omega))
        have HFJ := pk_list HL (by unfold reach; omega)
        have HFO := HFJ.2
        replace HFJ := HFJ.1
        have B3 := HL.box
        clear HL
        go_wp2
        go_loopw [5] (fun iv2 wr2 => iv2 = .int .i64 (-1) ∧ wr = wr2) (fun _ _ => 0)
        case atStart => exact ⟨rfl, rfl⟩
        case round =>
          obtain ⟨rfl, rfl⟩ := hrel
          go_wp2_with (first
            | ((with_reducible refine is_load ?_); refine wpl_load_box rfl 25 (.tmp 3) rfl _ rfl _ (listJ A c acc).cells _ B3 Tryz.underlying25 rfl info_value ?_)
            | ((with_reducible refine is_store ?_); refine wpl_store_at rfl 25 (.tmp 2) (.tmp 60) rfl w1.heap.size (listJ A c acc).cells rfl rfl _ _ B2 info_value rfl (jv_one _) ?_; intro w5 hw; have hbe := Bes.row (X := fun q => q = w1.heap.size) hw rfl; replace HB := HB.trans (Bes.below hbe (fun q e => by have e2 : q = w1.heap.size := e; have := HZ.out; omega) HB.size); replace B2 := hid_row hw B2; replace HFJ := IsJV.bes hbe HFJ (Off.mono (fun q e => by have e2 : q = w1.heap.size := e; have := HZ.out; show q < w3.heap.size; omega) HFO); clear hw hbe))
          refine bodyPost_ret (results_box rfl _ _ w1.heap.size _ (listJ A c acc).cells _ rfl B2 Tryz.underlying25 rfl info_value) rfl ?_
          exact ⟨listJ A c acc, rfl, HFJ, (er_pl A c acc _ HAC.out (by rw [turL_map, List.length_map, erL_len, ← LL.out, hqe.out])).trans HK.out.symm, Off.mono (fun q e => by have := HZ.out; show q < w3.heap.size; have e2 : q < w.heap.size := e; omega) HFO, HB⟩
set_option maxRecDepth 100000 in
set_option maxHeartbeats 8000000 in
theorem tu_obj {j : JV} {w : World} (HJ : IsJV w j) (hs : SzT (er j) ≤ 1048576) (IH : Hid (∀ (x : JV) (w : World), SizeOf.sizeOf x < SizeOf.sizeOf j → IsJV w x → SzT (er x) ≤ 1048576 → plnT (er x) = er x → Calls Tryz.prog 23 #[.agg x.cells] w (TuV x w))) {ns : List ByteArray} {vs : List JT} (he : er j = .mk 5 false 0 ⟨#[]⟩ [] ns vs) (hp : ∀ x ∈ vs, plnT x = x) : Calls Tryz.prog 23 #[.agg j.cells] w (TuV j w) := by
    obtain ⟨l1, l2, l3, l4, l5⟩ := jv_lens HJ
    obtain ⟨s1, s2, s3, s4⟩ := sz_parts j
    have hI : I64 j.v.kind ∧ I64 j.v.i ∧ j.v.t.size ≤ reach := by obtain ⟨v, _, _, _⟩ := j; unfold IsJV at HJ; exact ⟨HJ.1.1, HJ.1.2.1, HJ.1.2.2.1⟩
    have HI := Lib.hid hI
    have LL := Lib.hid l1
    have LV := Lib.hid l2
    have LN := Lib.hid l3
    have S3 := Lib.hid s3
    have S4 := Lib.hid s4
    have HSS := Lib.hid hs
    have hLn : j.v.Ln ≤ 1048576 := by omega
    have hFn : j.v.Fn ≤ 1048576 := by omega
    have HB := Below.refl w.heap.size w
    have HJ0 := HJ
    have hm := er_mk j
    rw [he] at hm
    injection hm with m1 m2 m3 m4 m5 m6 m7
    have HK : Hid (turT (er j) = .mk 5 false 0 ⟨#[]⟩ [] j.ns.reverse (turL (erL j.vs)).reverse) := Lib.hid (by rw [he, m6, m7]; simp [turT, turL])
    have HPX : Hid (∀ (i : Nat) (x : JV), j.vs[i]? = some x → plnT (er x) = er x) := Lib.hid (fun i x hx => hp _ (by rw [m7, erL_map]; exact List.mem_map_of_mem (List.mem_of_getElem? hx)))
    have L0 : Hid (j.v.Ln = 0) := Lib.hid (by rw [l1, ← erL_len, ← m5]; rfl)
    have K1 := Lib.hid m1.symm
    have K2 := Lib.hid m2.symm
    have K3 := Lib.hid m3.symm
    have K4 := Lib.hid m4.symm
    clear l1 l2 l3 l4 l5 s1 s2 s3 s4 hI hs he m1 m2 m3 m4 m5 m6 m7
    clear hp
    obtain ⟨ie, z, hie1, hie2, hie3, hie4, hz⟩ := fld_slice0
    subst hz
    go_enter Tryz.func23, Tryz.ntmps23
    go_wp2_with (first
      | (refine wpl_newbox 3 rfl rfl 25 rfl rfl (.tmp 14) rfl _ zeroV (leafJ 5 false 0 ⟨#[]⟩).cells rfl rfl info_value rfl (jv_one _) ?_; intro w3 hw; have hb := hid_grow hw; have B3 := (hid_alloc hw).1; have hz3 := Lib.hid (hid_alloc hw).2.1; replace B1 := IBox.below B1 hb (IBox.lt B1); replace B2 := IBox.below B2 hb (IBox.lt B2); replace HB := HB.trans (hb.mono HB.size); replace HJ := HJ.below hb; clear hb hw; clear c1_0 c1_1 c1_2 c1_3; have hzz : w1.heap.size = w.heap.size + 1 ∧ w2.heap.size = w.heap.size + 2 ∧ w3.heap.size = w.heap.size + 3 := (by have := hz1.out; have := hz2.out; have := hz3.out; omega); have HZ := Lib.hid hzz; clear hzz hz1 hz2 hz3)
      | (refine wpl_box_at rfl 25 (.tmp 0) rfl _ rfl ?_; intro w1 hw; have hb := hid_grow hw; have B1 := (hid_alloc hw).1; have hz1 := Lib.hid (hid_alloc hw).2.1; replace HB := HB.trans (hb.mono HB.size); replace HJ := HJ.below hb; clear hb hw)
      | ((with_reducible refine is_alloc ?_); refine wpl_alloc_at (o := ⟨some 2, _, _, _, _, _⟩) rfl 25 rfl _ zeroV ?_; intro w2 hw; have hb := hid_grow hw; have B2 := hid_alloc0 hw; have hz2 := Lib.hid (hid_alloc hw).2.1; replace B1 := IBox.below B1 hb (IBox.lt B1); replace HB := HB.trans (hb.mono HB.size); replace HJ := HJ.below hb; clear hb hw; have c1_0 : w2.cell? ⟨_, 0, none⟩ = some (.int .i64 5) := (B1.cell 0).trans (by show some (Value.int .i64 j.v.kind) = _; rw [K1.out]); have c1_1 : w2.cell? ⟨_, 1, none⟩ = some (.bool false) := (B1.cell 1).trans (by show some (Value.bool j.v.b) = _; rw [K2.out]); have c1_2 : w2.cell? ⟨_, 2, none⟩ = some (.int .i64 0) := (B1.cell 2).trans (by show some (Value.int .i64 j.v.i) = _; rw [K3.out]); have c1_3 : w2.cell? ⟨_, 3, none⟩ = some (.string ⟨#[]⟩) := (B1.cell 3).trans (by show some (Value.string j.v.t) = _; rw [K4.out]))
      | ((with_reducible refine is_build ?_); refine wpl_build_at (vals := _) (tbl_build 5 false 0 ⟨#[]⟩) rfl _ rfl rfl ?_))
    have c1_4 : w3.cell? ⟨_, 4, none⟩ = some (.slice j.v.LA 0 j.v.Lc) := (B1.cell 4).trans (by show some (Value.slice j.v.LA j.v.Ln j.v.Lc) = _; rw [L0.out])
    go_loopw [4] (fun iv wr => iv = .int .i64 0 ∧ w3 = wr) (fun _ _ => 0)
    case atStart => exact ⟨rfl, rfl⟩
    case round =>
      obtain ⟨rfl, rfl⟩ := hrel
      have c1_5 : w3.cell? ⟨_, 5, none⟩ = some (.slice j.v.FA j.v.Fn j.v.Fc) := B1.cell 5
      go_wp2
      clear c1_4 c1_5
      go_loopw [5] (fun iv wr => ∃ (A : Option Addr) (c : Nat) (L : List (ByteArray × JV)), ((iv = .int .i64 (-1) ∧ L.length = j.v.Fn) ∨ ∃ i : Nat, iv = .int .i64 (i : Int) ∧ L.length + i + 1 = j.v.Fn) ∧ Hid (L.map (·.1) = j.ns.reverse.take L.length) ∧ Hid ((L.map fun p => er p.2) = (turL (erL j.vs)).reverse.take L.length) ∧ PK w3.heap.size w2.heap.size 52 7 (#[.int .i64 5, .bool false, .int .i64 0, .string ⟨#[]⟩, .slice none 0 0, .slice A L.length c] : Array Value) (.slice A L.length c) L.length (fldL L) (L.map (·.2)) wr ∧ Below w2.heap.size w3 wr) (fun iv _ => (intOf iv + 1).toNat)
      case atStart => exact ⟨none, 0, [], by rcases Nat.eq_zero_or_pos j.v.Fn with h0 | h0; exact .inl ⟨by rw [h0]; rfl, h0.symm⟩; exact .inr ⟨j.v.Fn - 1, by congr 1; omega, by show 0 + (j.v.Fn - 1) + 1 = _; omega⟩, Lib.hid rfl, Lib.hid rfl, ⟨B3, ⟨rfl, .inl ⟨rfl, rfl⟩⟩, (fun y hy => by cases hy), ⟨Nat.lt_of_lt_of_le (by have := HZ.out; omega) (Nat.le_refl _), Nat.le_refl _⟩⟩, Below.refl _ _⟩
      case round =>
        obtain ⟨A, c, L, hiv, HAN, HAC, HL, hbq⟩ := hrel
        have HL0 : w2.heap.size < w3.heap.size := by have := HZ.out; omega
        have c1_5 : wr.cell? ⟨_, 5, none⟩ = some (.slice j.v.FA j.v.Fn j.v.Fc) := (IBox.below B1 hbq (by have := HZ.out; omega)).cell 5
        rcases hiv with ⟨rfl, hq⟩ | ⟨i, rfl, hq⟩
        · have hqe := Lib.hid hq
          replace B2 := IBox.below B2 hbq (by have := HZ.out; omega)
          replace HB := HB.trans (hbq.mono (by have := HZ.out; omega))
          have HFJ := pk_obj HL (fun p hp => by obtain ⟨i, hi⟩ := List.getElem?_of_mem (List.mem_map.2 ⟨p, hp, rfl⟩ : p.1 ∈ L.map (·.1)); rw [HAN.out] at hi; obtain ⟨i2, hi2⟩ := List.getElem?_of_mem (List.mem_reverse.1 (List.mem_of_getElem? (take_get hi))); exact jv_nm_le HJ0 hi2) (by unfold reach; omega)
          have HFO := HFJ.2
          replace HFJ := HFJ.1
          have B3 := HL.box
          clear HL
          go_wp2_with (first
            | ((with_reducible refine is_load ?_); refine wpl_load_box rfl 25 (.tmp 3) rfl _ rfl _ (objJ A c L).cells _ B3 Tryz.underlying25 rfl info_value ?_)
            | ((with_reducible refine is_store ?_); refine wpl_store_at rfl 25 (.tmp 2) (.tmp 60) rfl w1.heap.size (objJ A c L).cells rfl rfl _ _ B2 info_value rfl (jv_one _) ?_; intro w5 hw; have hbe := Bes.row (X := fun q => q = w1.heap.size) hw rfl; replace HB := HB.trans (Bes.below hbe (fun q e => by have e2 : q = w1.heap.size := e; have := HZ.out; omega) HB.size); replace B2 := hid_row hw B2; replace HFJ := IsJV.bes hbe HFJ (Off.mono (fun q e => by have e2 : q = w1.heap.size := e; have := HZ.out; show q < w3.heap.size; omega) HFO); clear hw hbe))
          refine bodyPost_ret (results_box rfl _ _ w1.heap.size _ (objJ A c L).cells _ rfl B2 Tryz.underlying25 rfl info_value) rfl ?_
          exact ⟨objJ A c L, rfl, HFJ, (er_po A c L _ _ HAN.out HAC.out (by rw [List.length_reverse, turL_map, List.length_map, erL_len, ← LV.out, hqe.out]) (by rw [List.length_reverse, LN.out, ← LV.out, hqe.out])).trans HK.out.symm, Off.mono (fun q e => by have := HZ.out; show q < w3.heap.size; have e2 : q < w.heap.size := e; omega) HFO, HB⟩
        · obtain ⟨bl, off, nm, x, hla, hx, hn, hcn, hrg, HX⟩ := jv_fld HJ0 (show i < j.vs.length by have := LV.out; omega)
          have HXS := Lib.hid (size_vs hx)
          have HXZ := Lib.hid (Nat.le_trans (S4.out _ x hx) HSS.out)
          have hblw : bl < w.heap.size := block_lt_of_cell hcn
          have HB3 : Below w.heap.size w wr := HB.trans (hbq.mono (by have := HZ.out; omega))
          have HS0 : LSO w.heap.size bl (off + i * 7) j.cells nm x.cells.toList wr := ⟨IBox.below B1 hbq (by have := HZ.out; omega), cell_below HB3 hcn, range_below HB3 hrg⟩
          have HSG : Hid (∀ k, k = w.heap.size ∨ k = bl → k < w3.heap.size) := Lib.hid (fun k hk => by have := HZ.out; omega)
          have HSL : Hid (∀ k, k = w.heap.size ∨ k = bl → k < w2.heap.size) := Lib.hid (fun k hk => by have := HZ.out; omega)
          have HX1 := Lib.hid hx
          have HXP := Lib.hid (HPX.out _ _ hx)
          have HX2 := Lib.hid hn
          have HLA := Lib.hid hla
          clear hx hn hla hcn hrg HB3 hblw
          have hiF : i < j.v.Fn := by omega
          go_wp2
          refine wp_region_S (S := LSO w.heap.size bl (off + i * 7) j.cells nm x.cells.toList) (by kernel_rfl) (fun w5 hh => HS0.to (fun k _ => by rw [hh])) (fun w5 hh hbb HS => ?_)
          have hb := hbb _ (Nat.le_refl _)
          replace hbq := hbq.trans (hb.mono (Nat.le_trans (Nat.le_of_lt HL0) HL.st.2))
          replace HL := HL.below hb
          clear hb hbb hh HS0 c1_5
          refine wpAnyH_take (i := 0) (oi := ⟨some 41, _, _, _, _, _⟩) (v := ?_) rfl (by kernel_rfl) (by kernel_rfl) (by kernel_rfl) (fun _ _ _ h => h) (Or.inl ⟨by kernel_rfl, ?_⟩) (by assumption) ?_
          rotate_left
          · (intro w hSw; (try dsimp only at hSw); go_simp; try with_reducible rfl)
          try simp only [Act.put, List.setIfInBounds_toArray, List.set_cons_zero, List.set_cons_succ]
          refine wpAnyH_take (i := 2) (oi := ⟨some 43, _, _, _, _, _⟩) (v := ?_) rfl (by kernel_rfl) (by kernel_rfl) (by kernel_rfl) (fun _ _ _ h => h) (Or.inl ⟨by kernel_rfl, ?_⟩) (by assumption) ?_
          rotate_left
          · (intro w hSw; (try dsimp only at hSw); go_simp; try with_reducible rfl)
          try simp only [Act.put, List.setIfInBounds_toArray, List.set_cons_zero, List.set_cons_succ]
          refine wpAnyH_take (i := 3) (oi := ⟨some 44, _, _, _, _, _⟩) (v := ?_) rfl (by kernel_rfl) (by kernel_rfl) (by kernel_rfl) (fun _ _ _ h => h) (Or.inl ⟨by kernel_rfl, ?_⟩) (by assumption) ?_
          rotate_left
          · (intro w hSw; (try dsimp only at hSw); have : w.cell? ⟨_, 5, none⟩ = some (.slice (some ⟨bl, off, none⟩) j.v.Fn j.v.Fc) := (by rw [← HLA.out]; exact hSw.1.cell 5); go_simp; try with_reducible rfl)
          try simp only [Act.put, List.setIfInBounds_toArray, List.set_cons_zero, List.set_cons_succ]
          refine wpAnyH_take (i := 4) (oi := ⟨some 45, _, _, _, _, _⟩) (v := ?_) rfl (by kernel_rfl) (by kernel_rfl) (by kernel_rfl) (fun _ _ _ h => h) (Or.inl ⟨by kernel_rfl, ?_⟩) (by assumption) ?_
          rotate_left
          · (intro w hSw; (try dsimp only at hSw); go_simp; try with_reducible rfl)
          try simp only [Act.put, List.setIfInBounds_toArray, List.set_cons_zero, List.set_cons_succ]
          refine wpAnyH_take (i := 5) (oi := ⟨some 46, _, _, _, _, _⟩) (v := ?_) rfl (by kernel_rfl) (by kernel_rfl) (by kernel_rfl) (fun _ _ _ h => h) (Or.inl ⟨by kernel_rfl, ?_⟩) (by assumption) ?_
          rotate_left
          · (intro w hSw; (try dsimp only at hSw); go_simp; try with_reducible rfl)
          try simp only [Act.put, List.setIfInBounds_toArray, List.set_cons_zero, List.set_cons_succ]
          refine wpAnyH_take (i := 6) (oi := ⟨some 47, _, _, _, _, _⟩) (v := ?_) rfl (by kernel_rfl) (by kernel_rfl) (by kernel_rfl) (fun _ _ _ h => h) (Or.inl ⟨by kernel_rfl, ?_⟩) (by assumption) ?_
          rotate_left
          · (intro w hSw; (try dsimp only at hSw); go_simp; try with_reducible rfl)
          try simp only [Act.put, List.setIfInBounds_toArray, List.set_cons_zero, List.set_cons_succ]
          refine wpAnyH_take (i := 7) (oi := ⟨some 48, _, _, _, _, _⟩) (v := ?_) rfl (by kernel_rfl) (by kernel_rfl) (by kernel_rfl) (fun _ _ _ h => h) (Or.inl ⟨by kernel_rfl, ?_⟩) (by assumption) ?_
          rotate_left
          · (intro w hSw; (try dsimp only at hSw); have := hSw.2.1; go_simp; try with_reducible rfl)
          try simp only [Act.put, List.setIfInBounds_toArray, List.set_cons_zero, List.set_cons_succ]
          refine wpAnyH_take (i := 8) (oi := ⟨some 49, _, _, _, _, _⟩) (v := ?_) rfl (by kernel_rfl) (by kernel_rfl) (by kernel_rfl) (fun _ _ _ h => h) (Or.inl ⟨by kernel_rfl, ?_⟩) (by assumption) ?_
          rotate_left
          · (intro w hSw; (try dsimp only at hSw); go_simp; try with_reducible rfl)
          try simp only [Act.put, List.setIfInBounds_toArray, List.set_cons_zero, List.set_cons_succ]
          refine wpAnyH_take (i := 9) (oi := ⟨some 50, _, _, _, _, _⟩) (v := ?_) rfl (by kernel_rfl) (by kernel_rfl) (by kernel_rfl) (fun _ _ _ h => h) (Or.inl ⟨by kernel_rfl, ?_⟩) (by assumption) ?_
          rotate_left
          · (intro w hSw; (try dsimp only at hSw); have : w.cell? ⟨_, 5, none⟩ = some (.slice (some ⟨bl, off, none⟩) j.v.Fn j.v.Fc) := (by rw [← HLA.out]; exact hSw.1.cell 5); go_simp; try with_reducible rfl)
          try simp only [Act.put, List.setIfInBounds_toArray, List.set_cons_zero, List.set_cons_succ]
          refine wpAnyH_take (i := 10) (oi := ⟨some 51, _, _, _, _, _⟩) (v := ?_) rfl (by kernel_rfl) (by kernel_rfl) (by kernel_rfl) (fun _ _ _ h => h) (Or.inl ⟨by kernel_rfl, ?_⟩) (by assumption) ?_
          rotate_left
          · (intro w hSw; (try dsimp only at hSw); go_simp; try with_reducible rfl)
          try simp only [Act.put, List.setIfInBounds_toArray, List.set_cons_zero, List.set_cons_succ]
          refine wpAnyH_take (i := 11) (oi := ⟨some 52, _, _, _, _, _⟩) (v := ?_) rfl (by kernel_rfl) (by kernel_rfl) (by kernel_rfl) (fun _ _ _ h => h) (Or.inl ⟨by kernel_rfl, ?_⟩) (by assumption) ?_
          rotate_left
          · (intro w hSw; (try dsimp only at hSw); go_simp; try with_reducible rfl)
          try simp only [Act.put, List.setIfInBounds_toArray, List.set_cons_zero, List.set_cons_succ]
          refine wpAnyH_take (i := 12) (oi := ⟨some 53, _, _, _, _, _⟩) (v := ?_) rfl (by kernel_rfl) (by kernel_rfl) (by kernel_rfl) (fun _ _ _ h => h) (Or.inl ⟨by kernel_rfl, ?_⟩) (by assumption) ?_
          rotate_left
          · (intro w hSw; (try dsimp only at hSw); go_simp; try with_reducible rfl)
          try simp only [Act.put, List.setIfInBounds_toArray, List.set_cons_zero, List.set_cons_succ]
          refine wpAnyH_take (i := 13) (oi := ⟨some 54, _, _, _, _, _⟩) (v := _) rfl (by kernel_rfl) (by kernel_rfl) (by kernel_rfl) (fun _ _ _ h => h) (yields_rangeS (by kernel_rfl) _ _ rfl _ _ rfl _ _ (fun _ h => h.2.2) Tryz.underlying25 rfl info_value) (by assumption) ?_
          try simp only [Act.put, List.setIfInBounds_toArray, List.set_cons_zero, List.set_cons_succ]
          refine wpAnyH_ready (rs := [1, 14]) (by kernel_rfl) (by simp) ?_
          refine AllReadyH.cons (o := ⟨some 42, _, _, _, _, _⟩) rfl (fun K hK => ?_) ?_
          · have cg : _ = some (Value.slice A L.length c) := HL.box.cell 5
            go_simp
            clear cg
            refine hK.out _ _ HS (fun hS2 => ?_)
            clear hK K hS2
            try simp only [Act.put, List.setIfInBounds_toArray, List.set_cons_zero, List.set_cons_succ]
            refine wpAnyH_ready (rs := [14]) (by kernel_rfl) (by simp) ?_
            refine AllReadyH.cons (o := ⟨some 55, _, _, _, _, _⟩) rfl (fun K hK => ?_) AllReadyH.nil
            go_simp
            (go_at_call 23; (with_reducible refine (IH.out x _ HXS.out (IsJV.below (HB.trans (hbq.mono (by have := HZ.out; omega))) HX) HXZ.out HXP.out).mono ?_); rintro e w9 ⟨k, rfl, HK1, HK2, HK3, hb⟩)
            have HLs := HL.st.2
            have HLo := HL.own
            replace HS := HS.to (fun k hk => hb.block k (HS.lt hk))
            replace HL := HL.below hb
            replace hbq := hbq.trans (hb.mono (Nat.le_trans (Nat.le_of_lt HL0) HLs))
            clear hb
            have HKO : Off (fun q => q < w3.heap.size ∨ (Value.slice A L.length c).ownBlock = some q) k := Off.mono (fun q e => e.elim (fun h => Nat.lt_of_lt_of_le h HLs) (fun h => (own_in HLo h).2)) HK3
            clear HLs HLo HK3
            refine hK.out _ _ HS (fun hS2 => ?_)
            clear hK K hS2
            try simp only [Act.put, List.setIfInBounds_toArray, List.set_cons_zero, List.set_cons_succ]
            refine wpAnyH_take (i := 15) (oi := ⟨some 56, _, _, _, _, _⟩) (v := _) rfl (by kernel_rfl) (by kernel_rfl) (by kernel_rfl) (fun _ _ _ h => h) (yields_build (by kernel_rfl) (fld_build nm k) _ rfl rfl) (by assumption) ?_
            try simp only [Act.put, List.setIfInBounds_toArray, List.set_cons_zero, List.set_cons_succ]
            refine wpAnyH_ready (rs := [16]) (by kernel_rfl) (by simp) ?_
            refine AllReadyH.cons (o := ⟨some 57, _, _, _, _, _⟩) rfl (fun K hK => ?_) AllReadyH.nil
            simp only [Region.wanted, if_true]
            refine op_slice_at 1 _ _ ie _ (by rw [hie3]; exact fld_fill (nm, k)) 23 52 _ rfl rfl rfl hie1 hie2 (by rw [hie3]; decide) (by rw [hie3]; decide) ?_
            intro w10 hw
            have hb := hid_grow hw
            have BN := (hid_alloc hw).1
            replace HK1 := IsJV.below hb HK1
            have HLs := HL.st.2
            have HLo := HL.own
            replace HS := HS.to (fun k hk => hb.block k (HS.lt hk))
            replace HL := HL.below hb
            replace hbq := hbq.trans (hb.mono (Nat.le_trans (Nat.le_of_lt HL0) HLs))
            clear hb
            clear HLs HLo hw
            refine hK.out _ _ HS (fun hS2 => ?_)
            clear hK K hS2
            try simp only [Act.put, List.setIfInBounds_toArray, List.set_cons_zero, List.set_cons_succ]
            refine wpAnyH_ready (rs := [17]) (by kernel_rfl) (by simp) ?_
            refine AllReadyH.cons (o := ⟨some 58, _, _, _, _, _⟩) rfl (fun K hK => ?_) AllReadyH.nil
            simp only [Region.wanted, if_true]
            refine op_append_at _ _ 23 rfl w3.heap.size 52 ie _ 7 104 rfl hie1 hie2 hie3 hie4 rfl (by decide) (.slice A L.length c) L.length (fldL L) rfl HL.own _ _ _ _ BN (by rfl) rfl (fld_one _) (by unfold maxLen; omega) (by omega) HL.st.2 ?_
            intro ga cap w11 HO2 hgrow hat hlt
            have hbe := Bes.grown (X := fun q => (Value.slice A L.length c).ownBlock = some q) hgrow (fun _ h => h)
            have hlo : ∀ q, (Value.slice A L.length c).ownBlock = some q → w3.heap.size ≤ q := fun q e => (own_in HL.own e).1
            replace HS := HS.to (fun k hk => hbe.block k (HS.lt hk) (fun e => Nat.lt_irrefl _ (Nat.lt_of_lt_of_le (HSG.out k hk) (hlo k e))))
            replace hbq := hbq.trans (Bes.below hbe (fun q e => Nat.le_trans (Nat.le_of_lt HL0) (hlo q e)) (Nat.le_trans (Nat.le_of_lt HL0) HL.st.2))
            have HL2 := HL.more HO2 hbe (hat.elim (fun h => .inl h.symm) (fun h => .inr (congrArg some h))) HK1 HKO
            clear hbe hlo hat hlt HO2 HL hgrow BN
            refine hK.out _ _ HS (fun hS2 => ?_)
            clear hK K hS2
            try simp only [Act.put, List.setIfInBounds_toArray, List.set_cons_zero, List.set_cons_succ]
            refine wpAnyH_take (i := 18) (oi := ⟨some 59, _, _, _, _, _⟩) (v := ?_) rfl (by kernel_rfl) (by kernel_rfl) (by kernel_rfl) (fun _ _ _ h => h) (Or.inl ⟨by kernel_rfl, ?_⟩) (by assumption) ?_
            rotate_left
            · (intro w hSw; (try dsimp only at hSw); go_simp; try with_reducible rfl)
            try simp only [Act.put, List.setIfInBounds_toArray, List.set_cons_zero, List.set_cons_succ]
            refine wpAnyH_ready (rs := [19]) (by kernel_rfl) (by simp) ?_
            refine AllReadyH.cons (o := ⟨none, _, _, _, _, _⟩) rfl (fun K hK => ?_) AllReadyH.nil
            simp only [Region.wanted, if_true]
            refine op_store_cell 23 _ _ rfl w2.heap.size 5 rfl (.slice (some ⟨ga, 0, none⟩) (L.length + 1) cap) rfl _ _ HL2.box (show 5 < 6 by decide) psz_sf rfl ?_
            intro w12 hw
            have hbe := Bes.row (X := fun q => q = w2.heap.size) hw rfl
            replace HS := HS.to (fun k hk => hbe.block k (HS.lt hk) (fun e => by have h1 := HSL.out k hk; have e2 : k = w2.heap.size := e; omega))
            replace hbq := hbq.trans (Bes.below hbe (fun q e => by have e2 : q = w2.heap.size := e; omega) (Nat.le_trans (Nat.le_of_lt HL0) HL2.st.2))
            have HL3 := PK.put HL2 (arr2 := #[.int .i64 5, .bool false, .int .i64 0, .string ⟨#[]⟩, .slice none 0 0, .slice (some ⟨ga, 0, none⟩) (L.length + 1) cap]) hw
            clear hbe hw HL2
            refine hK.out _ _ HS (fun hS2 => ?_)
            clear hK K hS2
            try simp only [Act.put, List.setIfInBounds_toArray, List.set_cons_zero, List.set_cons_succ]
            refine wpAnyH_done (by kernel_rfl) ?_ _
            clear HS
            go_wp2
            exact to_round HL3 HAN.out HAC.out HK2 HX1.out HX2.out hq LV.out LN.out hbq
          refine AllReadyH.cons (o := ⟨some 55, _, _, _, _, _⟩) rfl (fun K hK => ?_) AllReadyH.nil
          go_simp
          (go_at_call 23; (with_reducible refine (IH.out x _ HXS.out (IsJV.below (HB.trans (hbq.mono (by have := HZ.out; omega))) HX) HXZ.out HXP.out).mono ?_); rintro e w9 ⟨k, rfl, HK1, HK2, HK3, hb⟩)
          have HLs := HL.st.2
          have HLo := HL.own
          replace HS := HS.to (fun k hk => hb.block k (HS.lt hk))
          replace HL := HL.below hb
          replace hbq := hbq.trans (hb.mono (Nat.le_trans (Nat.le_of_lt HL0) HLs))
          clear hb
          have HKO : Off (fun q => q < w3.heap.size ∨ (Value.slice A L.length c).ownBlock = some q) k := Off.mono (fun q e => e.elim (fun h => Nat.lt_of_lt_of_le h HLs) (fun h => (own_in HLo h).2)) HK3
          clear HLs HLo HK3
          refine hK.out _ _ HS (fun hS2 => ?_)
          clear hK K hS2
          try simp only [Act.put, List.setIfInBounds_toArray, List.set_cons_zero, List.set_cons_succ]
          refine wpAnyH_take (i := 15) (oi := ⟨some 56, _, _, _, _, _⟩) (v := _) rfl (by kernel_rfl) (by kernel_rfl) (by kernel_rfl) (fun _ _ _ h => h) (yields_build (by kernel_rfl) (fld_build nm k) _ rfl rfl) (by assumption) ?_
          try simp only [Act.put, List.setIfInBounds_toArray, List.set_cons_zero, List.set_cons_succ]
          refine wpAnyH_ready (rs := [1, 16]) (by kernel_rfl) (by simp) ?_
          refine AllReadyH.cons (o := ⟨some 42, _, _, _, _, _⟩) rfl (fun K hK => ?_) ?_
          · have cg : _ = some (Value.slice A L.length c) := HL.box.cell 5
            go_simp
            clear cg
            refine hK.out _ _ HS (fun hS2 => ?_)
            clear hK K hS2
            try simp only [Act.put, List.setIfInBounds_toArray, List.set_cons_zero, List.set_cons_succ]
            refine wpAnyH_ready (rs := [16]) (by kernel_rfl) (by simp) ?_
            refine AllReadyH.cons (o := ⟨some 57, _, _, _, _, _⟩) rfl (fun K hK => ?_) AllReadyH.nil
            simp only [Region.wanted, if_true]
            refine op_slice_at 1 _ _ ie _ (by rw [hie3]; exact fld_fill (nm, k)) 23 52 _ rfl rfl rfl hie1 hie2 (by rw [hie3]; decide) (by rw [hie3]; decide) ?_
            intro w10 hw
            have hb := hid_grow hw
            have BN := (hid_alloc hw).1
            replace HK1 := IsJV.below hb HK1
            have HLs := HL.st.2
            have HLo := HL.own
            replace HS := HS.to (fun k hk => hb.block k (HS.lt hk))
            replace HL := HL.below hb
            replace hbq := hbq.trans (hb.mono (Nat.le_trans (Nat.le_of_lt HL0) HLs))
            clear hb
            clear HLs HLo hw
            refine hK.out _ _ HS (fun hS2 => ?_)
            clear hK K hS2
            try simp only [Act.put, List.setIfInBounds_toArray, List.set_cons_zero, List.set_cons_succ]
            refine wpAnyH_ready (rs := [17]) (by kernel_rfl) (by simp) ?_
            refine AllReadyH.cons (o := ⟨some 58, _, _, _, _, _⟩) rfl (fun K hK => ?_) AllReadyH.nil
            simp only [Region.wanted, if_true]
            refine op_append_at _ _ 23 rfl w3.heap.size 52 ie _ 7 104 rfl hie1 hie2 hie3 hie4 rfl (by decide) (.slice A L.length c) L.length (fldL L) rfl HL.own _ _ _ _ BN (by rfl) rfl (fld_one _) (by unfold maxLen; omega) (by omega) HL.st.2 ?_
            intro ga cap w11 HO2 hgrow hat hlt
            have hbe := Bes.grown (X := fun q => (Value.slice A L.length c).ownBlock = some q) hgrow (fun _ h => h)
            have hlo : ∀ q, (Value.slice A L.length c).ownBlock = some q → w3.heap.size ≤ q := fun q e => (own_in HL.own e).1
            replace HS := HS.to (fun k hk => hbe.block k (HS.lt hk) (fun e => Nat.lt_irrefl _ (Nat.lt_of_lt_of_le (HSG.out k hk) (hlo k e))))
            replace hbq := hbq.trans (Bes.below hbe (fun q e => Nat.le_trans (Nat.le_of_lt HL0) (hlo q e)) (Nat.le_trans (Nat.le_of_lt HL0) HL.st.2))
            have HL2 := HL.more HO2 hbe (hat.elim (fun h => .inl h.symm) (fun h => .inr (congrArg some h))) HK1 HKO
            clear hbe hlo hat hlt HO2 HL hgrow BN
            refine hK.out _ _ HS (fun hS2 => ?_)
            clear hK K hS2
            try simp only [Act.put, List.setIfInBounds_toArray, List.set_cons_zero, List.set_cons_succ]
            refine wpAnyH_take (i := 18) (oi := ⟨some 59, _, _, _, _, _⟩) (v := ?_) rfl (by kernel_rfl) (by kernel_rfl) (by kernel_rfl) (fun _ _ _ h => h) (Or.inl ⟨by kernel_rfl, ?_⟩) (by assumption) ?_
            rotate_left
            · (intro w hSw; (try dsimp only at hSw); go_simp; try with_reducible rfl)
            try simp only [Act.put, List.setIfInBounds_toArray, List.set_cons_zero, List.set_cons_succ]
            refine wpAnyH_ready (rs := [19]) (by kernel_rfl) (by simp) ?_
            refine AllReadyH.cons (o := ⟨none, _, _, _, _, _⟩) rfl (fun K hK => ?_) AllReadyH.nil
            simp only [Region.wanted, if_true]
            refine op_store_cell 23 _ _ rfl w2.heap.size 5 rfl (.slice (some ⟨ga, 0, none⟩) (L.length + 1) cap) rfl _ _ HL2.box (show 5 < 6 by decide) psz_sf rfl ?_
            intro w12 hw
            have hbe := Bes.row (X := fun q => q = w2.heap.size) hw rfl
            replace HS := HS.to (fun k hk => hbe.block k (HS.lt hk) (fun e => by have h1 := HSL.out k hk; have e2 : k = w2.heap.size := e; omega))
            replace hbq := hbq.trans (Bes.below hbe (fun q e => by have e2 : q = w2.heap.size := e; omega) (Nat.le_trans (Nat.le_of_lt HL0) HL2.st.2))
            have HL3 := PK.put HL2 (arr2 := #[.int .i64 5, .bool false, .int .i64 0, .string ⟨#[]⟩, .slice none 0 0, .slice (some ⟨ga, 0, none⟩) (L.length + 1) cap]) hw
            clear hbe hw HL2
            refine hK.out _ _ HS (fun hS2 => ?_)
            clear hK K hS2
            try simp only [Act.put, List.setIfInBounds_toArray, List.set_cons_zero, List.set_cons_succ]
            refine wpAnyH_done (by kernel_rfl) ?_ _
            clear HS
            go_wp2
            exact to_round HL3 HAN.out HAC.out HK2 HX1.out HX2.out hq LV.out LN.out hbq
          refine AllReadyH.cons (o := ⟨some 57, _, _, _, _, _⟩) rfl (fun K hK => ?_) AllReadyH.nil
          simp only [Region.wanted, if_true]
          refine op_slice_at 1 _ _ ie _ (by rw [hie3]; exact fld_fill (nm, k)) 23 52 _ rfl rfl rfl hie1 hie2 (by rw [hie3]; decide) (by rw [hie3]; decide) ?_
          intro w10 hw
          have hb := hid_grow hw
          have BN := (hid_alloc hw).1
          replace HK1 := IsJV.below hb HK1
          have HLs := HL.st.2
          have HLo := HL.own
          replace HS := HS.to (fun k hk => hb.block k (HS.lt hk))
          replace HL := HL.below hb
          replace hbq := hbq.trans (hb.mono (Nat.le_trans (Nat.le_of_lt HL0) HLs))
          clear hb
          clear HLs HLo hw
          refine hK.out _ _ HS (fun hS2 => ?_)
          clear hK K hS2
          try simp only [Act.put, List.setIfInBounds_toArray, List.set_cons_zero, List.set_cons_succ]
          refine wpAnyH_ready (rs := [1]) (by kernel_rfl) (by simp) ?_
          refine AllReadyH.cons (o := ⟨some 42, _, _, _, _, _⟩) rfl (fun K hK => ?_) AllReadyH.nil
          have cg : _ = some (Value.slice A L.length c) := HL.box.cell 5
          go_simp
          clear cg
          refine hK.out _ _ HS (fun hS2 => ?_)
          clear hK K hS2
          try simp only [Act.put, List.setIfInBounds_toArray, List.set_cons_zero, List.set_cons_succ]
          refine wpAnyH_ready (rs := [17]) (by kernel_rfl) (by simp) ?_
          refine AllReadyH.cons (o := ⟨some 58, _, _, _, _, _⟩) rfl (fun K hK => ?_) AllReadyH.nil
          simp only [Region.wanted, if_true]
          refine op_append_at _ _ 23 rfl w3.heap.size 52 ie _ 7 104 rfl hie1 hie2 hie3 hie4 rfl (by decide) (.slice A L.length c) L.length (fldL L) rfl HL.own _ _ _ _ BN (by rfl) rfl (fld_one _) (by unfold maxLen; omega) (by omega) HL.st.2 ?_
          intro ga cap w11 HO2 hgrow hat hlt
          have hbe := Bes.grown (X := fun q => (Value.slice A L.length c).ownBlock = some q) hgrow (fun _ h => h)
          have hlo : ∀ q, (Value.slice A L.length c).ownBlock = some q → w3.heap.size ≤ q := fun q e => (own_in HL.own e).1
          replace HS := HS.to (fun k hk => hbe.block k (HS.lt hk) (fun e => Nat.lt_irrefl _ (Nat.lt_of_lt_of_le (HSG.out k hk) (hlo k e))))
          replace hbq := hbq.trans (Bes.below hbe (fun q e => Nat.le_trans (Nat.le_of_lt HL0) (hlo q e)) (Nat.le_trans (Nat.le_of_lt HL0) HL.st.2))
          have HL2 := HL.more HO2 hbe (hat.elim (fun h => .inl h.symm) (fun h => .inr (congrArg some h))) HK1 HKO
          clear hbe hlo hat hlt HO2 HL hgrow BN
          refine hK.out _ _ HS (fun hS2 => ?_)
          clear hK K hS2
          try simp only [Act.put, List.setIfInBounds_toArray, List.set_cons_zero, List.set_cons_succ]
          refine wpAnyH_take (i := 18) (oi := ⟨some 59, _, _, _, _, _⟩) (v := ?_) rfl (by kernel_rfl) (by kernel_rfl) (by kernel_rfl) (fun _ _ _ h => h) (Or.inl ⟨by kernel_rfl, ?_⟩) (by assumption) ?_
          rotate_left
          · (intro w hSw; (try dsimp only at hSw); go_simp; try with_reducible rfl)
          try simp only [Act.put, List.setIfInBounds_toArray, List.set_cons_zero, List.set_cons_succ]
          refine wpAnyH_ready (rs := [19]) (by kernel_rfl) (by simp) ?_
          refine AllReadyH.cons (o := ⟨none, _, _, _, _, _⟩) rfl (fun K hK => ?_) AllReadyH.nil
          simp only [Region.wanted, if_true]
          refine op_store_cell 23 _ _ rfl w2.heap.size 5 rfl (.slice (some ⟨ga, 0, none⟩) (L.length + 1) cap) rfl _ _ HL2.box (show 5 < 6 by decide) psz_sf rfl ?_
          intro w12 hw
          have hbe := Bes.row (X := fun q => q = w2.heap.size) hw rfl
          replace HS := HS.to (fun k hk => hbe.block k (HS.lt hk) (fun e => by have h1 := HSL.out k hk; have e2 : k = w2.heap.size := e; omega))
          replace hbq := hbq.trans (Bes.below hbe (fun q e => by have e2 : q = w2.heap.size := e; omega) (Nat.le_trans (Nat.le_of_lt HL0) HL2.st.2))
          have HL3 := PK.put HL2 (arr2 := #[.int .i64 5, .bool false, .int .i64 0, .string ⟨#[]⟩, .slice none 0 0, .slice (some ⟨ga, 0, none⟩) (L.length + 1) cap]) hw
          clear hbe hw HL2
          refine hK.out _ _ HS (fun hS2 => ?_)
          clear hK K hS2
          try simp only [Act.put, List.setIfInBounds_toArray, List.set_cons_zero, List.set_cons_succ]
          refine wpAnyH_done (by kernel_rfl) ?_ _
          clear HS
          go_wp2
          exact to_round HL3 HAN.out HAC.out HK2 HX1.out HX2.out hq LV.out LN.out hbq
theorem tu_to (sz : Nat) : ∀ (j : JV) (w : World), SizeOf.sizeOf j < sz → IsJV w j → SzT (er j) ≤ 1048576 → plnT (er j) = er j → Calls Tryz.prog 23 #[.agg j.cells] w (TuV j w) := by
  induction sz with
  | zero => intro j w h; omega
  | succ sz ih =>
    intro j w hsz HJ hs hp
    have IH : Hid (∀ (x : JV) (w : World), SizeOf.sizeOf x < SizeOf.sizeOf j → IsJV w x → SzT (er x) ≤ 1048576 → plnT (er x) = er x → Calls Tryz.prog 23 #[.agg x.cells] w (TuV x w)) := Lib.hid fun x w h => ih x w (by omega)
    rcases pln_ways hp with ⟨l, he, h⟩ | ⟨ns, vs, he, h⟩ | ⟨k, b, i, s, he⟩
    · exact tu_list HJ hs IH he h
    · exact tu_obj HJ hs IH he h
    · exact tu_leaves HJ hs he
theorem turned_any {j : JV} {w : World} (HJ : IsJV w j) (hs : SzT (er j) ≤ 1048576) (hp : plnT (er j) = er j) : Calls Tryz.prog 23 #[.agg j.cells] w (TuV j w) := tu_to _ j w (Nat.lt_succ_self _) HJ hs hp
end
end Go.Proofs.YtnjhmnolngdfaaaGreatDoor
namespace Go.Proofs.YtnjhmnolngdfaaaGreatDoor
section
open Go.RowKit Go.PlainAid
set_option linter.unusedVariables false
set_option linter.unusedSimpArgs false
theorem one_code {c : Int} (h : c = 0 ∨ c = 2 ∨ c = 8) (hc : c ≠ 0) (w : World) : Calls Tryz.prog 12 #[.iface 31 (.int .i64 c)] w fun e w' => e = .returned (.int .i64 c) ∧ w = w' := by
  have := code_e h w
  rwa [errVn hc] at this
theorem op_own_text {o : Oper} {a : Act} {w : World} {Q : Exit → Act → World → Prop} {K : Act → World → Prop} (x : Operand) (t u : TypeId) (ho : o.op = .convert t u x) (ht : Tryz.prog.underlying t = some (.slice 5)) (hu : Tryz.prog.underlying u = some .string) (base : Nat) (v : Value) (l : List UInt8) (hs : a.eval x = v) (hown : OwnB w base v l)
    (h : K (a.put o.dst (.string ⟨l.toArray⟩)) w) : o.wp Tryz.prog a w K Q := by
  have e := run_own_text (t := t) (u := u) ht hu hown
  generalize hP : Tryz.prog = P at *
  unfold Oper.wp execOp
  simp only [ho, hs, Sem.run_bind, e, Result.andThen_ok, Sem.run_pure]
  exact h
theorem own_base {w : World} {a b : Nat} {v : Value} {l : List UInt8} (h : OwnB w b v l) (hab : a ≤ b) : OwnB w a v l := by
  obtain ⟨h1, h2⟩ := h
  refine ⟨h1, ?_⟩
  rcases h2 with h2 | ⟨g, cap, cur, e, hg, r⟩
  · exact .inl h2
  · exact .inr ⟨g, cap, cur, e, Nat.le_trans hab hg, r⟩
theorem WrV.both {j : JV} {w w' : World} {e : Ending} {c : Int} {l : List UInt8} (h : wrtS (er j) = (c, l)) (k : WrV j w e w') : e = .returned (.tuple #[.string ⟨l.toArray⟩, errV c]) ∧ Below w.heap.size w w' := by
  obtain ⟨k1, k2⟩ := k
  rw [h] at k1
  exact ⟨k1, k2⟩
/-- The reference's Plain, from nothing on. -/
theorem rplain_any {j : JV} {g : ByteArray} {w : World} (HJ : IsJV w j) (hl : (pr g.data.toList (er j)).length ≤ plTop) : Calls Tryz.prog 22 #[.slice none 0 0, .agg j.cells, .string g] w fun e w' => ∃ v, e = .returned v ∧ OwnB w' w.heap.size v (plX g.data.toList (er j) []) ∧ Below w.heap.size w w' := by
  have HLL := Lib.hid (show ([] : List UInt8).length + (pr g.data.toList (er j)).length ≤ plTop by rw [List.length_nil]; omega)
  clear hl
  have HB := Below.refl w.heap.size w
  go_enter Tryz.func22, Tryz.ntmps22
  go_wp2_with (first
    | (refine wpl_box_at rfl 25 (.tmp 1) rfl _ rfl ?_; intro w1 hw; have hb := hid_grow hw; have B4 := (hid_alloc hw).1; replace HB := HB.trans (hb.mono HB.size); replace HJ := HJ.below hb; clear hb hw)
    | ((with_reducible refine is_load ?_); refine wpl_load_box rfl 25 (.tmp 4) rfl _ rfl _ _ _ B4 Tryz.underlying25 rfl info_value ?_))
  refine (plain_any (base := w1.heap.size) (l := []) HJ (off_heap HJ) (OwnB.nil _ _) (Nat.le_refl _) HLL.out).mono ?_
  rintro e w6 ⟨v1, rfl, HO1, hK⟩
  have hb := hK.1
  go_wp2
  go_ret
  exact ⟨v1, rfl, own_base HO1 HB.size, HB.trans (hb.mono HB.size)⟩
theorem rem4 (n : Int) : -3 ≤ n.tmod 4 ∧ n.tmod 4 ≤ 3 := by
  rcases Int.lt_or_le n 0 with h | h
  · obtain ⟨m, rfl⟩ : ∃ m : Int, n = -m := ⟨-n, by omega⟩
    rw [Int.neg_tmod, Int.tmod_eq_emod_of_nonneg (by omega)]
    omega
  · rw [Int.tmod_eq_emod_of_nonneg h]
    omega
theorem neg4 {r : Int} (h : -3 ≤ r) (h2 : r < 0) : ∃ q : Nat, -r = (q : Int) ∧ q ≤ 3 := ⟨(-r).toNat, by omega, by omega⟩
theorem pos4 {r : Int} (h : r ≤ 3) (h2 : ¬ r < 0) : ∃ q : Nat, r = (q : Int) ∧ q ≤ 3 := ⟨r.toNat, by omega, by omega⟩
theorem gap_ok {n : Nat} (h : n ≤ 3) : Blanks ((⟨#[32, 32, 10, 9]⟩ : ByteArray).extract 0 n).data.toList ∧ ((⟨#[32, 32, 10, 9]⟩ : ByteArray).extract 0 n).data.toList.length ≤ 5 := by
  have h2 : n = 0 ∨ n = 1 ∨ n = 2 ∨ n = 3 := by omega
  rcases h2 with rfl | rfl | rfl | rfl <;> exact ⟨by unfold Blanks; decide +kernel, by decide +kernel⟩
/-- All that the law asks of a text that is read. -/
theorem one_facts {t : JT} {G : List UInt8} (hG : Blanks G) (hg : G.length ≤ 5) (hl : LenT t) (hs : sndT t 32 = true) (hz : SzT t ≤ 1048576) : (pr G (turT t)).length ≤ plTop ∧ (⟨(plX G (turT t) []).toArray⟩ : ByteArray).size ≤ reach ∧ (65536 < (⟨(plX G (turT t) []).toArray⟩ : ByteArray).size ∨ ∃ k, parseTo ⟨(plX G (turT t) []).toArray⟩ = .ok (plnT (turT t)) k) := by
  have h1 := pr_len hg (turT t) 32 (tur_snd t 32 hl hs)
  rw [tur_sz] at h1
  obtain ⟨p1, p2, p3⟩ := plX_is G (turT t) []
  simp only [List.nil_append, List.length_nil, Nat.zero_add] at p1 p2
  have hsz : (⟨(plX G (turT t) []).toArray⟩ : ByteArray).size = (plX G (turT t) []).length := by simp [ByteArray.size]
  refine ⟨by unfold plTop; omega, by rw [hsz]; unfold reach; omega, ?_⟩
  rcases p1 with p1 | ⟨p1, _⟩
  · exact .inr (parse_told hG (tur_snd t 32 hl hs) (tur_len t hl) (by simp [p1]))
  · exact .inl (by rw [hsz]; exact p1)
set_option maxRecDepth 100000 in
set_option maxHeartbeats 8000000 in
theorem one_any {s : ByteArray} {n : Int} {w : World} (hr : s.size ≤ reach) (hn : I64 n) (hW : Wc w) : Calls Tryz.prog 8 #[.string s, .int .i64 n] w fun e w' => e = .returned (.bool true) ∧ Below w.heap.size w w' := by
  have HW := Lib.hid hW
  have HR := Lib.hid hr
  have HB := Below.refl w.heap.size w
  clear hW hr
  by_cases h65 : 65536 < s.size
  · have H65 := Lib.hid h65
    clear h65
    go_enter Tryz.func8, Tryz.ntmps8
    go_wp2_with fail
    refine (shown_any HW.out).mono ?_
    rintro e w2 ⟨rfl, hb⟩
    replace HB := HB.trans (hb.mono HB.size)
    (try replace HJ := HJ.below hb)
    (try replace HY := HY.below hb)
    (try replace B6 := IBox.below B6 hb (IBox.lt B6))
    (try replace B13 := IBox.below B13 hb (IBox.lt B13))
    clear hb
    go_wp2_with fail
    refine (parse_any (Wc.below HB HW.out).gl HR.out).mono ?_
    rintro e w4 ⟨hb, hp⟩
    rw [if_pos H65.out] at hp
    subst hp
    replace HB := HB.trans (hb.mono HB.size)
    (try replace HJ := HJ.below hb)
    (try replace HY := HY.below hb)
    (try replace B6 := IBox.below B6 hb (IBox.lt B6))
    (try replace B13 := IBox.below B13 hb (IBox.lt B13))
    clear hb
    go_wp2_with (first
      | ((with_reducible refine is_alloc ?_); refine wpl_newbox 6 rfl rfl 25 rfl rfl (.tmp 22) rfl _ zeroV JV.zero.cells rfl rfl info_value rfl (jv_one _) ?_; intro w5 hw; have hb := hid_grow hw; have B6 := (hid_alloc hw).1; replace HB := HB.trans (hb.mono HB.size); (try replace HJ := HJ.below hb); (try replace HY := HY.below hb); (try replace B13 := IBox.below B13 hb (IBox.lt B13)); clear hb hw))
    go_ret
    exact ⟨rfl, HB⟩
  · have H65 := Lib.hid h65
    cases hp0 : parseTo s with
    | bad c p =>
      have HP0 := Lib.hid hp0
      clear hp0 h65
      go_enter Tryz.func8, Tryz.ntmps8
      go_wp2_with fail
      refine (shown_any HW.out).mono ?_
      rintro e w2 ⟨rfl, hb⟩
      replace HB := HB.trans (hb.mono HB.size)
      (try replace HJ := HJ.below hb)
      (try replace HY := HY.below hb)
      (try replace B6 := IBox.below B6 hb (IBox.lt B6))
      (try replace B13 := IBox.below B13 hb (IBox.lt B13))
      clear hb
      go_wp2_with fail
      refine (parse_any (Wc.below HB HW.out).gl HR.out).mono ?_
      rintro e w4 ⟨hb, hp⟩
      rw [if_neg H65.out, HP0.out] at hp
      obtain ⟨g, hp, hg⟩ := hp
      subst hp
      clear hg
      replace HB := HB.trans (hb.mono HB.size)
      (try replace HJ := HJ.below hb)
      (try replace HY := HY.below hb)
      (try replace B6 := IBox.below B6 hb (IBox.lt B6))
      (try replace B13 := IBox.below B13 hb (IBox.lt B13))
      clear hb
      go_wp2_with (first
        | ((with_reducible refine is_alloc ?_); refine wpl_newbox 6 rfl rfl 25 rfl rfl (.tmp 22) rfl _ zeroV JV.zero.cells rfl rfl info_value rfl (jv_one _) ?_; intro w5 hw; have hb := hid_grow hw; have B6 := (hid_alloc hw).1; replace HB := HB.trans (hb.mono HB.size); (try replace HJ := HJ.below hb); (try replace HY := HY.below hb); (try replace B13 := IBox.below B13 hb (IBox.lt B13)); clear hb hw))
      go_ret
      exact ⟨rfl, HB⟩
    | ok t k =>
      have HZT := Lib.hid (parse_sz (by omega) hp0)
      have HPL := Lib.hid (parse_pln hp0)
      have HSN := Lib.hid (parse_good (by omega) hp0).1
      have HP0 := Lib.hid hp0
      have hg0 := rem4 n
      clear hp0 h65
      obtain ⟨c, l, hs⟩ : ∃ c l, wrtS t = (c, l) := ⟨_, _, rfl⟩
      have HS0 := Lib.hid hs
      clear hs
      go_enter Tryz.func8, Tryz.ntmps8
      go_wp2_with fail
      refine (shown_any HW.out).mono ?_
      rintro e w2 ⟨rfl, hb⟩
      replace HB := HB.trans (hb.mono HB.size)
      (try replace HJ := HJ.below hb)
      (try replace HY := HY.below hb)
      (try replace B6 := IBox.below B6 hb (IBox.lt B6))
      (try replace B13 := IBox.below B13 hb (IBox.lt B13))
      clear hb
      go_wp2_with fail
      refine (parse_any (Wc.below HB HW.out).gl HR.out).mono ?_
      rintro e w4 ⟨hb, hp⟩
      rw [if_neg H65.out, HP0.out] at hp
      obtain ⟨j, hp, HJ, hej, _⟩ := hp
      subst hp
      replace HB := HB.trans (hb.mono HB.size)
      clear hb
      have EJ := Lib.hid hej
      have HLN : Hid (LenT t) := Lib.hid (hej ▸ er_len HJ)
      have HS : Hid (wrtS (er j) = (c, l)) := Lib.hid (by rw [hej]; exact HS0.out)
      have HZ : Hid (SzT (er j) ≤ 1048576) := Lib.hid (by rw [hej]; exact HZT.out)
      clear hej
      go_wp2_with (first
        | ((with_reducible refine is_alloc ?_); refine wpl_newbox 6 rfl rfl 25 rfl rfl (.tmp 22) rfl _ zeroV j.cells rfl rfl info_value rfl (jv_one _) ?_; intro w5 hw; have hb := hid_grow hw; have B6 := (hid_alloc hw).1; replace HB := HB.trans (hb.mono HB.size); (try replace HJ := HJ.below hb); (try replace HY := HY.below hb); (try replace B13 := IBox.below B13 hb (IBox.lt B13)); clear hb hw)
        | ((with_reducible refine is_load ?_); refine wpl_load_box rfl 25 (.tmp 6) rfl _ rfl _ _ _ B6 Tryz.underlying25 rfl info_value ?_))
      refine (cwrite_any HJ HZ.out (Wc.below HB HW.out)).mono ?_
      intro e w6 hnm
      obtain ⟨he, hb⟩ := WrV.both HS.out hnm
      subst he
      clear hnm
      replace HB := HB.trans (hb.mono HB.size)
      (try replace HJ := HJ.below hb)
      (try replace HY := HY.below hb)
      (try replace B6 := IBox.below B6 hb (IBox.lt B6))
      (try replace B13 := IBox.below B13 hb (IBox.lt B13))
      clear hb
      by_cases hng : n.tmod 4 < 0
      · obtain ⟨q, hq, hq3⟩ := neg4 hg0.1 hng
        go_wp2_with fail
        try rw [hq]
        obtain ⟨hbl, hbn⟩ := gap_ok hq3
        obtain ⟨f1, f2, f3⟩ := one_facts hbl hbn HLN.out HSN.out HZT.out
        have F1 := Lib.hid f1
        have F2 := Lib.hid f2
        have F3 := Lib.hid f3
        clear hbl hbn f1 f2 f3 hq hng hg0
        refine wp_region_below (by kernel_rfl) (fun w8 hHeld => ?_)
        refine wpAnyH_take (i := 0) (oi := ⟨some 38, _, _, _, _, _⟩) (v := _) rfl (by kernel_rfl) (by kernel_rfl) (by kernel_rfl) (fun _ _ _ h => h) (yields_box (by kernel_rfl) 25 _ rfl _ rfl _ _ _ B6 Tryz.underlying25 rfl info_value) (by assumption) ?_
        try simp only [Act.put, List.setIfInBounds_toArray, List.set_cons_zero, List.set_cons_succ]
        refine wpAnyH_take (i := 2) (oi := ⟨some 40, _, _, _, _, _⟩) (v := ?_) rfl (by kernel_rfl) (by kernel_rfl) (by kernel_rfl) (fun _ _ _ h => h) (Or.inl ⟨by kernel_rfl, ?_⟩) (by assumption) ?_
        rotate_left
        · (intro w hSw; (try dsimp only at hSw); go_simp; try with_reducible rfl)
        try simp only [Act.put, List.setIfInBounds_toArray, List.set_cons_zero, List.set_cons_succ]
        refine wpAnyH_take (i := 3) (oi := ⟨some 41, _, _, _, _, _⟩) (v := ?_) rfl (by kernel_rfl) (by kernel_rfl) (by kernel_rfl) (fun _ _ _ h => h) (Or.inl ⟨by kernel_rfl, ?_⟩) (by assumption) ?_
        rotate_left
        · (intro w hSw; (try dsimp only at hSw); go_simp; try with_reducible rfl)
        try simp only [Act.put, List.setIfInBounds_toArray, List.set_cons_zero, List.set_cons_succ]
        refine wpAnyH_take (i := 4) (oi := ⟨some 42, _, _, _, _, _⟩) (v := (.string ((⟨#[32, 32, 10, 9]⟩ : ByteArray).extract 0 q))) rfl (by kernel_rfl) (by kernel_rfl) (by kernel_rfl) (fun _ _ _ h => h) (Or.inl ⟨by kernel_rfl, ?_⟩) (by assumption) ?_
        · (intro w hSw; (try dsimp only at hSw); go_simp; intro h9; exact absurd h9 (by omega))
        try simp only [Act.put, List.setIfInBounds_toArray, List.set_cons_zero, List.set_cons_succ]
        refine wpAnyH_ready (rs := [1]) (by kernel_rfl) (by simp) ?_
        refine AllReadyH.cons (o := ⟨some 39, _, _, _, _, _⟩) rfl (fun K hK => ?_) AllReadyH.nil
        go_simp
        (go_at_call 23; (refine (turned_any (IsJV.below hHeld HJ) HZ.out (by rw [EJ.out]; exact HPL.out)).mono ?_); rintro e w11 ⟨k3, rfl, HK3, hke, _, hb3⟩; have EK := Lib.hid hke; clear hke)
        refine hK.out _ _ (hHeld.trans (hb3.mono hHeld.size)) (fun hHeld2 => ?_)
        clear hK K hHeld hb3
        have hHeld := hHeld2
        clear hHeld2
        try simp only [Act.put, List.setIfInBounds_toArray, List.set_cons_zero, List.set_cons_succ]
        refine wpAnyH_ready (rs := [5]) (by kernel_rfl) (by simp) ?_
        refine AllReadyH.cons (o := ⟨some 43, _, _, _, _, _⟩) rfl (fun K hK => ?_) AllReadyH.nil
        go_simp
        (go_at_call 22; (refine (rplain_any HK3 (by rw [EK.out, EJ.out]; exact F1.out)).mono ?_); rintro e w12 ⟨v1, rfl, HO1, hb3⟩; generalize hL : plX ((⟨#[32, 32, 10, 9]⟩ : ByteArray).extract 0 q).data.toList (er k3) [] = L1 at HO1; have HL1 := Lib.hid hL; clear hL)
        refine hK.out _ _ (hHeld.trans (hb3.mono hHeld.size)) (fun hHeld2 => ?_)
        clear hK K hHeld hb3
        have hHeld := hHeld2
        clear hHeld2
        try simp only [Act.put, List.setIfInBounds_toArray, List.set_cons_zero, List.set_cons_succ]
        refine wpAnyH_ready (rs := [6]) (by kernel_rfl) (by simp) ?_
        refine AllReadyH.cons (o := ⟨some 44, _, _, _, _, _⟩) rfl (fun K hK => ?_) AllReadyH.nil
        simp only [Region.wanted, if_true]
        refine op_own_text _ 46 9 rfl Tryz.underlying46 Tryz.underlying9 _ _ _ rfl HO1 ?_
        refine hK.out _ _ hHeld (fun hHeld2 => ?_)
        clear hK K hHeld
        have hHeld := hHeld2
        clear hHeld2
        try simp only [Act.put, List.setIfInBounds_toArray, List.set_cons_zero, List.set_cons_succ]
        refine wpAnyH_take (i := 7) (oi := ⟨some 12, _, _, _, _, _⟩) (v := ?_) rfl (by kernel_rfl) (by kernel_rfl) (by kernel_rfl) (fun _ _ _ h => h) (Or.inl ⟨by kernel_rfl, ?_⟩) (by assumption) ?_
        rotate_left
        · (intro w hSw; (try dsimp only at hSw); go_simp; try with_reducible rfl)
        try simp only [Act.put, List.setIfInBounds_toArray, List.set_cons_zero, List.set_cons_succ]
        refine wpAnyH_done (by kernel_rfl) ?_ _
        have hb := hHeld
        clear HK3 HO1
        replace HB := HB.trans (hb.mono HB.size)
        (try replace HJ := HJ.below hb)
        (try replace HY := HY.below hb)
        (try replace B6 := IBox.below B6 hb (IBox.lt B6))
        (try replace B13 := IBox.below B13 hb (IBox.lt B13))
        clear hb
        have hXe : plX ((⟨#[32, 32, 10, 9]⟩ : ByteArray).extract 0 q).data.toList (turT t) [] = L1 := by rw [← HL1.out, EK.out, EJ.out]
        rw [hXe] at F2 F3
        clear EK HL1 hXe
        generalize (⟨L1.toArray⟩ : ByteArray) = X at F2 F3 ⊢
        go_wp2_with fail
        refine (parse_any (Wc.below HB HW.out).gl F2.out).mono ?_
        rintro e w13 ⟨hb, hp⟩
        by_cases hx : 65536 < X.size
        · have HX := Lib.hid hx
          rw [if_pos HX.out] at hp
          subst hp
          replace HB := HB.trans (hb.mono HB.size)
          (try replace HJ := HJ.below hb)
          (try replace HY := HY.below hb)
          (try replace B6 := IBox.below B6 hb (IBox.lt B6))
          (try replace B13 := IBox.below B13 hb (IBox.lt B13))
          clear hb
          have he := eql_code
          go_wp2_with (first
            | ((with_reducible refine is_alloc ?_); refine wpl_newbox 13 rfl rfl 25 rfl rfl (.tmp 48) rfl _ zeroV JV.zero.cells rfl rfl info_value rfl (jv_one _) ?_; intro w14 hw; have hb := hid_grow hw; have B13 := (hid_alloc hw).1; replace HB := HB.trans (hb.mono HB.size); (try replace HJ := HJ.below hb); (try replace HY := HY.below hb); (try replace B6 := IBox.below B6 hb (IBox.lt B6)); clear hb hw))
          go_ret
          exact ⟨rfl, HB⟩
        · have HX := Lib.hid hx
          obtain ⟨k4, hk4⟩ := F3.out.resolve_left hx
          rw [if_neg HX.out, hk4] at hp
          obtain ⟨y, hp, HY, hey, _⟩ := hp
          subst hp
          have EY := Lib.hid hey
          have ZY : Hid (SzT (er y) ≤ 1048576) := Lib.hid (by rw [hey]; exact parse_sz (by omega) hk4)
          have SY : Hid (wrtS (er y) = (c, l)) := Lib.hid (by rw [hey, wrt_tur HLN.out HSN.out]; exact HS0.out)
          clear hey hk4
          replace HB := HB.trans (hb.mono HB.size)
          (try replace HJ := HJ.below hb)
          (try replace B6 := IBox.below B6 hb (IBox.lt B6))
          (try replace B13 := IBox.below B13 hb (IBox.lt B13))
          clear hb
          go_wp2_with (first
            | ((with_reducible refine is_alloc ?_); refine wpl_newbox 13 rfl rfl 25 rfl rfl (.tmp 48) rfl _ zeroV y.cells rfl rfl info_value rfl (jv_one _) ?_; intro w14 hw; have hb := hid_grow hw; have B13 := (hid_alloc hw).1; replace HB := HB.trans (hb.mono HB.size); (try replace HJ := HJ.below hb); (try replace HY := HY.below hb); (try replace B6 := IBox.below B6 hb (IBox.lt B6)); clear hb hw)
            | ((with_reducible refine is_load ?_); refine wpl_load_box rfl 25 (.tmp 13) rfl _ rfl _ _ _ B13 Tryz.underlying25 rfl info_value ?_))
          refine (cwrite_any HY ZY.out (Wc.below HB HW.out)).mono ?_
          intro e w15 hnm
          obtain ⟨he, hb⟩ := WrV.both SY.out hnm
          subst he
          clear hnm
          replace HB := HB.trans (hb.mono HB.size)
          (try replace HJ := HJ.below hb)
          (try replace HY := HY.below hb)
          (try replace B6 := IBox.below B6 hb (IBox.lt B6))
          (try replace B13 := IBox.below B13 hb (IBox.lt B13))
          clear hb
          go_wp2_with (first
            | ((with_reducible refine is_load ?_); refine wpl_load_box rfl 25 (.tmp 6) rfl _ rfl _ _ _ B6 Tryz.underlying25 rfl info_value ?_)
            | ((with_reducible refine is_load ?_); refine wpl_load_box rfl 25 (.tmp 13) rfl _ rfl _ _ _ B13 Tryz.underlying25 rfl info_value ?_))
          refine (csame_any HJ HY HZ.out ZY.out (Wc.below HB HW.out)).mono ?_
          rintro e w16 ⟨rfl, hb⟩
          replace HB := HB.trans (hb.mono HB.size)
          (try replace HJ := HJ.below hb)
          (try replace HY := HY.below hb)
          (try replace B6 := IBox.below B6 hb (IBox.lt B6))
          (try replace B13 := IBox.below B13 hb (IBox.lt B13))
          clear hb
          have HV := Lib.hid (wrt_codes t)
          rw [HS0.out] at HV
          have HD : Hid (c = 0 → samS (er j) (er y) = true) := Lib.hid (fun h => by unfold samS; rw [HS.out, SY.out, h]; simp)
          by_cases hc : c = 0
          · subst hc
            rw [HD.out rfl, errV0]
            go_wp2_with fail
            refine (code_nil _).mono ?_
            rintro e w17 ⟨rfl, rfl⟩
            go_wp2_with fail
            refine (code_nil _).mono ?_
            rintro e w18 ⟨rfl, rfl⟩
            go_wp2
            go_ret
            exact ⟨rfl, HB⟩
          · rw [errVn hc]
            go_wp2_with fail
            refine (one_code HV.out hc _).mono ?_
            rintro e w17 ⟨rfl, rfl⟩
            go_wp2_with fail
            refine (one_code HV.out hc _).mono ?_
            rintro e w18 ⟨rfl, rfl⟩
            go_wp2
            go_ret
            exact ⟨rfl, HB⟩
      · obtain ⟨q, hq, hq3⟩ := pos4 hg0.2 hng
        go_wp2_with fail
        try rw [hq]
        obtain ⟨hbl, hbn⟩ := gap_ok hq3
        obtain ⟨f1, f2, f3⟩ := one_facts hbl hbn HLN.out HSN.out HZT.out
        have F1 := Lib.hid f1
        have F2 := Lib.hid f2
        have F3 := Lib.hid f3
        clear hbl hbn f1 f2 f3 hq hng hg0
        refine wp_region_below (by kernel_rfl) (fun w8 hHeld => ?_)
        refine wpAnyH_take (i := 0) (oi := ⟨some 38, _, _, _, _, _⟩) (v := _) rfl (by kernel_rfl) (by kernel_rfl) (by kernel_rfl) (fun _ _ _ h => h) (yields_box (by kernel_rfl) 25 _ rfl _ rfl _ _ _ B6 Tryz.underlying25 rfl info_value) (by assumption) ?_
        try simp only [Act.put, List.setIfInBounds_toArray, List.set_cons_zero, List.set_cons_succ]
        refine wpAnyH_take (i := 2) (oi := ⟨some 40, _, _, _, _, _⟩) (v := ?_) rfl (by kernel_rfl) (by kernel_rfl) (by kernel_rfl) (fun _ _ _ h => h) (Or.inl ⟨by kernel_rfl, ?_⟩) (by assumption) ?_
        rotate_left
        · (intro w hSw; (try dsimp only at hSw); go_simp; try with_reducible rfl)
        try simp only [Act.put, List.setIfInBounds_toArray, List.set_cons_zero, List.set_cons_succ]
        refine wpAnyH_take (i := 3) (oi := ⟨some 41, _, _, _, _, _⟩) (v := ?_) rfl (by kernel_rfl) (by kernel_rfl) (by kernel_rfl) (fun _ _ _ h => h) (Or.inl ⟨by kernel_rfl, ?_⟩) (by assumption) ?_
        rotate_left
        · (intro w hSw; (try dsimp only at hSw); go_simp; try with_reducible rfl)
        try simp only [Act.put, List.setIfInBounds_toArray, List.set_cons_zero, List.set_cons_succ]
        refine wpAnyH_take (i := 4) (oi := ⟨some 42, _, _, _, _, _⟩) (v := (.string ((⟨#[32, 32, 10, 9]⟩ : ByteArray).extract 0 q))) rfl (by kernel_rfl) (by kernel_rfl) (by kernel_rfl) (fun _ _ _ h => h) (Or.inl ⟨by kernel_rfl, ?_⟩) (by assumption) ?_
        · (intro w hSw; (try dsimp only at hSw); go_simp; intro h9; exact absurd h9 (by omega))
        try simp only [Act.put, List.setIfInBounds_toArray, List.set_cons_zero, List.set_cons_succ]
        refine wpAnyH_ready (rs := [1]) (by kernel_rfl) (by simp) ?_
        refine AllReadyH.cons (o := ⟨some 39, _, _, _, _, _⟩) rfl (fun K hK => ?_) AllReadyH.nil
        go_simp
        (go_at_call 23; (refine (turned_any (IsJV.below hHeld HJ) HZ.out (by rw [EJ.out]; exact HPL.out)).mono ?_); rintro e w11 ⟨k3, rfl, HK3, hke, _, hb3⟩; have EK := Lib.hid hke; clear hke)
        refine hK.out _ _ (hHeld.trans (hb3.mono hHeld.size)) (fun hHeld2 => ?_)
        clear hK K hHeld hb3
        have hHeld := hHeld2
        clear hHeld2
        try simp only [Act.put, List.setIfInBounds_toArray, List.set_cons_zero, List.set_cons_succ]
        refine wpAnyH_ready (rs := [5]) (by kernel_rfl) (by simp) ?_
        refine AllReadyH.cons (o := ⟨some 43, _, _, _, _, _⟩) rfl (fun K hK => ?_) AllReadyH.nil
        go_simp
        (go_at_call 22; (refine (rplain_any HK3 (by rw [EK.out, EJ.out]; exact F1.out)).mono ?_); rintro e w12 ⟨v1, rfl, HO1, hb3⟩; generalize hL : plX ((⟨#[32, 32, 10, 9]⟩ : ByteArray).extract 0 q).data.toList (er k3) [] = L1 at HO1; have HL1 := Lib.hid hL; clear hL)
        refine hK.out _ _ (hHeld.trans (hb3.mono hHeld.size)) (fun hHeld2 => ?_)
        clear hK K hHeld hb3
        have hHeld := hHeld2
        clear hHeld2
        try simp only [Act.put, List.setIfInBounds_toArray, List.set_cons_zero, List.set_cons_succ]
        refine wpAnyH_ready (rs := [6]) (by kernel_rfl) (by simp) ?_
        refine AllReadyH.cons (o := ⟨some 44, _, _, _, _, _⟩) rfl (fun K hK => ?_) AllReadyH.nil
        simp only [Region.wanted, if_true]
        refine op_own_text _ 46 9 rfl Tryz.underlying46 Tryz.underlying9 _ _ _ rfl HO1 ?_
        refine hK.out _ _ hHeld (fun hHeld2 => ?_)
        clear hK K hHeld
        have hHeld := hHeld2
        clear hHeld2
        try simp only [Act.put, List.setIfInBounds_toArray, List.set_cons_zero, List.set_cons_succ]
        refine wpAnyH_take (i := 7) (oi := ⟨some 12, _, _, _, _, _⟩) (v := ?_) rfl (by kernel_rfl) (by kernel_rfl) (by kernel_rfl) (fun _ _ _ h => h) (Or.inl ⟨by kernel_rfl, ?_⟩) (by assumption) ?_
        rotate_left
        · (intro w hSw; (try dsimp only at hSw); go_simp; try with_reducible rfl)
        try simp only [Act.put, List.setIfInBounds_toArray, List.set_cons_zero, List.set_cons_succ]
        refine wpAnyH_done (by kernel_rfl) ?_ _
        have hb := hHeld
        clear HK3 HO1
        replace HB := HB.trans (hb.mono HB.size)
        (try replace HJ := HJ.below hb)
        (try replace HY := HY.below hb)
        (try replace B6 := IBox.below B6 hb (IBox.lt B6))
        (try replace B13 := IBox.below B13 hb (IBox.lt B13))
        clear hb
        have hXe : plX ((⟨#[32, 32, 10, 9]⟩ : ByteArray).extract 0 q).data.toList (turT t) [] = L1 := by rw [← HL1.out, EK.out, EJ.out]
        rw [hXe] at F2 F3
        clear EK HL1 hXe
        generalize (⟨L1.toArray⟩ : ByteArray) = X at F2 F3 ⊢
        go_wp2_with fail
        refine (parse_any (Wc.below HB HW.out).gl F2.out).mono ?_
        rintro e w13 ⟨hb, hp⟩
        by_cases hx : 65536 < X.size
        · have HX := Lib.hid hx
          rw [if_pos HX.out] at hp
          subst hp
          replace HB := HB.trans (hb.mono HB.size)
          (try replace HJ := HJ.below hb)
          (try replace HY := HY.below hb)
          (try replace B6 := IBox.below B6 hb (IBox.lt B6))
          (try replace B13 := IBox.below B13 hb (IBox.lt B13))
          clear hb
          have he := eql_code
          go_wp2_with (first
            | ((with_reducible refine is_alloc ?_); refine wpl_newbox 13 rfl rfl 25 rfl rfl (.tmp 48) rfl _ zeroV JV.zero.cells rfl rfl info_value rfl (jv_one _) ?_; intro w14 hw; have hb := hid_grow hw; have B13 := (hid_alloc hw).1; replace HB := HB.trans (hb.mono HB.size); (try replace HJ := HJ.below hb); (try replace HY := HY.below hb); (try replace B6 := IBox.below B6 hb (IBox.lt B6)); clear hb hw))
          go_ret
          exact ⟨rfl, HB⟩
        · have HX := Lib.hid hx
          obtain ⟨k4, hk4⟩ := F3.out.resolve_left hx
          rw [if_neg HX.out, hk4] at hp
          obtain ⟨y, hp, HY, hey, _⟩ := hp
          subst hp
          have EY := Lib.hid hey
          have ZY : Hid (SzT (er y) ≤ 1048576) := Lib.hid (by rw [hey]; exact parse_sz (by omega) hk4)
          have SY : Hid (wrtS (er y) = (c, l)) := Lib.hid (by rw [hey, wrt_tur HLN.out HSN.out]; exact HS0.out)
          clear hey hk4
          replace HB := HB.trans (hb.mono HB.size)
          (try replace HJ := HJ.below hb)
          (try replace B6 := IBox.below B6 hb (IBox.lt B6))
          (try replace B13 := IBox.below B13 hb (IBox.lt B13))
          clear hb
          go_wp2_with (first
            | ((with_reducible refine is_alloc ?_); refine wpl_newbox 13 rfl rfl 25 rfl rfl (.tmp 48) rfl _ zeroV y.cells rfl rfl info_value rfl (jv_one _) ?_; intro w14 hw; have hb := hid_grow hw; have B13 := (hid_alloc hw).1; replace HB := HB.trans (hb.mono HB.size); (try replace HJ := HJ.below hb); (try replace HY := HY.below hb); (try replace B6 := IBox.below B6 hb (IBox.lt B6)); clear hb hw)
            | ((with_reducible refine is_load ?_); refine wpl_load_box rfl 25 (.tmp 13) rfl _ rfl _ _ _ B13 Tryz.underlying25 rfl info_value ?_))
          refine (cwrite_any HY ZY.out (Wc.below HB HW.out)).mono ?_
          intro e w15 hnm
          obtain ⟨he, hb⟩ := WrV.both SY.out hnm
          subst he
          clear hnm
          replace HB := HB.trans (hb.mono HB.size)
          (try replace HJ := HJ.below hb)
          (try replace HY := HY.below hb)
          (try replace B6 := IBox.below B6 hb (IBox.lt B6))
          (try replace B13 := IBox.below B13 hb (IBox.lt B13))
          clear hb
          go_wp2_with (first
            | ((with_reducible refine is_load ?_); refine wpl_load_box rfl 25 (.tmp 6) rfl _ rfl _ _ _ B6 Tryz.underlying25 rfl info_value ?_)
            | ((with_reducible refine is_load ?_); refine wpl_load_box rfl 25 (.tmp 13) rfl _ rfl _ _ _ B13 Tryz.underlying25 rfl info_value ?_))
          refine (csame_any HJ HY HZ.out ZY.out (Wc.below HB HW.out)).mono ?_
          rintro e w16 ⟨rfl, hb⟩
          replace HB := HB.trans (hb.mono HB.size)
          (try replace HJ := HJ.below hb)
          (try replace HY := HY.below hb)
          (try replace B6 := IBox.below B6 hb (IBox.lt B6))
          (try replace B13 := IBox.below B13 hb (IBox.lt B13))
          clear hb
          have HV := Lib.hid (wrt_codes t)
          rw [HS0.out] at HV
          have HD : Hid (c = 0 → samS (er j) (er y) = true) := Lib.hid (fun h => by unfold samS; rw [HS.out, SY.out, h]; simp)
          by_cases hc : c = 0
          · subst hc
            rw [HD.out rfl, errV0]
            go_wp2_with fail
            refine (code_nil _).mono ?_
            rintro e w17 ⟨rfl, rfl⟩
            go_wp2_with fail
            refine (code_nil _).mono ?_
            rintro e w18 ⟨rfl, rfl⟩
            go_wp2
            go_ret
            exact ⟨rfl, HB⟩
          · rw [errVn hc]
            go_wp2_with fail
            refine (one_code HV.out hc _).mono ?_
            rintro e w17 ⟨rfl, rfl⟩
            go_wp2_with fail
            refine (one_code HV.out hc _).mono ?_
            rintro e w18 ⟨rfl, rfl⟩
            go_wp2
            go_ret
            exact ⟨rfl, HB⟩
end
end Go.Proofs.YtnjhmnolngdfaaaGreatDoor
