/- Layer 2: a value with nothing in what its kind doesn't use (coveylaw02.plain), walked. Layer 2: coveylaw02.plain, a list. Layer 2: coveylaw02.plain, an object. Layer 2: coveylaw02.plain, whole. Layer 2: coveyref02.Count, walked; which number it gives isn't told. Layer 2: how long what is told can be; pick. -/
import Derived.Test.YtjhncopbiblenaaGreatDoorBlE
import Derived.Test.YtjhncopbiblenaaGreatDoorJrN
import Derived.Maps.AppendAt
import Derived.Test.YtjhncopbiblenaaGreatDoorJvB
import Derived.Test.YtjhncopbiblenaaGreatDoorBlB
namespace Go.Proofs.YtjhncopbiblenaaGreatDoor
section
open Go.RowKit Go.PlainAid
set_option linter.unusedVariables false
set_option linter.unusedSimpArgs false
mutual
/-- How much a value holds. -/
def SzT : JT → Nat
  | .mk k b i t l ns vs => 1 + t.size + SzL l + SzN ns + SzL vs
def SzL : List JT → Nat
  | [] => 0
  | x :: r => SzT x + SzL r
def SzN : List ByteArray → Nat
  | [] => 0
  | n :: r => n.size + 1 + SzN r
end
theorem sz_mk (k : Int) (b : Bool) (i : Int) (t : ByteArray) (l : List JT) (ns : List ByteArray) (vs : List JT) : SzT (.mk k b i t l ns vs) = 1 + t.size + SzL l + SzN ns + SzL vs := by conv => lhs; unfold SzT
theorem sz_pos (t : JT) : 1 ≤ SzT t := by obtain ⟨k, b, i, x, l, ns, vs⟩ := t; unfold SzT; omega
theorem szL_len : ∀ l : List JT, l.length ≤ SzL l
  | [] => Nat.zero_le _
  | x :: r => by unfold SzL; have := szL_len r; have := sz_pos x; rw [List.length_cons]; omega
theorem szL_mem {l : List JV} {i : Nat} {x : JV} (h : l[i]? = some x) : SzT (er x) ≤ SzL (erL l) := by
  induction l generalizing i with
  | nil => simp at h
  | cons y r ih =>
    unfold erL SzL
    cases i with
    | zero =>
      have : y = x := by simpa using h
      rw [this]; omega
    | succ i =>
      have := ih (i := i) (by simpa using h)
      omega
theorem sz_parts (j : JV) : j.l.length ≤ SzT (er j) ∧ j.vs.length ≤ SzT (er j) ∧ (∀ (i : Nat) (x : JV), j.l[i]? = some x → SzT (er x) ≤ SzT (er j)) ∧ (∀ (i : Nat) (x : JV), j.vs[i]? = some x → SzT (er x) ≤ SzT (er j)) := by
  rw [er_mk]
  have h1 := szL_len (erL j.l)
  have h2 := szL_len (erL j.vs)
  rw [erL_len] at h1 h2
  rw [sz_mk]
  refine ⟨by omega, by omega, fun i x hx => ?_, fun i x hx => ?_⟩
  · have := szL_mem hx; omega
  · have := szL_mem hx; omega
theorem pln_eq (j : JV) : plnT (er j) = if j.v.kind = 1 then .mk j.v.kind j.v.b 0 ⟨#[]⟩ [] [] [] else if j.v.kind = 2 then .mk j.v.kind false j.v.i ⟨#[]⟩ [] [] [] else if j.v.kind = 3 then .mk j.v.kind false 0 j.v.t [] [] []
    else if j.v.kind = 4 then .mk j.v.kind false 0 ⟨#[]⟩ (plnL (erL j.l)) [] [] else if j.v.kind = 5 then .mk j.v.kind false 0 ⟨#[]⟩ [] j.ns (plnL (erL j.vs)) else .mk j.v.kind false 0 ⟨#[]⟩ [] [] [] := by rw [er_mk]; unfold plnT; rfl
theorem plnL_map : ∀ l : List JT, plnL l = l.map plnT
  | [] => by unfold plnL; rfl
  | x :: r => by unfold plnL; rw [plnL_map r]; rfl
/-- What plain gives. -/
def PnV (j : JV) (w : World) (e : Ending) (w' : World) : Prop := ∃ k, e = .returned (.agg k.cells) ∧ IsJV w' k ∧ er k = plnT (er j) ∧ Off (fun q => q < w.heap.size) k ∧ Below w.heap.size w w'
theorem pn_leaf {j : JV} {w w' : World} {k i : Int} {b : Bool} {t : ByteArray} (hk : I64 k) (hi : I64 i) (ht : t.size ≤ reach) (he : plnT (er j) = .mk k b i t [] [] []) (hb : Below w.heap.size w w') : PnV j w (.returned (.agg (leafJ k b i t).cells)) w' := by
  obtain ⟨h1, h2, h3⟩ := leaf_ok w' w hk hi ht
  exact ⟨_, rfl, h1, h2.trans he.symm, h3, hb⟩
/-- The result under way: its box, and the row that it holds. -/
structure PK (b1 g : Nat) (E : TypeId) (size : Nat) (arr : Array Value) (v : Value) (n : Nat) (xs : List Value) (acc : List JV) (w : World) : Prop where
  box : IBox w g 26 arr
  own : w.ownsRow b1 E size v n xs
  els : ∀ y ∈ acc, IsJV w y ∧ Off (fun q => q < b1 ∨ v.ownBlock = some q) y
  st : g < b1 ∧ b1 ≤ w.heap.size
section
variable {b1 g : Nat} {E : TypeId} {size : Nat} {arr : Array Value} {v : Value} {n : Nat} {xs : List Value} {acc : List JV} {w w' : World}
theorem PK.below (h : PK b1 g E size arr v n xs acc w) (hb : Below w.heap.size w w') : PK b1 g E size arr v n xs acc w' :=
  ⟨IBox.below h.box hb (IBox.lt h.box), own_below h.own hb, fun y hy => ⟨IsJV.below hb (h.els y hy).1, (h.els y hy).2⟩, ⟨h.st.1, Nat.le_trans h.st.2 hb.size⟩⟩
theorem PK.more (h : PK b1 g E size arr v n xs acc w) {v' : Value} {n' : Nat} {xs' : List Value} {j : JV} (ho : w'.ownsRow b1 E size v' n' xs') (hb : Bes (fun q => v.ownBlock = some q) w w') (hat : v'.ownBlock = v.ownBlock ∨ v'.ownBlock = some w.heap.size)
    (hj : IsJV w j) (hoj : Off (fun q => q < b1 ∨ v.ownBlock = some q) j) : PK b1 g E size arr v' n' xs' (acc ++ [j]) w' := by
  obtain ⟨h1, h2⟩ := h.st
  have lo : ∀ q, v.ownBlock = some q → b1 ≤ q := fun q e => (own_in h.own e).1
  refine ⟨Bes.box hb h.box (fun e => by have := lo g e; omega), ho, fun y hy => ?_, ⟨h1, Nat.le_trans h2 hb.size⟩⟩
  have key : ∀ y : JV, IsJV w y → Off (fun q => q < b1 ∨ v.ownBlock = some q) y → IsJV w' y ∧ Off (fun q => q < b1 ∨ v'.ownBlock = some q) y := fun y a b => by
    refine ⟨IsJV.bes hb a (Off.mono (fun q e => Or.inr e) b), ?_⟩
    refine Off.mono (fun q e => ?_) (Off.or b (off_heap a))
    rcases e with e | e
    · exact .inl (.inl e)
    · rcases hat with h3 | h3
      · exact .inl (.inr (h3 ▸ e))
      · rw [h3] at e
        have e2 := Option.some.inj e
        exact .inr (by show w.heap.size ≤ q; omega)
  rcases List.mem_append.1 hy with hy | hy
  · exact key y (h.els y hy).1 (h.els y hy).2
  · obtain rfl : y = j := by simpa using hy
    exact key y hj hoj
theorem PK.put (h : PK b1 g E size arr v n xs acc w) {arr2 : Array Value} (hw : Hid (w' = w.setRow g arr2)) : PK b1 g E size arr2 v n xs acc w' := by
  have hb := Bes.row (X := fun q => q = g) hw rfl
  refine ⟨hid_row hw h.box, Bes.own hb h.own (fun q e he => ?_), fun y hy => ?_, ⟨h.st.1, Nat.le_trans h.st.2 hb.size⟩⟩
  · have := (own_in h.own e).1; have he2 : q = g := he; have := h.st.1; omega
  · obtain ⟨a, b⟩ := h.els y hy
    exact ⟨IsJV.bes hb a (Off.mono (fun q e => Or.inl (by have e2 : q = g := e; have := h.st.1; omega)) b), b⟩
end
theorem pbl_kind (k : Int) (w : World) : (Instr.build 26 ([(0, .int .i64 k)] : List (Nat × Value)).toArray).run Tryz.prog w = .ok (.agg (leafJ k false 0 ⟨#[]⟩).cells) w := by kernel_rfl
theorem pinfo1 (t : TypeId) (h : (Tryz.prog.info? t).map (·.size) = some 1) : (Tryz.prog.info? t).map (·.size) = some 1 := h
theorem psz_bool : (Tryz.prog.info? 4).map (·.size) = some 1 := by kernel_rfl
theorem psz_i64 : (Tryz.prog.info? 2).map (·.size) = some 1 := by kernel_rfl
theorem psz_str : (Tryz.prog.info? 9).map (·.size) = some 1 := by kernel_rfl
theorem psz_sv : (Tryz.prog.info? 23).map (·.size) = some 1 := by kernel_rfl
theorem psz_sf : (Tryz.prog.info? 24).map (·.size) = some 1 := by kernel_rfl
set_option maxRecDepth 100000 in
set_option maxHeartbeats 8000000 in
theorem pn_leaves {j : JV} {w : World} (HJ : IsJV w j) (hs : SzT (er j) ≤ 1048576) (hk4 : j.v.kind ≠ 4) (hk5 : j.v.kind ≠ 5) : Calls Tryz.prog 14 #[.agg j.cells] w (PnV j w) := by
    obtain ⟨l1, l2, l3, l4, l5⟩ := jv_lens HJ
    obtain ⟨s1, s2, s3, s4⟩ := sz_parts j
    have hI : I64 j.v.kind ∧ I64 j.v.i ∧ j.v.t.size ≤ reach := by obtain ⟨v, _, _, _⟩ := j; unfold IsJV at HJ; exact ⟨HJ.1.1, HJ.1.2.1, HJ.1.2.2.1⟩
    have HI := Lib.hid hI
    have HP := Lib.hid (pln_eq j)
    have LL := Lib.hid l1
    have LV := Lib.hid l2
    have LN := Lib.hid l3
    have S3 := Lib.hid s3
    have S4 := Lib.hid s4
    have HSS := Lib.hid hs
    have hLn : j.v.Ln ≤ 1048576 := by omega
    have hFn : j.v.Fn ≤ 1048576 := by omega
    clear l1 l2 l3 hI s1 s2 s3 s4 hs
    have HB := Below.refl w.heap.size w
    by_cases hk1 : j.v.kind = 1
    · have HK : Hid (plnT (er j) = .mk 1 j.v.b 0 ⟨#[]⟩ [] [] []) := Lib.hid (by rw [HP.out, if_pos hk1, hk1])
      have HKD := Lib.hid hk1
      clear hk1
      go_enter Tryz.func14, Tryz.ntmps14
      go_wp2_with (first
        | (refine wpl_newbox 3 rfl rfl 26 rfl rfl (.tmp 8) rfl _ zeroV (leafJ 1 false 0 ⟨#[]⟩).cells rfl rfl info_value rfl (jv_one _) ?_; intro w3 hw; have hb := hid_grow hw; have B3 := (hid_alloc hw).1; have hz3 := Lib.hid (hid_alloc hw).2.1; replace B1 := IBox.below B1 hb (IBox.lt B1); replace B2 := IBox.below B2 hb (IBox.lt B2); replace HB := HB.trans (hb.mono HB.size); replace HJ := HJ.below hb; clear hb hw; clear c1_0; have c1_0 : w3.cell? ⟨_, 0, none⟩ = some (.int .i64 1) := (B1.cell 0).trans (by rw [← HKD.out]; rfl); have c1_1 : w3.cell? ⟨_, 1, none⟩ = some (.bool j.v.b) := B1.cell 1; have c1_2 : w3.cell? ⟨_, 2, none⟩ = some (.int .i64 j.v.i) := B1.cell 2; have c1_3 : w3.cell? ⟨_, 3, none⟩ = some (.string j.v.t) := B1.cell 3; have c1_4 : w3.cell? ⟨_, 4, none⟩ = some (.slice j.v.LA j.v.Ln j.v.Lc) := B1.cell 4; have c1_5 : w3.cell? ⟨_, 5, none⟩ = some (.slice j.v.FA j.v.Fn j.v.Fc) := B1.cell 5; have hzz : w1.heap.size = w.heap.size + 1 ∧ w2.heap.size = w.heap.size + 2 ∧ w3.heap.size = w.heap.size + 3 := (by have := hz1.out; have := hz2.out; have := hz3.out; omega); have HZ := Lib.hid hzz; clear hzz hz1 hz2 hz3)
        | (refine wpl_box_at rfl 26 (.tmp 0) rfl _ rfl ?_; intro w1 hw; have hb := hid_grow hw; have B1 := (hid_alloc hw).1; have hz1 := Lib.hid (hid_alloc hw).2.1; replace HB := HB.trans (hb.mono HB.size); replace HJ := HJ.below hb; clear hb hw)
        | ((with_reducible refine is_alloc ?_); refine wpl_alloc_at rfl 26 rfl _ zeroV ?_; intro w2 hw; have hb := hid_grow hw; have B2 := hid_alloc0 hw; have hz2 := Lib.hid (hid_alloc hw).2.1; replace B1 := IBox.below B1 hb (IBox.lt B1); replace HB := HB.trans (hb.mono HB.size); replace HJ := HJ.below hb; clear hb hw; have c1_0 : w2.cell? ⟨_, 0, none⟩ = some (.int .i64 1) := (B1.cell 0).trans (by rw [← HKD.out]; rfl))
        | ((with_reducible refine is_build ?_); refine wpl_build_at (vals := _) (pbl_kind 1) rfl _ rfl rfl ?_)
        | ((with_reducible refine is_store ?_); refine wpl_store_cell rfl 4 (.tmp 15) (.tmp 14) rfl w2.heap.size 1 rfl _ rfl _ _ B3 (by decide) psz_bool rfl ?_; intro w4 hw; have hbe := Bes.row (X := fun q => q = w2.heap.size) hw rfl; replace HB := HB.trans (Bes.below hbe (fun q e => by have e2 : q = w2.heap.size := e; have := HZ.out; omega) HB.size); replace B2 := Bes.box hbe B2 (fun e => by have := HZ.out; omega); replace B3 := hid_row hw B3; clear hw hbe)
        | ((with_reducible refine is_load ?_); refine wpl_load_box rfl 26 (.tmp 3) rfl _ rfl _ (leafJ 1 j.v.b 0 ⟨#[]⟩).cells _ B3 Tryz.underlying26 rfl info_value ?_)
        | ((with_reducible refine is_store ?_); refine wpl_store_at rfl 26 (.tmp 2) (.tmp 74) rfl w1.heap.size (leafJ 1 j.v.b 0 ⟨#[]⟩).cells rfl rfl _ _ B2 info_value rfl (jv_one _) ?_; intro w5 hw; have hbe := Bes.row (X := fun q => q = w1.heap.size) hw rfl; replace HB := HB.trans (Bes.below hbe (fun q e => by have e2 : q = w1.heap.size := e; have := HZ.out; omega) HB.size); replace B2 := hid_row hw B2; clear hw hbe))
      refine bodyPost_ret (results_box rfl _ _ w1.heap.size _ (leafJ 1 j.v.b 0 ⟨#[]⟩).cells _ rfl B2 Tryz.underlying26 rfl info_value) rfl ?_
      exact pn_leaf i64_1 mi0 mze HK.out HB
    · by_cases hk2 : j.v.kind = 2
      · have HK : Hid (plnT (er j) = .mk 2 false j.v.i ⟨#[]⟩ [] [] []) := Lib.hid (by rw [HP.out, if_neg hk1, if_pos hk2, hk2])
        have HKD := Lib.hid hk2
        clear hk1 hk2
        go_enter Tryz.func14, Tryz.ntmps14
        go_wp2_with (first
          | (refine wpl_newbox 3 rfl rfl 26 rfl rfl (.tmp 8) rfl _ zeroV (leafJ 2 false 0 ⟨#[]⟩).cells rfl rfl info_value rfl (jv_one _) ?_; intro w3 hw; have hb := hid_grow hw; have B3 := (hid_alloc hw).1; have hz3 := Lib.hid (hid_alloc hw).2.1; replace B1 := IBox.below B1 hb (IBox.lt B1); replace B2 := IBox.below B2 hb (IBox.lt B2); replace HB := HB.trans (hb.mono HB.size); replace HJ := HJ.below hb; clear hb hw; clear c1_0; have c1_0 : w3.cell? ⟨_, 0, none⟩ = some (.int .i64 2) := (B1.cell 0).trans (by rw [← HKD.out]; rfl); have c1_1 : w3.cell? ⟨_, 1, none⟩ = some (.bool j.v.b) := B1.cell 1; have c1_2 : w3.cell? ⟨_, 2, none⟩ = some (.int .i64 j.v.i) := B1.cell 2; have c1_3 : w3.cell? ⟨_, 3, none⟩ = some (.string j.v.t) := B1.cell 3; have c1_4 : w3.cell? ⟨_, 4, none⟩ = some (.slice j.v.LA j.v.Ln j.v.Lc) := B1.cell 4; have c1_5 : w3.cell? ⟨_, 5, none⟩ = some (.slice j.v.FA j.v.Fn j.v.Fc) := B1.cell 5; have hzz : w1.heap.size = w.heap.size + 1 ∧ w2.heap.size = w.heap.size + 2 ∧ w3.heap.size = w.heap.size + 3 := (by have := hz1.out; have := hz2.out; have := hz3.out; omega); have HZ := Lib.hid hzz; clear hzz hz1 hz2 hz3)
          | (refine wpl_box_at rfl 26 (.tmp 0) rfl _ rfl ?_; intro w1 hw; have hb := hid_grow hw; have B1 := (hid_alloc hw).1; have hz1 := Lib.hid (hid_alloc hw).2.1; replace HB := HB.trans (hb.mono HB.size); replace HJ := HJ.below hb; clear hb hw)
          | ((with_reducible refine is_alloc ?_); refine wpl_alloc_at rfl 26 rfl _ zeroV ?_; intro w2 hw; have hb := hid_grow hw; have B2 := hid_alloc0 hw; have hz2 := Lib.hid (hid_alloc hw).2.1; replace B1 := IBox.below B1 hb (IBox.lt B1); replace HB := HB.trans (hb.mono HB.size); replace HJ := HJ.below hb; clear hb hw; have c1_0 : w2.cell? ⟨_, 0, none⟩ = some (.int .i64 2) := (B1.cell 0).trans (by rw [← HKD.out]; rfl))
          | ((with_reducible refine is_build ?_); refine wpl_build_at (vals := _) (pbl_kind 2) rfl _ rfl rfl ?_)
          | ((with_reducible refine is_store ?_); refine wpl_store_cell rfl 2 (.tmp 20) (.tmp 19) rfl w2.heap.size 2 rfl _ rfl _ _ B3 (by decide) psz_i64 rfl ?_; intro w4 hw; have hbe := Bes.row (X := fun q => q = w2.heap.size) hw rfl; replace HB := HB.trans (Bes.below hbe (fun q e => by have e2 : q = w2.heap.size := e; have := HZ.out; omega) HB.size); replace B2 := Bes.box hbe B2 (fun e => by have := HZ.out; omega); replace B3 := hid_row hw B3; clear hw hbe)
          | ((with_reducible refine is_load ?_); refine wpl_load_box rfl 26 (.tmp 3) rfl _ rfl _ (leafJ 2 false j.v.i ⟨#[]⟩).cells _ B3 Tryz.underlying26 rfl info_value ?_)
          | ((with_reducible refine is_store ?_); refine wpl_store_at rfl 26 (.tmp 2) (.tmp 74) rfl w1.heap.size (leafJ 2 false j.v.i ⟨#[]⟩).cells rfl rfl _ _ B2 info_value rfl (jv_one _) ?_; intro w5 hw; have hbe := Bes.row (X := fun q => q = w1.heap.size) hw rfl; replace HB := HB.trans (Bes.below hbe (fun q e => by have e2 : q = w1.heap.size := e; have := HZ.out; omega) HB.size); replace B2 := hid_row hw B2; clear hw hbe))
        refine bodyPost_ret (results_box rfl _ _ w1.heap.size _ (leafJ 2 false j.v.i ⟨#[]⟩).cells _ rfl B2 Tryz.underlying26 rfl info_value) rfl ?_
        exact pn_leaf i64_2 HI.out.2.1 mze HK.out HB
      · by_cases hk3 : j.v.kind = 3
        · have HK : Hid (plnT (er j) = .mk 3 false 0 j.v.t [] [] []) := Lib.hid (by rw [HP.out, if_neg hk1, if_neg hk2, if_pos hk3, hk3])
          have HKD := Lib.hid hk3
          clear hk1 hk2 hk3
          go_enter Tryz.func14, Tryz.ntmps14
          go_wp2_with (first
            | (refine wpl_newbox 3 rfl rfl 26 rfl rfl (.tmp 8) rfl _ zeroV (leafJ 3 false 0 ⟨#[]⟩).cells rfl rfl info_value rfl (jv_one _) ?_; intro w3 hw; have hb := hid_grow hw; have B3 := (hid_alloc hw).1; have hz3 := Lib.hid (hid_alloc hw).2.1; replace B1 := IBox.below B1 hb (IBox.lt B1); replace B2 := IBox.below B2 hb (IBox.lt B2); replace HB := HB.trans (hb.mono HB.size); replace HJ := HJ.below hb; clear hb hw; clear c1_0; have c1_0 : w3.cell? ⟨_, 0, none⟩ = some (.int .i64 3) := (B1.cell 0).trans (by rw [← HKD.out]; rfl); have c1_1 : w3.cell? ⟨_, 1, none⟩ = some (.bool j.v.b) := B1.cell 1; have c1_2 : w3.cell? ⟨_, 2, none⟩ = some (.int .i64 j.v.i) := B1.cell 2; have c1_3 : w3.cell? ⟨_, 3, none⟩ = some (.string j.v.t) := B1.cell 3; have c1_4 : w3.cell? ⟨_, 4, none⟩ = some (.slice j.v.LA j.v.Ln j.v.Lc) := B1.cell 4; have c1_5 : w3.cell? ⟨_, 5, none⟩ = some (.slice j.v.FA j.v.Fn j.v.Fc) := B1.cell 5; have hzz : w1.heap.size = w.heap.size + 1 ∧ w2.heap.size = w.heap.size + 2 ∧ w3.heap.size = w.heap.size + 3 := (by have := hz1.out; have := hz2.out; have := hz3.out; omega); have HZ := Lib.hid hzz; clear hzz hz1 hz2 hz3)
            | (refine wpl_box_at rfl 26 (.tmp 0) rfl _ rfl ?_; intro w1 hw; have hb := hid_grow hw; have B1 := (hid_alloc hw).1; have hz1 := Lib.hid (hid_alloc hw).2.1; replace HB := HB.trans (hb.mono HB.size); replace HJ := HJ.below hb; clear hb hw)
            | ((with_reducible refine is_alloc ?_); refine wpl_alloc_at rfl 26 rfl _ zeroV ?_; intro w2 hw; have hb := hid_grow hw; have B2 := hid_alloc0 hw; have hz2 := Lib.hid (hid_alloc hw).2.1; replace B1 := IBox.below B1 hb (IBox.lt B1); replace HB := HB.trans (hb.mono HB.size); replace HJ := HJ.below hb; clear hb hw; have c1_0 : w2.cell? ⟨_, 0, none⟩ = some (.int .i64 3) := (B1.cell 0).trans (by rw [← HKD.out]; rfl))
            | ((with_reducible refine is_build ?_); refine wpl_build_at (vals := _) (pbl_kind 3) rfl _ rfl rfl ?_)
            | ((with_reducible refine is_store ?_); refine wpl_store_cell rfl 9 (.tmp 25) (.tmp 24) rfl w2.heap.size 3 rfl _ rfl _ _ B3 (by decide) psz_str rfl ?_; intro w4 hw; have hbe := Bes.row (X := fun q => q = w2.heap.size) hw rfl; replace HB := HB.trans (Bes.below hbe (fun q e => by have e2 : q = w2.heap.size := e; have := HZ.out; omega) HB.size); replace B2 := Bes.box hbe B2 (fun e => by have := HZ.out; omega); replace B3 := hid_row hw B3; clear hw hbe)
            | ((with_reducible refine is_load ?_); refine wpl_load_box rfl 26 (.tmp 3) rfl _ rfl _ (leafJ 3 false 0 j.v.t).cells _ B3 Tryz.underlying26 rfl info_value ?_)
            | ((with_reducible refine is_store ?_); refine wpl_store_at rfl 26 (.tmp 2) (.tmp 74) rfl w1.heap.size (leafJ 3 false 0 j.v.t).cells rfl rfl _ _ B2 info_value rfl (jv_one _) ?_; intro w5 hw; have hbe := Bes.row (X := fun q => q = w1.heap.size) hw rfl; replace HB := HB.trans (Bes.below hbe (fun q e => by have e2 : q = w1.heap.size := e; have := HZ.out; omega) HB.size); replace B2 := hid_row hw B2; clear hw hbe))
          refine bodyPost_ret (results_box rfl _ _ w1.heap.size _ (leafJ 3 false 0 j.v.t).cells _ rfl B2 Tryz.underlying26 rfl info_value) rfl ?_
          exact pn_leaf i64_3 mi0 HI.out.2.2 HK.out HB
        · have HK : Hid (plnT (er j) = .mk j.v.kind false 0 ⟨#[]⟩ [] [] []) := Lib.hid (by rw [HP.out, if_neg hk1, if_neg hk2, if_neg hk3, if_neg hk4, if_neg hk5])
          have q1 : (j.v.kind == 1) = false := by simpa using hk1
          have q2 : (j.v.kind == 2) = false := by simpa using hk2
          have q3 : (j.v.kind == 3) = false := by simpa using hk3
          have q4 : (j.v.kind == 4) = false := by simpa using hk4
          have q5 : (j.v.kind == 5) = false := by simpa using hk5
          clear hk1 hk2 hk3 hk4 hk5
          go_enter Tryz.func14, Tryz.ntmps14
          go_wp2_with (first
            | (refine wpl_newbox 3 rfl rfl 26 rfl rfl (.tmp 8) rfl _ zeroV (leafJ j.v.kind false 0 ⟨#[]⟩).cells rfl rfl info_value rfl (jv_one _) ?_; intro w3 hw; have hb := hid_grow hw; have B3 := (hid_alloc hw).1; have hz3 := Lib.hid (hid_alloc hw).2.1; replace B1 := IBox.below B1 hb (IBox.lt B1); replace B2 := IBox.below B2 hb (IBox.lt B2); replace HB := HB.trans (hb.mono HB.size); replace HJ := HJ.below hb; clear hb hw; clear c1_0; have c1_0 : w3.cell? ⟨_, 0, none⟩ = some (.int .i64 j.v.kind) := (B1.cell 0).trans (by rfl); have c1_1 : w3.cell? ⟨_, 1, none⟩ = some (.bool j.v.b) := B1.cell 1; have c1_2 : w3.cell? ⟨_, 2, none⟩ = some (.int .i64 j.v.i) := B1.cell 2; have c1_3 : w3.cell? ⟨_, 3, none⟩ = some (.string j.v.t) := B1.cell 3; have c1_4 : w3.cell? ⟨_, 4, none⟩ = some (.slice j.v.LA j.v.Ln j.v.Lc) := B1.cell 4; have c1_5 : w3.cell? ⟨_, 5, none⟩ = some (.slice j.v.FA j.v.Fn j.v.Fc) := B1.cell 5; have hzz : w1.heap.size = w.heap.size + 1 ∧ w2.heap.size = w.heap.size + 2 ∧ w3.heap.size = w.heap.size + 3 := (by have := hz1.out; have := hz2.out; have := hz3.out; omega); have HZ := Lib.hid hzz; clear hzz hz1 hz2 hz3)
            | (refine wpl_box_at rfl 26 (.tmp 0) rfl _ rfl ?_; intro w1 hw; have hb := hid_grow hw; have B1 := (hid_alloc hw).1; have hz1 := Lib.hid (hid_alloc hw).2.1; replace HB := HB.trans (hb.mono HB.size); replace HJ := HJ.below hb; clear hb hw)
            | ((with_reducible refine is_alloc ?_); refine wpl_alloc_at rfl 26 rfl _ zeroV ?_; intro w2 hw; have hb := hid_grow hw; have B2 := hid_alloc0 hw; have hz2 := Lib.hid (hid_alloc hw).2.1; replace B1 := IBox.below B1 hb (IBox.lt B1); replace HB := HB.trans (hb.mono HB.size); replace HJ := HJ.below hb; clear hb hw; have c1_0 : w2.cell? ⟨_, 0, none⟩ = some (.int .i64 j.v.kind) := (B1.cell 0).trans (by rfl))
            | ((with_reducible refine is_build ?_); refine wpl_build_at (vals := _) (pbl_kind j.v.kind) rfl _ rfl rfl ?_)
            | ((with_reducible refine is_load ?_); refine wpl_load_box rfl 26 (.tmp 3) rfl _ rfl _ (leafJ j.v.kind false 0 ⟨#[]⟩).cells _ B3 Tryz.underlying26 rfl info_value ?_)
            | ((with_reducible refine is_store ?_); refine wpl_store_at rfl 26 (.tmp 2) (.tmp 74) rfl w1.heap.size (leafJ j.v.kind false 0 ⟨#[]⟩).cells rfl rfl _ _ B2 info_value rfl (jv_one _) ?_; intro w5 hw; have hbe := Bes.row (X := fun q => q = w1.heap.size) hw rfl; replace HB := HB.trans (Bes.below hbe (fun q e => by have e2 : q = w1.heap.size := e; have := HZ.out; omega) HB.size); replace B2 := hid_row hw B2; clear hw hbe))
          refine bodyPost_ret (results_box rfl _ _ w1.heap.size _ (leafJ j.v.kind false 0 ⟨#[]⟩).cells _ rfl B2 Tryz.underlying26 rfl info_value) rfl ?_
          exact pn_leaf HI.out.1 mi0 mze HK.out HB
end
end Go.Proofs.YtjhncopbiblenaaGreatDoor
namespace Go.Proofs.YtjhncopbiblenaaGreatDoor
section
open Go.RowKit Go.PlainAid
set_option linter.unusedVariables false
set_option linter.unusedSimpArgs false

/-- What a round reads: the parameter's box and one element. -/
def LS (g bl off : Nat) (jc : Array Value) (xs : List Value) (w : World) : Prop := IBox w g 26 jc ∧ w.rangeAt bl off xs
theorem range_block {w w' : World} {b o : Nat} {cs : List Value} (e : w'.heap[b]? = w.heap[b]?) (h : w.rangeAt b o cs) : w'.rangeAt b o cs := fun j v hv => by
  have := h j v hv
  unfold World.cell? at this ⊢
  simp only [e]
  exact this
theorem LS.to {g bl off : Nat} {jc : Array Value} {xs : List Value} {w w' : World} (h : LS g bl off jc xs w) (e : ∀ k, k = g ∨ k = bl → w'.heap[k]? = w.heap[k]?) : LS g bl off jc xs w' :=
  ⟨(e g (.inl rfl)).trans h.1, range_block (e bl (.inr rfl)) h.2⟩
theorem LS.lt {g bl off : Nat} {t : Array Value} {j : JV} {w : World} (h : LS g bl off t j.cells.toList w) {k : Nat} (hk : k = g ∨ k = bl) : k < w.heap.size := by
  rcases hk with rfl | rfl
  · exact h.1.lt
  · exact block_lt_of_cell (h.2 0 (.int .i64 j.v.kind) rfl)
theorem pk_list {b1 g : Nat} {arr : Array Value} {A : Option Addr} {c : Nat} {acc : List JV} {w : World} (h : PK b1 g 26 6 arr (.slice A acc.length c) acc.length (valL acc) acc w) (hb : acc.length * 80 ≤ reach) : IsJV w (listJ A c acc) ∧ Off (fun q => q < b1) (listJ A c acc) := by
  obtain ⟨A', c', he, hj, _⟩ := own_vals h.own rfl (fun x hx => (h.els x hx).1) hb
  injection he with e1 _ e3
  subst e1 e3
  refine ⟨hj, ?_⟩
  unfold listJ Off
  refine ⟨fun _ a ha e => ?_, fun h => absurd rfl h, offL_of fun x hx => Off.mono (fun q e => Or.inl e) (h.els x hx).2, by unfold OffL; exact True.intro⟩
  have h1 := own_at h.own a ha
  have e2 : a.block < b1 := e
  omega
theorem er_pl {n : Nat} (A : Option Addr) (c : Nat) (acc : List JV) (L : List JT) (h : acc.map er = L.take n) (hn : L.length = n) : er (listJ A c acc) = .mk 4 false 0 ⟨#[]⟩ L [] [] := by
  rw [List.take_of_length_le (by omega)] at h
  rw [← h, ← erL_map]
  unfold listJ
  rw [er_mk]
  rfl
theorem pk_round {j x k : JV} {acc : List JV} {b1 g ga cap : Nat} {w3 w : World} (h : PK b1 g 26 6 (#[.int .i64 4, .bool false, .int .i64 0, .string ⟨#[]⟩, .slice (some ⟨ga, 0, none⟩) (acc.length + 1) cap, .slice none 0 0] : Array Value) (.slice (some ⟨ga, 0, none⟩) (acc.length + 1) cap) (acc.length + 1) (valL acc ++ k.cells.toList) (acc ++ [k]) w)
    (hac : acc.map er = (plnL (erL j.l)).take acc.length) (hk : er k = plnT (er x)) (hx : j.l[acc.length]? = some x) (hl : acc.length < j.v.Ln) (hb : Below g w3 w) :
    (∃ (q : Nat) (A : Option Addr) (c : Nat) (acc_1 : List JV), Value.int .i64 ((acc.length : Int) + 1) = .int .i64 q ∧ q ≤ j.v.Ln ∧ acc_1.length = q ∧ Hid (acc_1.map er = (plnL (erL j.l)).take q) ∧ PK b1 g 26 6 (#[.int .i64 4, .bool false, .int .i64 0, .string ⟨#[]⟩, .slice A acc_1.length c, .slice none 0 0] : Array Value) (.slice A acc_1.length c) acc_1.length (valL acc_1) acc_1 w ∧ Below g w3 w) ∧
      j.v.Ln - (intOf (Value.int .i64 ((acc.length : Int) + 1))).toNat < j.v.Ln - (intOf (Value.int .i64 (acc.length : Int))).toNat := by
  refine ⟨⟨acc.length + 1, some ⟨ga, 0, none⟩, cap, acc ++ [k], by simp, hl, by simp, Lib.hid ?_, ?_, hb⟩, ?_⟩
  · rw [take_next (x := er k) (by rw [plnL_map, erL_map, hk]; simp [hx]), ← hac, List.map_append]
    rfl
  · rw [valL_app, valL_one, List.length_append]
    exact h
  · show j.v.Ln - ((acc.length : Int) + 1).toNat < j.v.Ln - ((acc.length : Int)).toNat
    omega
theorem pval_fill (j : JV) : Instr.fill (fun i => some (i * 6, 6)) ((Array.range (1 * 6)).map ((Value.agg JV.zero.cells).cells[· % (Value.agg JV.zero.cells).cells.size]!)) [(0, .agg j.cells)] = some j.cells := by kernel_rfl
theorem yields_rangeS {P : Program} {ops : Array Oper} {S : World → Prop} {o : Oper} {a : Act} (hw : Region.wanted o (yielded ops a.tmps) = true) (ty : TypeId) (x : Operand) (ho : o.op = .load ty x) (b off : Nat)
    (hx : a.eval x = .pointer (some ⟨b, off, none⟩)) (arr : Array Value) (d : TypeDesc)
    (hc : ∀ w', S w' → w'.rangeAt b off arr.toList) (hu : P.underlying ty = some d) (hd : d.isRow = true) (hi : (P.info? ty).map (·.size) = some arr.size) :
    YieldsIf P ops S o (.agg arr) a := by
  have := yieldsIf_load_mid (P := P) (S := S) hw ty x ho b off hx arr.toList d hc hu hd (by simpa using hi)
  rwa [Array.toArray_toList] at this
set_option maxRecDepth 100000 in
set_option maxHeartbeats 8000000 in
theorem pn_list {j : JV} {w : World} (HJ : IsJV w j) (hs : SzT (er j) ≤ 1048576) (IH : Hid (∀ (x : JV) (w : World), SizeOf.sizeOf x < SizeOf.sizeOf j → IsJV w x → SzT (er x) ≤ 1048576 → Calls Tryz.prog 14 #[.agg x.cells] w (PnV x w))) (hk4 : j.v.kind = 4) : Calls Tryz.prog 14 #[.agg j.cells] w (PnV j w) := by
    obtain ⟨l1, l2, l3, l4, l5⟩ := jv_lens HJ
    obtain ⟨s1, s2, s3, s4⟩ := sz_parts j
    have hI : I64 j.v.kind ∧ I64 j.v.i ∧ j.v.t.size ≤ reach := by obtain ⟨v, _, _, _⟩ := j; unfold IsJV at HJ; exact ⟨HJ.1.1, HJ.1.2.1, HJ.1.2.2.1⟩
    have HI := Lib.hid hI
    have HP := Lib.hid (pln_eq j)
    have LL := Lib.hid l1
    have LV := Lib.hid l2
    have LN := Lib.hid l3
    have S3 := Lib.hid s3
    have S4 := Lib.hid s4
    have HSS := Lib.hid hs
    have hLn : j.v.Ln ≤ 1048576 := by omega
    have hFn : j.v.Fn ≤ 1048576 := by omega
    clear l1 l2 l3 hI s1 s2 s3 s4 hs
    have HB := Below.refl w.heap.size w
    have hk1 : j.v.kind ≠ 1 := by omega
    have hk2 : j.v.kind ≠ 2 := by omega
    have hk3 : j.v.kind ≠ 3 := by omega
    have HK : Hid (plnT (er j) = .mk 4 false 0 ⟨#[]⟩ (plnL (erL j.l)) [] []) := Lib.hid (by rw [HP.out, if_neg hk1, if_neg hk2, if_neg hk3, if_pos hk4, hk4])
    have HKD := Lib.hid hk4
    have HJ0 := HJ
    clear hk1 hk2 hk3 hk4
    obtain ⟨ie, z, hie1, hie2, hie3, hie4, hz⟩ := val_slice0
    subst hz
    go_enter Tryz.func14, Tryz.ntmps14
    go_wp2_with (first
      | (refine wpl_newbox 3 rfl rfl 26 rfl rfl (.tmp 8) rfl _ zeroV (leafJ 4 false 0 ⟨#[]⟩).cells rfl rfl info_value rfl (jv_one _) ?_; intro w3 hw; have hb := hid_grow hw; have B3 := (hid_alloc hw).1; have hz3 := Lib.hid (hid_alloc hw).2.1; replace B1 := IBox.below B1 hb (IBox.lt B1); replace B2 := IBox.below B2 hb (IBox.lt B2); replace HB := HB.trans (hb.mono HB.size); replace HJ := HJ.below hb; clear hb hw; clear c1_0; have c1_0 : w3.cell? ⟨_, 0, none⟩ = some (.int .i64 4) := (B1.cell 0).trans (by rw [← HKD.out]; rfl); have c1_1 : w3.cell? ⟨_, 1, none⟩ = some (.bool j.v.b) := B1.cell 1; have c1_2 : w3.cell? ⟨_, 2, none⟩ = some (.int .i64 j.v.i) := B1.cell 2; have c1_3 : w3.cell? ⟨_, 3, none⟩ = some (.string j.v.t) := B1.cell 3; have c1_4 : w3.cell? ⟨_, 4, none⟩ = some (.slice j.v.LA j.v.Ln j.v.Lc) := B1.cell 4; have c1_5 : w3.cell? ⟨_, 5, none⟩ = some (.slice j.v.FA j.v.Fn j.v.Fc) := B1.cell 5; have hzz : w1.heap.size = w.heap.size + 1 ∧ w2.heap.size = w.heap.size + 2 ∧ w3.heap.size = w.heap.size + 3 := (by have := hz1.out; have := hz2.out; have := hz3.out; omega); have HZ := Lib.hid hzz; clear hzz hz1 hz2 hz3)
      | (refine wpl_box_at rfl 26 (.tmp 0) rfl _ rfl ?_; intro w1 hw; have hb := hid_grow hw; have B1 := (hid_alloc hw).1; have hz1 := Lib.hid (hid_alloc hw).2.1; replace HB := HB.trans (hb.mono HB.size); replace HJ := HJ.below hb; clear hb hw)
      | ((with_reducible refine is_alloc ?_); refine wpl_alloc_at rfl 26 rfl _ zeroV ?_; intro w2 hw; have hb := hid_grow hw; have B2 := hid_alloc0 hw; have hz2 := Lib.hid (hid_alloc hw).2.1; replace B1 := IBox.below B1 hb (IBox.lt B1); replace HB := HB.trans (hb.mono HB.size); replace HJ := HJ.below hb; clear hb hw; have c1_0 : w2.cell? ⟨_, 0, none⟩ = some (.int .i64 4) := (B1.cell 0).trans (by rw [← HKD.out]; rfl))
      | ((with_reducible refine is_build ?_); refine wpl_build_at (vals := _) (pbl_kind 4) rfl _ rfl rfl ?_))
    clear c1_0 c1_1 c1_2 c1_3
    go_loopw [4] (fun iv wr => ∃ (q : Nat) (A : Option Addr) (c : Nat) (acc : List JV), iv = .int .i64 q ∧ q ≤ j.v.Ln ∧ acc.length = q ∧ Hid (acc.map er = (plnL (erL j.l)).take q) ∧ PK w3.heap.size w2.heap.size 26 6 (#[.int .i64 4, .bool false, .int .i64 0, .string ⟨#[]⟩, .slice A acc.length c, .slice none 0 0] : Array Value) (.slice A acc.length c) acc.length (valL acc) acc wr ∧ Below w2.heap.size w3 wr) (fun iv _ => j.v.Ln - (intOf iv).toNat)
    case atStart => exact ⟨0, none, 0, [], rfl, Nat.zero_le _, rfl, Lib.hid rfl, ⟨B3, ⟨rfl, .inl ⟨rfl, rfl⟩⟩, (fun y hy => by cases hy), ⟨Nat.lt_of_lt_of_le (by have := HZ.out; omega) (Nat.le_refl _), Nat.le_refl _⟩⟩, Below.refl _ _⟩
    case round =>
      obtain ⟨_, A, c, acc, rfl, hq, rfl, HAC, HL, hbq⟩ := hrel
      have HL0 : w2.heap.size < w3.heap.size := by have := HZ.out; omega
      have c1_4 : wr.cell? ⟨_, 4, none⟩ = some (.slice j.v.LA j.v.Ln j.v.Lc) := (IBox.below B1 hbq (by have := HZ.out; omega)).cell 4
      by_cases hqL : acc.length < j.v.Ln
      · obtain ⟨bl, off, x, hla, hx, hrg, HX⟩ := jv_elem HJ0 (show acc.length < j.l.length from LL.out ▸ hqL)
        have HXS := Lib.hid (size_l hx)
        have HXZ := Lib.hid (Nat.le_trans (S3.out _ x hx) HSS.out)
        have hblw : bl < w.heap.size := block_lt_of_cell (hrg 0 (.int .i64 x.v.kind) rfl)
        have HB3 : Below w.heap.size w wr := HB.trans (hbq.mono (by have := HZ.out; omega))
        have HS0 : LS w.heap.size bl (off + acc.length * 6) j.cells x.cells.toList wr := ⟨IBox.below B1 hbq (by have := HZ.out; omega), range_below HB3 hrg⟩
        have HSG : Hid (∀ k, k = w.heap.size ∨ k = bl → k < w3.heap.size) := Lib.hid (fun k hk => by have := HZ.out; omega)
        have HSL : Hid (∀ k, k = w.heap.size ∨ k = bl → k < w2.heap.size) := Lib.hid (fun k hk => by have := HZ.out; omega)
        have HX1 := Lib.hid hx
        have HLA := Lib.hid hla
        clear hx hla hrg HB3 hblw
        go_wp2
        refine wp_region_S (S := LS w.heap.size bl (off + acc.length * 6) j.cells x.cells.toList) (by kernel_rfl) (fun w5 hh => HS0.to (fun k _ => by rw [hh])) (fun w5 hh hbb HS => ?_)
        have hb := hbb _ (Nat.le_refl _)
        replace hbq := hbq.trans (hb.mono (Nat.le_trans (Nat.le_of_lt HL0) HL.st.2))
        replace HL := HL.below hb
        clear hb hbb hh HS0 c1_4
        refine wpAnyH_take (i := 0) (oi := ⟨some 35, _, _, _, _, _⟩) (v := ?_) rfl (by kernel_rfl) (by kernel_rfl) (by kernel_rfl) (fun _ _ _ h => h) (Or.inl ⟨by kernel_rfl, ?_⟩) (by assumption) ?_
        rotate_left
        · (intro w hSw; (try dsimp only at hSw); go_simp; try with_reducible rfl)
        try simp only [Act.put, List.setIfInBounds_toArray, List.set_cons_zero, List.set_cons_succ]
        refine wpAnyH_take (i := 2) (oi := ⟨some 37, _, _, _, _, _⟩) (v := ?_) rfl (by kernel_rfl) (by kernel_rfl) (by kernel_rfl) (fun _ _ _ h => h) (Or.inl ⟨by kernel_rfl, ?_⟩) (by assumption) ?_
        rotate_left
        · (intro w hSw; (try dsimp only at hSw); go_simp; try with_reducible rfl)
        try simp only [Act.put, List.setIfInBounds_toArray, List.set_cons_zero, List.set_cons_succ]
        refine wpAnyH_take (i := 3) (oi := ⟨some 38, _, _, _, _, _⟩) (v := ?_) rfl (by kernel_rfl) (by kernel_rfl) (by kernel_rfl) (fun _ _ _ h => h) (Or.inl ⟨by kernel_rfl, ?_⟩) (by assumption) ?_
        rotate_left
        · (intro w hSw; (try dsimp only at hSw); have : w.cell? ⟨_, 4, none⟩ = some (.slice (some ⟨bl, off, none⟩) j.v.Ln j.v.Lc) := (by rw [← HLA.out]; exact hSw.1.cell 4); go_simp; try with_reducible rfl)
        try simp only [Act.put, List.setIfInBounds_toArray, List.set_cons_zero, List.set_cons_succ]
        refine wpAnyH_take (i := 4) (oi := ⟨some 39, _, _, _, _, _⟩) (v := ?_) rfl (by kernel_rfl) (by kernel_rfl) (by kernel_rfl) (fun _ _ _ h => h) (Or.inl ⟨by kernel_rfl, ?_⟩) (by assumption) ?_
        rotate_left
        · (intro w hSw; (try dsimp only at hSw); go_simp; try with_reducible rfl)
        try simp only [Act.put, List.setIfInBounds_toArray, List.set_cons_zero, List.set_cons_succ]
        refine wpAnyH_take (i := 5) (oi := ⟨some 40, _, _, _, _, _⟩) (v := ?_) rfl (by kernel_rfl) (by kernel_rfl) (by kernel_rfl) (fun _ _ _ h => h) (Or.inl ⟨by kernel_rfl, ?_⟩) (by assumption) ?_
        rotate_left
        · (intro w hSw; (try dsimp only at hSw); go_simp; try with_reducible rfl)
        try simp only [Act.put, List.setIfInBounds_toArray, List.set_cons_zero, List.set_cons_succ]
        refine wpAnyH_take (i := 6) (oi := ⟨some 41, _, _, _, _, _⟩) (v := _) rfl (by kernel_rfl) (by kernel_rfl) (by kernel_rfl) (fun _ _ _ h => h) (yields_rangeS (by kernel_rfl) _ _ rfl _ _ rfl _ _ (fun _ h => h.2) Tryz.underlying26 rfl info_value) (by assumption) ?_
        try simp only [Act.put, List.setIfInBounds_toArray, List.set_cons_zero, List.set_cons_succ]
        refine wpAnyH_ready (rs := [1, 7]) (by kernel_rfl) (by simp) ?_
        refine AllReadyH.cons (o := ⟨some 36, _, _, _, _, _⟩) rfl (fun K hK => ?_) ?_
        · have cg : _ = some (Value.slice A acc.length c) := HL.box.cell 4
          go_simp
          clear cg
          refine hK.out _ _ HS (fun hS2 => ?_)
          clear hK K hS2
          try simp only [Act.put, List.setIfInBounds_toArray, List.set_cons_zero, List.set_cons_succ]
          refine wpAnyH_ready (rs := [7]) (by kernel_rfl) (by simp) ?_
          refine AllReadyH.cons (o := ⟨some 42, _, _, _, _, _⟩) rfl (fun K hK => ?_) AllReadyH.nil
          go_simp
          (go_at_call 14; (with_reducible refine (IH.out x _ HXS.out (IsJV.below (HB.trans (hbq.mono (by have := HZ.out; omega))) HX) HXZ.out).mono ?_); rintro e w9 ⟨k, rfl, HK1, HK2, HK3, hb⟩)
          have HLs := HL.st.2
          have HLo := HL.own
          replace HS := HS.to (fun k hk => hb.block k (HS.lt hk))
          replace HL := HL.below hb
          replace hbq := hbq.trans (hb.mono (Nat.le_trans (Nat.le_of_lt HL0) HLs))
          clear hb
          have HKO : Off (fun q => q < w3.heap.size ∨ (Value.slice A acc.length c).ownBlock = some q) k := Off.mono (fun q e => e.elim (fun h => Nat.lt_of_lt_of_le h HLs) (fun h => (own_in HLo h).2)) HK3
          clear HLs HLo HK3
          refine hK.out _ _ HS (fun hS2 => ?_)
          clear hK K hS2
          try simp only [Act.put, List.setIfInBounds_toArray, List.set_cons_zero, List.set_cons_succ]
          refine wpAnyH_ready (rs := [8]) (by kernel_rfl) (by simp) ?_
          refine AllReadyH.cons (o := ⟨some 43, _, _, _, _, _⟩) rfl (fun K hK => ?_) AllReadyH.nil
          simp only [Region.wanted, if_true]
          refine op_slice_at 1 _ _ ie _ (by rw [hie3]; exact pval_fill k) 23 26 _ rfl rfl rfl hie1 hie2 (by rw [hie3]; decide) (by rw [hie3]; decide) ?_
          intro w10 hw
          have hb := hid_grow hw
          have BN := (hid_alloc hw).1
          replace HK1 := IsJV.below hb HK1
          have HLs := HL.st.2
          have HLo := HL.own
          replace HS := HS.to (fun k hk => hb.block k (HS.lt hk))
          replace HL := HL.below hb
          replace hbq := hbq.trans (hb.mono (Nat.le_trans (Nat.le_of_lt HL0) HLs))
          clear hb
          clear HLs HLo hw
          refine hK.out _ _ HS (fun hS2 => ?_)
          clear hK K hS2
          try simp only [Act.put, List.setIfInBounds_toArray, List.set_cons_zero, List.set_cons_succ]
          refine wpAnyH_ready (rs := [9]) (by kernel_rfl) (by simp) ?_
          refine AllReadyH.cons (o := ⟨some 44, _, _, _, _, _⟩) rfl (fun K hK => ?_) AllReadyH.nil
          simp only [Region.wanted, if_true]
          refine op_append_at _ _ 23 rfl w3.heap.size 26 ie _ 6 88 rfl hie1 hie2 hie3 hie4 rfl (by decide) (.slice A acc.length c) acc.length (valL acc) rfl HL.own _ _ _ _ BN (by rfl) rfl (jv_one _) (by unfold maxLen; omega) (by omega) HL.st.2 ?_
          intro ga cap w11 HO2 hgrow hat hlt
          have hbe := Bes.grown (X := fun q => (Value.slice A acc.length c).ownBlock = some q) hgrow (fun _ h => h)
          have hlo : ∀ q, (Value.slice A acc.length c).ownBlock = some q → w3.heap.size ≤ q := fun q e => (own_in HL.own e).1
          replace HS := HS.to (fun k hk => hbe.block k (HS.lt hk) (fun e => Nat.lt_irrefl _ (Nat.lt_of_lt_of_le (HSG.out k hk) (hlo k e))))
          replace hbq := hbq.trans (Bes.below hbe (fun q e => Nat.le_trans (Nat.le_of_lt HL0) (hlo q e)) (Nat.le_trans (Nat.le_of_lt HL0) HL.st.2))
          have HL2 := HL.more HO2 hbe (hat.elim (fun h => .inl h.symm) (fun h => .inr (congrArg some h))) HK1 HKO
          clear hbe hlo hat hlt HO2 HL hgrow BN
          refine hK.out _ _ HS (fun hS2 => ?_)
          clear hK K hS2
          try simp only [Act.put, List.setIfInBounds_toArray, List.set_cons_zero, List.set_cons_succ]
          refine wpAnyH_take (i := 10) (oi := ⟨some 45, _, _, _, _, _⟩) (v := ?_) rfl (by kernel_rfl) (by kernel_rfl) (by kernel_rfl) (fun _ _ _ h => h) (Or.inl ⟨by kernel_rfl, ?_⟩) (by assumption) ?_
          rotate_left
          · (intro w hSw; (try dsimp only at hSw); go_simp; try with_reducible rfl)
          try simp only [Act.put, List.setIfInBounds_toArray, List.set_cons_zero, List.set_cons_succ]
          refine wpAnyH_ready (rs := [11]) (by kernel_rfl) (by simp) ?_
          refine AllReadyH.cons (o := ⟨none, _, _, _, _, _⟩) rfl (fun K hK => ?_) AllReadyH.nil
          simp only [Region.wanted, if_true]
          refine op_store_cell 23 _ _ rfl w2.heap.size 4 rfl (.slice (some ⟨ga, 0, none⟩) (acc.length + 1) cap) rfl _ _ HL2.box (show 4 < 6 by decide) psz_sv rfl ?_
          intro w12 hw
          have hbe := Bes.row (X := fun q => q = w2.heap.size) hw rfl
          replace HS := HS.to (fun k hk => hbe.block k (HS.lt hk) (fun e => by have h1 := HSL.out k hk; have e2 : k = w2.heap.size := e; omega))
          replace hbq := hbq.trans (Bes.below hbe (fun q e => by have e2 : q = w2.heap.size := e; omega) (Nat.le_trans (Nat.le_of_lt HL0) HL2.st.2))
          have HL3 := PK.put HL2 (arr2 := #[.int .i64 4, .bool false, .int .i64 0, .string ⟨#[]⟩, .slice (some ⟨ga, 0, none⟩) (acc.length + 1) cap, .slice none 0 0]) hw
          clear hbe hw HL2
          refine hK.out _ _ HS (fun hS2 => ?_)
          clear hK K hS2
          try simp only [Act.put, List.setIfInBounds_toArray, List.set_cons_zero, List.set_cons_succ]
          refine wpAnyH_done (by kernel_rfl) ?_ _
          clear HS
          go_wp2
          exact pk_round HL3 HAC.out HK2 HX1.out hqL hbq
        refine AllReadyH.cons (o := ⟨some 42, _, _, _, _, _⟩) rfl (fun K hK => ?_) AllReadyH.nil
        go_simp
        (go_at_call 14; (with_reducible refine (IH.out x _ HXS.out (IsJV.below (HB.trans (hbq.mono (by have := HZ.out; omega))) HX) HXZ.out).mono ?_); rintro e w9 ⟨k, rfl, HK1, HK2, HK3, hb⟩)
        have HLs := HL.st.2
        have HLo := HL.own
        replace HS := HS.to (fun k hk => hb.block k (HS.lt hk))
        replace HL := HL.below hb
        replace hbq := hbq.trans (hb.mono (Nat.le_trans (Nat.le_of_lt HL0) HLs))
        clear hb
        have HKO : Off (fun q => q < w3.heap.size ∨ (Value.slice A acc.length c).ownBlock = some q) k := Off.mono (fun q e => e.elim (fun h => Nat.lt_of_lt_of_le h HLs) (fun h => (own_in HLo h).2)) HK3
        clear HLs HLo HK3
        refine hK.out _ _ HS (fun hS2 => ?_)
        clear hK K hS2
        try simp only [Act.put, List.setIfInBounds_toArray, List.set_cons_zero, List.set_cons_succ]
        refine wpAnyH_ready (rs := [1, 8]) (by kernel_rfl) (by simp) ?_
        refine AllReadyH.cons (o := ⟨some 36, _, _, _, _, _⟩) rfl (fun K hK => ?_) ?_
        · have cg : _ = some (Value.slice A acc.length c) := HL.box.cell 4
          go_simp
          clear cg
          refine hK.out _ _ HS (fun hS2 => ?_)
          clear hK K hS2
          try simp only [Act.put, List.setIfInBounds_toArray, List.set_cons_zero, List.set_cons_succ]
          refine wpAnyH_ready (rs := [8]) (by kernel_rfl) (by simp) ?_
          refine AllReadyH.cons (o := ⟨some 43, _, _, _, _, _⟩) rfl (fun K hK => ?_) AllReadyH.nil
          simp only [Region.wanted, if_true]
          refine op_slice_at 1 _ _ ie _ (by rw [hie3]; exact pval_fill k) 23 26 _ rfl rfl rfl hie1 hie2 (by rw [hie3]; decide) (by rw [hie3]; decide) ?_
          intro w10 hw
          have hb := hid_grow hw
          have BN := (hid_alloc hw).1
          replace HK1 := IsJV.below hb HK1
          have HLs := HL.st.2
          have HLo := HL.own
          replace HS := HS.to (fun k hk => hb.block k (HS.lt hk))
          replace HL := HL.below hb
          replace hbq := hbq.trans (hb.mono (Nat.le_trans (Nat.le_of_lt HL0) HLs))
          clear hb
          clear HLs HLo hw
          refine hK.out _ _ HS (fun hS2 => ?_)
          clear hK K hS2
          try simp only [Act.put, List.setIfInBounds_toArray, List.set_cons_zero, List.set_cons_succ]
          refine wpAnyH_ready (rs := [9]) (by kernel_rfl) (by simp) ?_
          refine AllReadyH.cons (o := ⟨some 44, _, _, _, _, _⟩) rfl (fun K hK => ?_) AllReadyH.nil
          simp only [Region.wanted, if_true]
          refine op_append_at _ _ 23 rfl w3.heap.size 26 ie _ 6 88 rfl hie1 hie2 hie3 hie4 rfl (by decide) (.slice A acc.length c) acc.length (valL acc) rfl HL.own _ _ _ _ BN (by rfl) rfl (jv_one _) (by unfold maxLen; omega) (by omega) HL.st.2 ?_
          intro ga cap w11 HO2 hgrow hat hlt
          have hbe := Bes.grown (X := fun q => (Value.slice A acc.length c).ownBlock = some q) hgrow (fun _ h => h)
          have hlo : ∀ q, (Value.slice A acc.length c).ownBlock = some q → w3.heap.size ≤ q := fun q e => (own_in HL.own e).1
          replace HS := HS.to (fun k hk => hbe.block k (HS.lt hk) (fun e => Nat.lt_irrefl _ (Nat.lt_of_lt_of_le (HSG.out k hk) (hlo k e))))
          replace hbq := hbq.trans (Bes.below hbe (fun q e => Nat.le_trans (Nat.le_of_lt HL0) (hlo q e)) (Nat.le_trans (Nat.le_of_lt HL0) HL.st.2))
          have HL2 := HL.more HO2 hbe (hat.elim (fun h => .inl h.symm) (fun h => .inr (congrArg some h))) HK1 HKO
          clear hbe hlo hat hlt HO2 HL hgrow BN
          refine hK.out _ _ HS (fun hS2 => ?_)
          clear hK K hS2
          try simp only [Act.put, List.setIfInBounds_toArray, List.set_cons_zero, List.set_cons_succ]
          refine wpAnyH_take (i := 10) (oi := ⟨some 45, _, _, _, _, _⟩) (v := ?_) rfl (by kernel_rfl) (by kernel_rfl) (by kernel_rfl) (fun _ _ _ h => h) (Or.inl ⟨by kernel_rfl, ?_⟩) (by assumption) ?_
          rotate_left
          · (intro w hSw; (try dsimp only at hSw); go_simp; try with_reducible rfl)
          try simp only [Act.put, List.setIfInBounds_toArray, List.set_cons_zero, List.set_cons_succ]
          refine wpAnyH_ready (rs := [11]) (by kernel_rfl) (by simp) ?_
          refine AllReadyH.cons (o := ⟨none, _, _, _, _, _⟩) rfl (fun K hK => ?_) AllReadyH.nil
          simp only [Region.wanted, if_true]
          refine op_store_cell 23 _ _ rfl w2.heap.size 4 rfl (.slice (some ⟨ga, 0, none⟩) (acc.length + 1) cap) rfl _ _ HL2.box (show 4 < 6 by decide) psz_sv rfl ?_
          intro w12 hw
          have hbe := Bes.row (X := fun q => q = w2.heap.size) hw rfl
          replace HS := HS.to (fun k hk => hbe.block k (HS.lt hk) (fun e => by have h1 := HSL.out k hk; have e2 : k = w2.heap.size := e; omega))
          replace hbq := hbq.trans (Bes.below hbe (fun q e => by have e2 : q = w2.heap.size := e; omega) (Nat.le_trans (Nat.le_of_lt HL0) HL2.st.2))
          have HL3 := PK.put HL2 (arr2 := #[.int .i64 4, .bool false, .int .i64 0, .string ⟨#[]⟩, .slice (some ⟨ga, 0, none⟩) (acc.length + 1) cap, .slice none 0 0]) hw
          clear hbe hw HL2
          refine hK.out _ _ HS (fun hS2 => ?_)
          clear hK K hS2
          try simp only [Act.put, List.setIfInBounds_toArray, List.set_cons_zero, List.set_cons_succ]
          refine wpAnyH_done (by kernel_rfl) ?_ _
          clear HS
          go_wp2
          exact pk_round HL3 HAC.out HK2 HX1.out hqL hbq
        refine AllReadyH.cons (o := ⟨some 43, _, _, _, _, _⟩) rfl (fun K hK => ?_) AllReadyH.nil
        simp only [Region.wanted, if_true]
        refine op_slice_at 1 _ _ ie _ (by rw [hie3]; exact pval_fill k) 23 26 _ rfl rfl rfl hie1 hie2 (by rw [hie3]; decide) (by rw [hie3]; decide) ?_
        intro w10 hw
        have hb := hid_grow hw
        have BN := (hid_alloc hw).1
        replace HK1 := IsJV.below hb HK1
        have HLs := HL.st.2
        have HLo := HL.own
        replace HS := HS.to (fun k hk => hb.block k (HS.lt hk))
        replace HL := HL.below hb
        replace hbq := hbq.trans (hb.mono (Nat.le_trans (Nat.le_of_lt HL0) HLs))
        clear hb
        clear HLs HLo hw
        refine hK.out _ _ HS (fun hS2 => ?_)
        clear hK K hS2
        try simp only [Act.put, List.setIfInBounds_toArray, List.set_cons_zero, List.set_cons_succ]
        refine wpAnyH_ready (rs := [1]) (by kernel_rfl) (by simp) ?_
        refine AllReadyH.cons (o := ⟨some 36, _, _, _, _, _⟩) rfl (fun K hK => ?_) AllReadyH.nil
        have cg : _ = some (Value.slice A acc.length c) := HL.box.cell 4
        go_simp
        clear cg
        refine hK.out _ _ HS (fun hS2 => ?_)
        clear hK K hS2
        try simp only [Act.put, List.setIfInBounds_toArray, List.set_cons_zero, List.set_cons_succ]
        refine wpAnyH_ready (rs := [9]) (by kernel_rfl) (by simp) ?_
        refine AllReadyH.cons (o := ⟨some 44, _, _, _, _, _⟩) rfl (fun K hK => ?_) AllReadyH.nil
        simp only [Region.wanted, if_true]
        refine op_append_at _ _ 23 rfl w3.heap.size 26 ie _ 6 88 rfl hie1 hie2 hie3 hie4 rfl (by decide) (.slice A acc.length c) acc.length (valL acc) rfl HL.own _ _ _ _ BN (by rfl) rfl (jv_one _) (by unfold maxLen; omega) (by omega) HL.st.2 ?_
        intro ga cap w11 HO2 hgrow hat hlt
        have hbe := Bes.grown (X := fun q => (Value.slice A acc.length c).ownBlock = some q) hgrow (fun _ h => h)
        have hlo : ∀ q, (Value.slice A acc.length c).ownBlock = some q → w3.heap.size ≤ q := fun q e => (own_in HL.own e).1
        replace HS := HS.to (fun k hk => hbe.block k (HS.lt hk) (fun e => Nat.lt_irrefl _ (Nat.lt_of_lt_of_le (HSG.out k hk) (hlo k e))))
        replace hbq := hbq.trans (Bes.below hbe (fun q e => Nat.le_trans (Nat.le_of_lt HL0) (hlo q e)) (Nat.le_trans (Nat.le_of_lt HL0) HL.st.2))
        have HL2 := HL.more HO2 hbe (hat.elim (fun h => .inl h.symm) (fun h => .inr (congrArg some h))) HK1 HKO
        clear hbe hlo hat hlt HO2 HL hgrow BN
        refine hK.out _ _ HS (fun hS2 => ?_)
        clear hK K hS2
        try simp only [Act.put, List.setIfInBounds_toArray, List.set_cons_zero, List.set_cons_succ]
        refine wpAnyH_take (i := 10) (oi := ⟨some 45, _, _, _, _, _⟩) (v := ?_) rfl (by kernel_rfl) (by kernel_rfl) (by kernel_rfl) (fun _ _ _ h => h) (Or.inl ⟨by kernel_rfl, ?_⟩) (by assumption) ?_
        rotate_left
        · (intro w hSw; (try dsimp only at hSw); go_simp; try with_reducible rfl)
        try simp only [Act.put, List.setIfInBounds_toArray, List.set_cons_zero, List.set_cons_succ]
        refine wpAnyH_ready (rs := [11]) (by kernel_rfl) (by simp) ?_
        refine AllReadyH.cons (o := ⟨none, _, _, _, _, _⟩) rfl (fun K hK => ?_) AllReadyH.nil
        simp only [Region.wanted, if_true]
        refine op_store_cell 23 _ _ rfl w2.heap.size 4 rfl (.slice (some ⟨ga, 0, none⟩) (acc.length + 1) cap) rfl _ _ HL2.box (show 4 < 6 by decide) psz_sv rfl ?_
        intro w12 hw
        have hbe := Bes.row (X := fun q => q = w2.heap.size) hw rfl
        replace HS := HS.to (fun k hk => hbe.block k (HS.lt hk) (fun e => by have h1 := HSL.out k hk; have e2 : k = w2.heap.size := e; omega))
        replace hbq := hbq.trans (Bes.below hbe (fun q e => by have e2 : q = w2.heap.size := e; omega) (Nat.le_trans (Nat.le_of_lt HL0) HL2.st.2))
        have HL3 := PK.put HL2 (arr2 := #[.int .i64 4, .bool false, .int .i64 0, .string ⟨#[]⟩, .slice (some ⟨ga, 0, none⟩) (acc.length + 1) cap, .slice none 0 0]) hw
        clear hbe hw HL2
        refine hK.out _ _ HS (fun hS2 => ?_)
        clear hK K hS2
        try simp only [Act.put, List.setIfInBounds_toArray, List.set_cons_zero, List.set_cons_succ]
        refine wpAnyH_done (by kernel_rfl) ?_ _
        clear HS
        go_wp2
        exact pk_round HL3 HAC.out HK2 HX1.out hqL hbq
      · have hqe := Lib.hid (Nat.le_antisymm hq (Nat.le_of_not_lt hqL))
        replace B2 := IBox.below B2 hbq (by have := HZ.out; omega)
        replace HB := HB.trans (hbq.mono (by have := HZ.out; omega))
        have HFJ := pk_list HL (by unfold reach; omega)
        have HFO := HFJ.2
        replace HFJ := HFJ.1
        have B3 := HL.box
        clear HL
        go_wp2_with (first
          | ((with_reducible refine is_load ?_); refine wpl_load_box rfl 26 (.tmp 3) rfl _ rfl _ (listJ A c acc).cells _ B3 Tryz.underlying26 rfl info_value ?_)
          | ((with_reducible refine is_store ?_); refine wpl_store_at rfl 26 (.tmp 2) (.tmp 74) rfl w1.heap.size (listJ A c acc).cells rfl rfl _ _ B2 info_value rfl (jv_one _) ?_; intro w5 hw; have hbe := Bes.row (X := fun q => q = w1.heap.size) hw rfl; replace HB := HB.trans (Bes.below hbe (fun q e => by have e2 : q = w1.heap.size := e; have := HZ.out; omega) HB.size); replace B2 := hid_row hw B2; replace HFJ := IsJV.bes hbe HFJ (Off.mono (fun q e => by have e2 : q = w1.heap.size := e; have := HZ.out; show q < w3.heap.size; omega) HFO); clear hw hbe))
        refine bodyPost_ret (results_box rfl _ _ w1.heap.size _ (listJ A c acc).cells _ rfl B2 Tryz.underlying26 rfl info_value) rfl ?_
        exact ⟨listJ A c acc, rfl, HFJ, (er_pl A c acc _ HAC.out (by rw [plnL_map, List.length_map, erL_len, ← LL.out, hqe.out])).trans HK.out.symm, Off.mono (fun q e => by have := HZ.out; show q < w3.heap.size; have e2 : q < w.heap.size := e; omega) HFO, HB⟩
end
end Go.Proofs.YtjhncopbiblenaaGreatDoor
namespace Go.Proofs.YtjhncopbiblenaaGreatDoor
section
open Go.RowKit Go.PlainAid
set_option linter.unusedVariables false
set_option linter.unusedSimpArgs false

/-- What a round reads: the parameter's box, a name and a value. -/
def LSO (g bl off : Nat) (jc : Array Value) (nm : ByteArray) (xs : List Value) (w : World) : Prop := IBox w g 26 jc ∧ w.cell? ⟨bl, off, none⟩ = some (.string nm) ∧ w.rangeAt bl (off + 1) xs
theorem LSO.to {g bl off : Nat} {jc : Array Value} {nm : ByteArray} {xs : List Value} {w w' : World} (h : LSO g bl off jc nm xs w) (e : ∀ k, k = g ∨ k = bl → w'.heap[k]? = w.heap[k]?) : LSO g bl off jc nm xs w' :=
  ⟨(e g (.inl rfl)).trans h.1, range_block (cs := [.string nm]) (o := off) (e bl (.inr rfl)) (fun j v hv => by cases j with | zero => (obtain rfl : Value.string nm = v := by simpa using hv); exact h.2.1 | succ n => simp at hv) 0 _ rfl, range_block (e bl (.inr rfl)) h.2.2⟩
theorem LSO.lt {g bl off : Nat} {t : Array Value} {nm : ByteArray} {xs : List Value} {w : World} (h : LSO g bl off t nm xs w) {k : Nat} (hk : k = g ∨ k = bl) : k < w.heap.size := by
  rcases hk with rfl | rfl
  · exact h.1.lt
  · exact block_lt_of_cell h.2.1
theorem jv_nm_le {w : World} {j : JV} (h : IsJV w j) {i : Nat} {n : ByteArray} (hn : j.ns[i]? = some n) : n.size ≤ reach := by
  obtain ⟨v, l, ns, vs⟩ := j
  unfold IsJV at h
  exact (NamesAt.get h.1.2.2.2.2.2.2.2.2 hn).2
theorem take_get {α : Type} {l : List α} {n i : Nat} {x : α} (h : (l.take n)[i]? = some x) : l[i]? = some x := by
  rw [List.getElem?_take] at h
  split at h
  · exact h
  · cases h
theorem pk_obj {b1 g : Nat} {arr : Array Value} {A : Option Addr} {c : Nat} {L : List (ByteArray × JV)} {w : World} (h : PK b1 g 58 7 arr (.slice A L.length c) L.length (fldL L) (L.map (·.2)) w) (hn : ∀ p ∈ L, p.1.size ≤ reach) (hb : L.length * 96 ≤ reach) : IsJV w (objJ A c L) ∧ Off (fun q => q < b1) (objJ A c L) := by
  have hm : ∀ p ∈ L, p.2 ∈ L.map (·.2) := fun p hp => List.mem_map.2 ⟨p, hp, rfl⟩
  obtain ⟨A', c', he, hj⟩ := own_obj h.own rfl (fun p hp => ⟨hn p hp, (h.els _ (hm p hp)).1⟩) hb
  injection he with e1 _ e3
  subst e1 e3
  refine ⟨hj, ?_⟩
  unfold objJ Off
  refine ⟨fun h => absurd rfl h, fun _ a ha e => ?_, by unfold OffL; exact True.intro, offL_of fun x hx => Off.mono (fun q e => Or.inl e) (h.els x hx).2⟩
  have h1 := own_at h.own a ha
  have e2 : a.block < b1 := e
  omega
theorem er_po {n : Nat} (A : Option Addr) (c : Nat) (L : List (ByteArray × JV)) (N : List ByteArray) (V : List JT) (h1 : L.map (·.1) = N.take n) (h2 : (L.map fun p => er p.2) = V.take n) (hn : V.length = n) (hm : N.length = n) : er (objJ A c L) = .mk 5 false 0 ⟨#[]⟩ [] N V := by
  rw [List.take_of_length_le (by omega)] at h1 h2
  rw [er_obj, h1, h2]
theorem po_round {j x k : JV} {L : List (ByteArray × JV)} {nm : ByteArray} {b1 g ga cap : Nat} {w3 w : World} (h : PK b1 g 58 7 (#[.int .i64 5, .bool false, .int .i64 0, .string ⟨#[]⟩, .slice none 0 0, .slice (some ⟨ga, 0, none⟩) (L.length + 1) cap] : Array Value) (.slice (some ⟨ga, 0, none⟩) (L.length + 1) cap) (L.length + 1) (fldL L ++ (fldA (nm, k)).toList) (L.map (·.2) ++ [k]) w)
    (hac : L.map (·.1) = j.ns.take L.length) (hav : (L.map fun p => er p.2) = (plnL (erL j.vs)).take L.length) (hk : er k = plnT (er x)) (hx : j.vs[L.length]? = some x) (hn : j.ns[L.length]? = some nm) (hl : L.length < j.v.Fn) (hb : Below g w3 w) :
    (∃ (q : Nat) (A : Option Addr) (c : Nat) (L_1 : List (ByteArray × JV)), Value.int .i64 ((L.length : Int) + 1) = .int .i64 q ∧ q ≤ j.v.Fn ∧ L_1.length = q ∧ Hid (L_1.map (·.1) = j.ns.take q) ∧ Hid ((L_1.map fun p => er p.2) = (plnL (erL j.vs)).take q) ∧ PK b1 g 58 7 (#[.int .i64 5, .bool false, .int .i64 0, .string ⟨#[]⟩, .slice none 0 0, .slice A L_1.length c] : Array Value) (.slice A L_1.length c) L_1.length (fldL L_1) (L_1.map (·.2)) w ∧ Below g w3 w) ∧
      j.v.Fn - (intOf (Value.int .i64 ((L.length : Int) + 1))).toNat < j.v.Fn - (intOf (Value.int .i64 (L.length : Int))).toNat := by
  refine ⟨⟨L.length + 1, some ⟨ga, 0, none⟩, cap, L ++ [(nm, k)], by simp, hl, by simp, Lib.hid ?_, Lib.hid ?_, ?_, hb⟩, ?_⟩
  · rw [take_next hn, ← hac, List.map_append]
    rfl
  · rw [take_next (x := er k) (by rw [plnL_map, erL_map, hk]; simp [hx]), ← hav, List.map_append]
    rfl
  · rw [fldL_app, fldL_one, List.length_append, List.map_append]
    exact h
  · show j.v.Fn - ((L.length : Int) + 1).toNat < j.v.Fn - ((L.length : Int)).toNat
    omega
set_option maxRecDepth 100000 in
set_option maxHeartbeats 8000000 in
theorem pn_obj {j : JV} {w : World} (HJ : IsJV w j) (hs : SzT (er j) ≤ 1048576) (IH : Hid (∀ (x : JV) (w : World), SizeOf.sizeOf x < SizeOf.sizeOf j → IsJV w x → SzT (er x) ≤ 1048576 → Calls Tryz.prog 14 #[.agg x.cells] w (PnV x w))) (hk5 : j.v.kind = 5) : Calls Tryz.prog 14 #[.agg j.cells] w (PnV j w) := by
    obtain ⟨l1, l2, l3, l4, l5⟩ := jv_lens HJ
    obtain ⟨s1, s2, s3, s4⟩ := sz_parts j
    have hI : I64 j.v.kind ∧ I64 j.v.i ∧ j.v.t.size ≤ reach := by obtain ⟨v, _, _, _⟩ := j; unfold IsJV at HJ; exact ⟨HJ.1.1, HJ.1.2.1, HJ.1.2.2.1⟩
    have HI := Lib.hid hI
    have HP := Lib.hid (pln_eq j)
    have LL := Lib.hid l1
    have LV := Lib.hid l2
    have LN := Lib.hid l3
    have S3 := Lib.hid s3
    have S4 := Lib.hid s4
    have HSS := Lib.hid hs
    have hLn : j.v.Ln ≤ 1048576 := by omega
    have hFn : j.v.Fn ≤ 1048576 := by omega
    clear l1 l2 l3 hI s1 s2 s3 s4 hs
    have HB := Below.refl w.heap.size w
    have hk1 : j.v.kind ≠ 1 := by omega
    have hk2 : j.v.kind ≠ 2 := by omega
    have hk3 : j.v.kind ≠ 3 := by omega
    have hk4 : j.v.kind ≠ 4 := by omega
    have HK : Hid (plnT (er j) = .mk 5 false 0 ⟨#[]⟩ [] j.ns (plnL (erL j.vs))) := Lib.hid (by rw [HP.out, if_neg hk1, if_neg hk2, if_neg hk3, if_neg hk4, if_pos hk5, hk5])
    have HKD := Lib.hid hk5
    have HJ0 := HJ
    clear hk1 hk2 hk3 hk4 hk5
    obtain ⟨ie, z, hie1, hie2, hie3, hie4, hz⟩ := fld_slice0
    subst hz
    go_enter Tryz.func14, Tryz.ntmps14
    go_wp2_with (first
      | (refine wpl_newbox 3 rfl rfl 26 rfl rfl (.tmp 8) rfl _ zeroV (leafJ 5 false 0 ⟨#[]⟩).cells rfl rfl info_value rfl (jv_one _) ?_; intro w3 hw; have hb := hid_grow hw; have B3 := (hid_alloc hw).1; have hz3 := Lib.hid (hid_alloc hw).2.1; replace B1 := IBox.below B1 hb (IBox.lt B1); replace B2 := IBox.below B2 hb (IBox.lt B2); replace HB := HB.trans (hb.mono HB.size); replace HJ := HJ.below hb; clear hb hw; clear c1_0; have c1_0 : w3.cell? ⟨_, 0, none⟩ = some (.int .i64 5) := (B1.cell 0).trans (by rw [← HKD.out]; rfl); have c1_1 : w3.cell? ⟨_, 1, none⟩ = some (.bool j.v.b) := B1.cell 1; have c1_2 : w3.cell? ⟨_, 2, none⟩ = some (.int .i64 j.v.i) := B1.cell 2; have c1_3 : w3.cell? ⟨_, 3, none⟩ = some (.string j.v.t) := B1.cell 3; have c1_4 : w3.cell? ⟨_, 4, none⟩ = some (.slice j.v.LA j.v.Ln j.v.Lc) := B1.cell 4; have c1_5 : w3.cell? ⟨_, 5, none⟩ = some (.slice j.v.FA j.v.Fn j.v.Fc) := B1.cell 5; have hzz : w1.heap.size = w.heap.size + 1 ∧ w2.heap.size = w.heap.size + 2 ∧ w3.heap.size = w.heap.size + 3 := (by have := hz1.out; have := hz2.out; have := hz3.out; omega); have HZ := Lib.hid hzz; clear hzz hz1 hz2 hz3)
      | (refine wpl_box_at rfl 26 (.tmp 0) rfl _ rfl ?_; intro w1 hw; have hb := hid_grow hw; have B1 := (hid_alloc hw).1; have hz1 := Lib.hid (hid_alloc hw).2.1; replace HB := HB.trans (hb.mono HB.size); replace HJ := HJ.below hb; clear hb hw)
      | ((with_reducible refine is_alloc ?_); refine wpl_alloc_at rfl 26 rfl _ zeroV ?_; intro w2 hw; have hb := hid_grow hw; have B2 := hid_alloc0 hw; have hz2 := Lib.hid (hid_alloc hw).2.1; replace B1 := IBox.below B1 hb (IBox.lt B1); replace HB := HB.trans (hb.mono HB.size); replace HJ := HJ.below hb; clear hb hw; have c1_0 : w2.cell? ⟨_, 0, none⟩ = some (.int .i64 5) := (B1.cell 0).trans (by rw [← HKD.out]; rfl))
      | ((with_reducible refine is_build ?_); refine wpl_build_at (vals := _) (pbl_kind 5) rfl _ rfl rfl ?_))
    clear c1_0 c1_1 c1_2 c1_3
    go_loopw [5] (fun iv wr => ∃ (q : Nat) (A : Option Addr) (c : Nat) (L : List (ByteArray × JV)), iv = .int .i64 q ∧ q ≤ j.v.Fn ∧ L.length = q ∧ Hid (L.map (·.1) = j.ns.take q) ∧ Hid ((L.map fun p => er p.2) = (plnL (erL j.vs)).take q) ∧ PK w3.heap.size w2.heap.size 58 7 (#[.int .i64 5, .bool false, .int .i64 0, .string ⟨#[]⟩, .slice none 0 0, .slice A L.length c] : Array Value) (.slice A L.length c) L.length (fldL L) (L.map (·.2)) wr ∧ Below w2.heap.size w3 wr) (fun iv _ => j.v.Fn - (intOf iv).toNat)
    case atStart => exact ⟨0, none, 0, [], rfl, Nat.zero_le _, rfl, Lib.hid rfl, Lib.hid rfl, ⟨B3, ⟨rfl, .inl ⟨rfl, rfl⟩⟩, (fun y hy => by cases hy), ⟨Nat.lt_of_lt_of_le (by have := HZ.out; omega) (Nat.le_refl _), Nat.le_refl _⟩⟩, Below.refl _ _⟩
    case round =>
      obtain ⟨_, A, c, L, rfl, hq, rfl, HAN, HAC, HL, hbq⟩ := hrel
      have HL0 : w2.heap.size < w3.heap.size := by have := HZ.out; omega
      have c1_5 : wr.cell? ⟨_, 5, none⟩ = some (.slice j.v.FA j.v.Fn j.v.Fc) := (IBox.below B1 hbq (by have := HZ.out; omega)).cell 5
      by_cases hqL : L.length < j.v.Fn
      · obtain ⟨bl, off, nm, x, hla, hx, hn, hcn, hrg, HX⟩ := jv_fld HJ0 (show L.length < j.vs.length from LV.out ▸ hqL)
        have HXS := Lib.hid (size_vs hx)
        have HXZ := Lib.hid (Nat.le_trans (S4.out _ x hx) HSS.out)
        have hblw : bl < w.heap.size := block_lt_of_cell hcn
        have HB3 : Below w.heap.size w wr := HB.trans (hbq.mono (by have := HZ.out; omega))
        have HS0 : LSO w.heap.size bl (off + L.length * 7) j.cells nm x.cells.toList wr := ⟨IBox.below B1 hbq (by have := HZ.out; omega), cell_below HB3 hcn, range_below HB3 hrg⟩
        have HSG : Hid (∀ k, k = w.heap.size ∨ k = bl → k < w3.heap.size) := Lib.hid (fun k hk => by have := HZ.out; omega)
        have HSL : Hid (∀ k, k = w.heap.size ∨ k = bl → k < w2.heap.size) := Lib.hid (fun k hk => by have := HZ.out; omega)
        have HX1 := Lib.hid hx
        have HX2 := Lib.hid hn
        have HLA := Lib.hid hla
        clear hx hn hla hcn hrg HB3 hblw
        go_wp2
        refine wp_region_S (S := LSO w.heap.size bl (off + L.length * 7) j.cells nm x.cells.toList) (by kernel_rfl) (fun w5 hh => HS0.to (fun k _ => by rw [hh])) (fun w5 hh hbb HS => ?_)
        have hb := hbb _ (Nat.le_refl _)
        replace hbq := hbq.trans (hb.mono (Nat.le_trans (Nat.le_of_lt HL0) HL.st.2))
        replace HL := HL.below hb
        clear hb hbb hh HS0 c1_5
        refine wpAnyH_take (i := 0) (oi := ⟨some 55, _, _, _, _, _⟩) (v := ?_) rfl (by kernel_rfl) (by kernel_rfl) (by kernel_rfl) (fun _ _ _ h => h) (Or.inl ⟨by kernel_rfl, ?_⟩) (by assumption) ?_
        rotate_left
        · (intro w hSw; (try dsimp only at hSw); go_simp; try with_reducible rfl)
        try simp only [Act.put, List.setIfInBounds_toArray, List.set_cons_zero, List.set_cons_succ]
        refine wpAnyH_take (i := 2) (oi := ⟨some 57, _, _, _, _, _⟩) (v := ?_) rfl (by kernel_rfl) (by kernel_rfl) (by kernel_rfl) (fun _ _ _ h => h) (Or.inl ⟨by kernel_rfl, ?_⟩) (by assumption) ?_
        rotate_left
        · (intro w hSw; (try dsimp only at hSw); go_simp; try with_reducible rfl)
        try simp only [Act.put, List.setIfInBounds_toArray, List.set_cons_zero, List.set_cons_succ]
        refine wpAnyH_take (i := 3) (oi := ⟨some 58, _, _, _, _, _⟩) (v := ?_) rfl (by kernel_rfl) (by kernel_rfl) (by kernel_rfl) (fun _ _ _ h => h) (Or.inl ⟨by kernel_rfl, ?_⟩) (by assumption) ?_
        rotate_left
        · (intro w hSw; (try dsimp only at hSw); have : w.cell? ⟨_, 5, none⟩ = some (.slice (some ⟨bl, off, none⟩) j.v.Fn j.v.Fc) := (by rw [← HLA.out]; exact hSw.1.cell 5); go_simp; try with_reducible rfl)
        try simp only [Act.put, List.setIfInBounds_toArray, List.set_cons_zero, List.set_cons_succ]
        refine wpAnyH_take (i := 4) (oi := ⟨some 59, _, _, _, _, _⟩) (v := ?_) rfl (by kernel_rfl) (by kernel_rfl) (by kernel_rfl) (fun _ _ _ h => h) (Or.inl ⟨by kernel_rfl, ?_⟩) (by assumption) ?_
        rotate_left
        · (intro w hSw; (try dsimp only at hSw); go_simp; try with_reducible rfl)
        try simp only [Act.put, List.setIfInBounds_toArray, List.set_cons_zero, List.set_cons_succ]
        refine wpAnyH_take (i := 5) (oi := ⟨some 60, _, _, _, _, _⟩) (v := ?_) rfl (by kernel_rfl) (by kernel_rfl) (by kernel_rfl) (fun _ _ _ h => h) (Or.inl ⟨by kernel_rfl, ?_⟩) (by assumption) ?_
        rotate_left
        · (intro w hSw; (try dsimp only at hSw); go_simp; try with_reducible rfl)
        try simp only [Act.put, List.setIfInBounds_toArray, List.set_cons_zero, List.set_cons_succ]
        refine wpAnyH_take (i := 6) (oi := ⟨some 61, _, _, _, _, _⟩) (v := ?_) rfl (by kernel_rfl) (by kernel_rfl) (by kernel_rfl) (fun _ _ _ h => h) (Or.inl ⟨by kernel_rfl, ?_⟩) (by assumption) ?_
        rotate_left
        · (intro w hSw; (try dsimp only at hSw); go_simp; try with_reducible rfl)
        try simp only [Act.put, List.setIfInBounds_toArray, List.set_cons_zero, List.set_cons_succ]
        refine wpAnyH_take (i := 7) (oi := ⟨some 62, _, _, _, _, _⟩) (v := ?_) rfl (by kernel_rfl) (by kernel_rfl) (by kernel_rfl) (fun _ _ _ h => h) (Or.inl ⟨by kernel_rfl, ?_⟩) (by assumption) ?_
        rotate_left
        · (intro w hSw; (try dsimp only at hSw); have := hSw.2.1; go_simp; try with_reducible rfl)
        try simp only [Act.put, List.setIfInBounds_toArray, List.set_cons_zero, List.set_cons_succ]
        refine wpAnyH_take (i := 8) (oi := ⟨some 63, _, _, _, _, _⟩) (v := ?_) rfl (by kernel_rfl) (by kernel_rfl) (by kernel_rfl) (fun _ _ _ h => h) (Or.inl ⟨by kernel_rfl, ?_⟩) (by assumption) ?_
        rotate_left
        · (intro w hSw; (try dsimp only at hSw); go_simp; try with_reducible rfl)
        try simp only [Act.put, List.setIfInBounds_toArray, List.set_cons_zero, List.set_cons_succ]
        refine wpAnyH_take (i := 9) (oi := ⟨some 64, _, _, _, _, _⟩) (v := ?_) rfl (by kernel_rfl) (by kernel_rfl) (by kernel_rfl) (fun _ _ _ h => h) (Or.inl ⟨by kernel_rfl, ?_⟩) (by assumption) ?_
        rotate_left
        · (intro w hSw; (try dsimp only at hSw); have : w.cell? ⟨_, 5, none⟩ = some (.slice (some ⟨bl, off, none⟩) j.v.Fn j.v.Fc) := (by rw [← HLA.out]; exact hSw.1.cell 5); go_simp; try with_reducible rfl)
        try simp only [Act.put, List.setIfInBounds_toArray, List.set_cons_zero, List.set_cons_succ]
        refine wpAnyH_take (i := 10) (oi := ⟨some 65, _, _, _, _, _⟩) (v := ?_) rfl (by kernel_rfl) (by kernel_rfl) (by kernel_rfl) (fun _ _ _ h => h) (Or.inl ⟨by kernel_rfl, ?_⟩) (by assumption) ?_
        rotate_left
        · (intro w hSw; (try dsimp only at hSw); go_simp; try with_reducible rfl)
        try simp only [Act.put, List.setIfInBounds_toArray, List.set_cons_zero, List.set_cons_succ]
        refine wpAnyH_take (i := 11) (oi := ⟨some 66, _, _, _, _, _⟩) (v := ?_) rfl (by kernel_rfl) (by kernel_rfl) (by kernel_rfl) (fun _ _ _ h => h) (Or.inl ⟨by kernel_rfl, ?_⟩) (by assumption) ?_
        rotate_left
        · (intro w hSw; (try dsimp only at hSw); go_simp; try with_reducible rfl)
        try simp only [Act.put, List.setIfInBounds_toArray, List.set_cons_zero, List.set_cons_succ]
        refine wpAnyH_take (i := 12) (oi := ⟨some 67, _, _, _, _, _⟩) (v := ?_) rfl (by kernel_rfl) (by kernel_rfl) (by kernel_rfl) (fun _ _ _ h => h) (Or.inl ⟨by kernel_rfl, ?_⟩) (by assumption) ?_
        rotate_left
        · (intro w hSw; (try dsimp only at hSw); go_simp; try with_reducible rfl)
        try simp only [Act.put, List.setIfInBounds_toArray, List.set_cons_zero, List.set_cons_succ]
        refine wpAnyH_take (i := 13) (oi := ⟨some 68, _, _, _, _, _⟩) (v := _) rfl (by kernel_rfl) (by kernel_rfl) (by kernel_rfl) (fun _ _ _ h => h) (yields_rangeS (by kernel_rfl) _ _ rfl _ _ rfl _ _ (fun _ h => h.2.2) Tryz.underlying26 rfl info_value) (by assumption) ?_
        try simp only [Act.put, List.setIfInBounds_toArray, List.set_cons_zero, List.set_cons_succ]
        refine wpAnyH_ready (rs := [1, 14]) (by kernel_rfl) (by simp) ?_
        refine AllReadyH.cons (o := ⟨some 56, _, _, _, _, _⟩) rfl (fun K hK => ?_) ?_
        · have cg : _ = some (Value.slice A L.length c) := HL.box.cell 5
          go_simp
          clear cg
          refine hK.out _ _ HS (fun hS2 => ?_)
          clear hK K hS2
          try simp only [Act.put, List.setIfInBounds_toArray, List.set_cons_zero, List.set_cons_succ]
          refine wpAnyH_ready (rs := [14]) (by kernel_rfl) (by simp) ?_
          refine AllReadyH.cons (o := ⟨some 69, _, _, _, _, _⟩) rfl (fun K hK => ?_) AllReadyH.nil
          go_simp
          (go_at_call 14; (with_reducible refine (IH.out x _ HXS.out (IsJV.below (HB.trans (hbq.mono (by have := HZ.out; omega))) HX) HXZ.out).mono ?_); rintro e w9 ⟨k, rfl, HK1, HK2, HK3, hb⟩)
          have HLs := HL.st.2
          have HLo := HL.own
          replace HS := HS.to (fun k hk => hb.block k (HS.lt hk))
          replace HL := HL.below hb
          replace hbq := hbq.trans (hb.mono (Nat.le_trans (Nat.le_of_lt HL0) HLs))
          clear hb
          have HKO : Off (fun q => q < w3.heap.size ∨ (Value.slice A L.length c).ownBlock = some q) k := Off.mono (fun q e => e.elim (fun h => Nat.lt_of_lt_of_le h HLs) (fun h => (own_in HLo h).2)) HK3
          clear HLs HLo HK3
          refine hK.out _ _ HS (fun hS2 => ?_)
          clear hK K hS2
          try simp only [Act.put, List.setIfInBounds_toArray, List.set_cons_zero, List.set_cons_succ]
          refine wpAnyH_take (i := 15) (oi := ⟨some 70, _, _, _, _, _⟩) (v := _) rfl (by kernel_rfl) (by kernel_rfl) (by kernel_rfl) (fun _ _ _ h => h) (yields_build (by kernel_rfl) (fld_build nm k) _ rfl rfl) (by assumption) ?_
          try simp only [Act.put, List.setIfInBounds_toArray, List.set_cons_zero, List.set_cons_succ]
          refine wpAnyH_ready (rs := [16]) (by kernel_rfl) (by simp) ?_
          refine AllReadyH.cons (o := ⟨some 71, _, _, _, _, _⟩) rfl (fun K hK => ?_) AllReadyH.nil
          simp only [Region.wanted, if_true]
          refine op_slice_at 1 _ _ ie _ (by rw [hie3]; exact fld_fill (nm, k)) 24 58 _ rfl rfl rfl hie1 hie2 (by rw [hie3]; decide) (by rw [hie3]; decide) ?_
          intro w10 hw
          have hb := hid_grow hw
          have BN := (hid_alloc hw).1
          replace HK1 := IsJV.below hb HK1
          have HLs := HL.st.2
          have HLo := HL.own
          replace HS := HS.to (fun k hk => hb.block k (HS.lt hk))
          replace HL := HL.below hb
          replace hbq := hbq.trans (hb.mono (Nat.le_trans (Nat.le_of_lt HL0) HLs))
          clear hb
          clear HLs HLo hw
          refine hK.out _ _ HS (fun hS2 => ?_)
          clear hK K hS2
          try simp only [Act.put, List.setIfInBounds_toArray, List.set_cons_zero, List.set_cons_succ]
          refine wpAnyH_ready (rs := [17]) (by kernel_rfl) (by simp) ?_
          refine AllReadyH.cons (o := ⟨some 72, _, _, _, _, _⟩) rfl (fun K hK => ?_) AllReadyH.nil
          simp only [Region.wanted, if_true]
          refine op_append_at _ _ 24 rfl w3.heap.size 58 ie _ 7 104 rfl hie1 hie2 hie3 hie4 rfl (by decide) (.slice A L.length c) L.length (fldL L) rfl HL.own _ _ _ _ BN (by rfl) rfl (fld_one _) (by unfold maxLen; omega) (by omega) HL.st.2 ?_
          intro ga cap w11 HO2 hgrow hat hlt
          have hbe := Bes.grown (X := fun q => (Value.slice A L.length c).ownBlock = some q) hgrow (fun _ h => h)
          have hlo : ∀ q, (Value.slice A L.length c).ownBlock = some q → w3.heap.size ≤ q := fun q e => (own_in HL.own e).1
          replace HS := HS.to (fun k hk => hbe.block k (HS.lt hk) (fun e => Nat.lt_irrefl _ (Nat.lt_of_lt_of_le (HSG.out k hk) (hlo k e))))
          replace hbq := hbq.trans (Bes.below hbe (fun q e => Nat.le_trans (Nat.le_of_lt HL0) (hlo q e)) (Nat.le_trans (Nat.le_of_lt HL0) HL.st.2))
          have HL2 := HL.more HO2 hbe (hat.elim (fun h => .inl h.symm) (fun h => .inr (congrArg some h))) HK1 HKO
          clear hbe hlo hat hlt HO2 HL hgrow BN
          refine hK.out _ _ HS (fun hS2 => ?_)
          clear hK K hS2
          try simp only [Act.put, List.setIfInBounds_toArray, List.set_cons_zero, List.set_cons_succ]
          refine wpAnyH_take (i := 18) (oi := ⟨some 73, _, _, _, _, _⟩) (v := ?_) rfl (by kernel_rfl) (by kernel_rfl) (by kernel_rfl) (fun _ _ _ h => h) (Or.inl ⟨by kernel_rfl, ?_⟩) (by assumption) ?_
          rotate_left
          · (intro w hSw; (try dsimp only at hSw); go_simp; try with_reducible rfl)
          try simp only [Act.put, List.setIfInBounds_toArray, List.set_cons_zero, List.set_cons_succ]
          refine wpAnyH_ready (rs := [19]) (by kernel_rfl) (by simp) ?_
          refine AllReadyH.cons (o := ⟨none, _, _, _, _, _⟩) rfl (fun K hK => ?_) AllReadyH.nil
          simp only [Region.wanted, if_true]
          refine op_store_cell 24 _ _ rfl w2.heap.size 5 rfl (.slice (some ⟨ga, 0, none⟩) (L.length + 1) cap) rfl _ _ HL2.box (show 5 < 6 by decide) psz_sf rfl ?_
          intro w12 hw
          have hbe := Bes.row (X := fun q => q = w2.heap.size) hw rfl
          replace HS := HS.to (fun k hk => hbe.block k (HS.lt hk) (fun e => by have h1 := HSL.out k hk; have e2 : k = w2.heap.size := e; omega))
          replace hbq := hbq.trans (Bes.below hbe (fun q e => by have e2 : q = w2.heap.size := e; omega) (Nat.le_trans (Nat.le_of_lt HL0) HL2.st.2))
          have HL3 := PK.put HL2 (arr2 := #[.int .i64 5, .bool false, .int .i64 0, .string ⟨#[]⟩, .slice none 0 0, .slice (some ⟨ga, 0, none⟩) (L.length + 1) cap]) hw
          clear hbe hw HL2
          refine hK.out _ _ HS (fun hS2 => ?_)
          clear hK K hS2
          try simp only [Act.put, List.setIfInBounds_toArray, List.set_cons_zero, List.set_cons_succ]
          refine wpAnyH_done (by kernel_rfl) ?_ _
          clear HS
          go_wp2
          exact po_round HL3 HAN.out HAC.out HK2 HX1.out HX2.out hqL hbq
        refine AllReadyH.cons (o := ⟨some 69, _, _, _, _, _⟩) rfl (fun K hK => ?_) AllReadyH.nil
        go_simp
        (go_at_call 14; (with_reducible refine (IH.out x _ HXS.out (IsJV.below (HB.trans (hbq.mono (by have := HZ.out; omega))) HX) HXZ.out).mono ?_); rintro e w9 ⟨k, rfl, HK1, HK2, HK3, hb⟩)
        have HLs := HL.st.2
        have HLo := HL.own
        replace HS := HS.to (fun k hk => hb.block k (HS.lt hk))
        replace HL := HL.below hb
        replace hbq := hbq.trans (hb.mono (Nat.le_trans (Nat.le_of_lt HL0) HLs))
        clear hb
        have HKO : Off (fun q => q < w3.heap.size ∨ (Value.slice A L.length c).ownBlock = some q) k := Off.mono (fun q e => e.elim (fun h => Nat.lt_of_lt_of_le h HLs) (fun h => (own_in HLo h).2)) HK3
        clear HLs HLo HK3
        refine hK.out _ _ HS (fun hS2 => ?_)
        clear hK K hS2
        try simp only [Act.put, List.setIfInBounds_toArray, List.set_cons_zero, List.set_cons_succ]
        refine wpAnyH_take (i := 15) (oi := ⟨some 70, _, _, _, _, _⟩) (v := _) rfl (by kernel_rfl) (by kernel_rfl) (by kernel_rfl) (fun _ _ _ h => h) (yields_build (by kernel_rfl) (fld_build nm k) _ rfl rfl) (by assumption) ?_
        try simp only [Act.put, List.setIfInBounds_toArray, List.set_cons_zero, List.set_cons_succ]
        refine wpAnyH_ready (rs := [1, 16]) (by kernel_rfl) (by simp) ?_
        refine AllReadyH.cons (o := ⟨some 56, _, _, _, _, _⟩) rfl (fun K hK => ?_) ?_
        · have cg : _ = some (Value.slice A L.length c) := HL.box.cell 5
          go_simp
          clear cg
          refine hK.out _ _ HS (fun hS2 => ?_)
          clear hK K hS2
          try simp only [Act.put, List.setIfInBounds_toArray, List.set_cons_zero, List.set_cons_succ]
          refine wpAnyH_ready (rs := [16]) (by kernel_rfl) (by simp) ?_
          refine AllReadyH.cons (o := ⟨some 71, _, _, _, _, _⟩) rfl (fun K hK => ?_) AllReadyH.nil
          simp only [Region.wanted, if_true]
          refine op_slice_at 1 _ _ ie _ (by rw [hie3]; exact fld_fill (nm, k)) 24 58 _ rfl rfl rfl hie1 hie2 (by rw [hie3]; decide) (by rw [hie3]; decide) ?_
          intro w10 hw
          have hb := hid_grow hw
          have BN := (hid_alloc hw).1
          replace HK1 := IsJV.below hb HK1
          have HLs := HL.st.2
          have HLo := HL.own
          replace HS := HS.to (fun k hk => hb.block k (HS.lt hk))
          replace HL := HL.below hb
          replace hbq := hbq.trans (hb.mono (Nat.le_trans (Nat.le_of_lt HL0) HLs))
          clear hb
          clear HLs HLo hw
          refine hK.out _ _ HS (fun hS2 => ?_)
          clear hK K hS2
          try simp only [Act.put, List.setIfInBounds_toArray, List.set_cons_zero, List.set_cons_succ]
          refine wpAnyH_ready (rs := [17]) (by kernel_rfl) (by simp) ?_
          refine AllReadyH.cons (o := ⟨some 72, _, _, _, _, _⟩) rfl (fun K hK => ?_) AllReadyH.nil
          simp only [Region.wanted, if_true]
          refine op_append_at _ _ 24 rfl w3.heap.size 58 ie _ 7 104 rfl hie1 hie2 hie3 hie4 rfl (by decide) (.slice A L.length c) L.length (fldL L) rfl HL.own _ _ _ _ BN (by rfl) rfl (fld_one _) (by unfold maxLen; omega) (by omega) HL.st.2 ?_
          intro ga cap w11 HO2 hgrow hat hlt
          have hbe := Bes.grown (X := fun q => (Value.slice A L.length c).ownBlock = some q) hgrow (fun _ h => h)
          have hlo : ∀ q, (Value.slice A L.length c).ownBlock = some q → w3.heap.size ≤ q := fun q e => (own_in HL.own e).1
          replace HS := HS.to (fun k hk => hbe.block k (HS.lt hk) (fun e => Nat.lt_irrefl _ (Nat.lt_of_lt_of_le (HSG.out k hk) (hlo k e))))
          replace hbq := hbq.trans (Bes.below hbe (fun q e => Nat.le_trans (Nat.le_of_lt HL0) (hlo q e)) (Nat.le_trans (Nat.le_of_lt HL0) HL.st.2))
          have HL2 := HL.more HO2 hbe (hat.elim (fun h => .inl h.symm) (fun h => .inr (congrArg some h))) HK1 HKO
          clear hbe hlo hat hlt HO2 HL hgrow BN
          refine hK.out _ _ HS (fun hS2 => ?_)
          clear hK K hS2
          try simp only [Act.put, List.setIfInBounds_toArray, List.set_cons_zero, List.set_cons_succ]
          refine wpAnyH_take (i := 18) (oi := ⟨some 73, _, _, _, _, _⟩) (v := ?_) rfl (by kernel_rfl) (by kernel_rfl) (by kernel_rfl) (fun _ _ _ h => h) (Or.inl ⟨by kernel_rfl, ?_⟩) (by assumption) ?_
          rotate_left
          · (intro w hSw; (try dsimp only at hSw); go_simp; try with_reducible rfl)
          try simp only [Act.put, List.setIfInBounds_toArray, List.set_cons_zero, List.set_cons_succ]
          refine wpAnyH_ready (rs := [19]) (by kernel_rfl) (by simp) ?_
          refine AllReadyH.cons (o := ⟨none, _, _, _, _, _⟩) rfl (fun K hK => ?_) AllReadyH.nil
          simp only [Region.wanted, if_true]
          refine op_store_cell 24 _ _ rfl w2.heap.size 5 rfl (.slice (some ⟨ga, 0, none⟩) (L.length + 1) cap) rfl _ _ HL2.box (show 5 < 6 by decide) psz_sf rfl ?_
          intro w12 hw
          have hbe := Bes.row (X := fun q => q = w2.heap.size) hw rfl
          replace HS := HS.to (fun k hk => hbe.block k (HS.lt hk) (fun e => by have h1 := HSL.out k hk; have e2 : k = w2.heap.size := e; omega))
          replace hbq := hbq.trans (Bes.below hbe (fun q e => by have e2 : q = w2.heap.size := e; omega) (Nat.le_trans (Nat.le_of_lt HL0) HL2.st.2))
          have HL3 := PK.put HL2 (arr2 := #[.int .i64 5, .bool false, .int .i64 0, .string ⟨#[]⟩, .slice none 0 0, .slice (some ⟨ga, 0, none⟩) (L.length + 1) cap]) hw
          clear hbe hw HL2
          refine hK.out _ _ HS (fun hS2 => ?_)
          clear hK K hS2
          try simp only [Act.put, List.setIfInBounds_toArray, List.set_cons_zero, List.set_cons_succ]
          refine wpAnyH_done (by kernel_rfl) ?_ _
          clear HS
          go_wp2
          exact po_round HL3 HAN.out HAC.out HK2 HX1.out HX2.out hqL hbq
        refine AllReadyH.cons (o := ⟨some 71, _, _, _, _, _⟩) rfl (fun K hK => ?_) AllReadyH.nil
        simp only [Region.wanted, if_true]
        refine op_slice_at 1 _ _ ie _ (by rw [hie3]; exact fld_fill (nm, k)) 24 58 _ rfl rfl rfl hie1 hie2 (by rw [hie3]; decide) (by rw [hie3]; decide) ?_
        intro w10 hw
        have hb := hid_grow hw
        have BN := (hid_alloc hw).1
        replace HK1 := IsJV.below hb HK1
        have HLs := HL.st.2
        have HLo := HL.own
        replace HS := HS.to (fun k hk => hb.block k (HS.lt hk))
        replace HL := HL.below hb
        replace hbq := hbq.trans (hb.mono (Nat.le_trans (Nat.le_of_lt HL0) HLs))
        clear hb
        clear HLs HLo hw
        refine hK.out _ _ HS (fun hS2 => ?_)
        clear hK K hS2
        try simp only [Act.put, List.setIfInBounds_toArray, List.set_cons_zero, List.set_cons_succ]
        refine wpAnyH_ready (rs := [1]) (by kernel_rfl) (by simp) ?_
        refine AllReadyH.cons (o := ⟨some 56, _, _, _, _, _⟩) rfl (fun K hK => ?_) AllReadyH.nil
        have cg : _ = some (Value.slice A L.length c) := HL.box.cell 5
        go_simp
        clear cg
        refine hK.out _ _ HS (fun hS2 => ?_)
        clear hK K hS2
        try simp only [Act.put, List.setIfInBounds_toArray, List.set_cons_zero, List.set_cons_succ]
        refine wpAnyH_ready (rs := [17]) (by kernel_rfl) (by simp) ?_
        refine AllReadyH.cons (o := ⟨some 72, _, _, _, _, _⟩) rfl (fun K hK => ?_) AllReadyH.nil
        simp only [Region.wanted, if_true]
        refine op_append_at _ _ 24 rfl w3.heap.size 58 ie _ 7 104 rfl hie1 hie2 hie3 hie4 rfl (by decide) (.slice A L.length c) L.length (fldL L) rfl HL.own _ _ _ _ BN (by rfl) rfl (fld_one _) (by unfold maxLen; omega) (by omega) HL.st.2 ?_
        intro ga cap w11 HO2 hgrow hat hlt
        have hbe := Bes.grown (X := fun q => (Value.slice A L.length c).ownBlock = some q) hgrow (fun _ h => h)
        have hlo : ∀ q, (Value.slice A L.length c).ownBlock = some q → w3.heap.size ≤ q := fun q e => (own_in HL.own e).1
        replace HS := HS.to (fun k hk => hbe.block k (HS.lt hk) (fun e => Nat.lt_irrefl _ (Nat.lt_of_lt_of_le (HSG.out k hk) (hlo k e))))
        replace hbq := hbq.trans (Bes.below hbe (fun q e => Nat.le_trans (Nat.le_of_lt HL0) (hlo q e)) (Nat.le_trans (Nat.le_of_lt HL0) HL.st.2))
        have HL2 := HL.more HO2 hbe (hat.elim (fun h => .inl h.symm) (fun h => .inr (congrArg some h))) HK1 HKO
        clear hbe hlo hat hlt HO2 HL hgrow BN
        refine hK.out _ _ HS (fun hS2 => ?_)
        clear hK K hS2
        try simp only [Act.put, List.setIfInBounds_toArray, List.set_cons_zero, List.set_cons_succ]
        refine wpAnyH_take (i := 18) (oi := ⟨some 73, _, _, _, _, _⟩) (v := ?_) rfl (by kernel_rfl) (by kernel_rfl) (by kernel_rfl) (fun _ _ _ h => h) (Or.inl ⟨by kernel_rfl, ?_⟩) (by assumption) ?_
        rotate_left
        · (intro w hSw; (try dsimp only at hSw); go_simp; try with_reducible rfl)
        try simp only [Act.put, List.setIfInBounds_toArray, List.set_cons_zero, List.set_cons_succ]
        refine wpAnyH_ready (rs := [19]) (by kernel_rfl) (by simp) ?_
        refine AllReadyH.cons (o := ⟨none, _, _, _, _, _⟩) rfl (fun K hK => ?_) AllReadyH.nil
        simp only [Region.wanted, if_true]
        refine op_store_cell 24 _ _ rfl w2.heap.size 5 rfl (.slice (some ⟨ga, 0, none⟩) (L.length + 1) cap) rfl _ _ HL2.box (show 5 < 6 by decide) psz_sf rfl ?_
        intro w12 hw
        have hbe := Bes.row (X := fun q => q = w2.heap.size) hw rfl
        replace HS := HS.to (fun k hk => hbe.block k (HS.lt hk) (fun e => by have h1 := HSL.out k hk; have e2 : k = w2.heap.size := e; omega))
        replace hbq := hbq.trans (Bes.below hbe (fun q e => by have e2 : q = w2.heap.size := e; omega) (Nat.le_trans (Nat.le_of_lt HL0) HL2.st.2))
        have HL3 := PK.put HL2 (arr2 := #[.int .i64 5, .bool false, .int .i64 0, .string ⟨#[]⟩, .slice none 0 0, .slice (some ⟨ga, 0, none⟩) (L.length + 1) cap]) hw
        clear hbe hw HL2
        refine hK.out _ _ HS (fun hS2 => ?_)
        clear hK K hS2
        try simp only [Act.put, List.setIfInBounds_toArray, List.set_cons_zero, List.set_cons_succ]
        refine wpAnyH_done (by kernel_rfl) ?_ _
        clear HS
        go_wp2
        exact po_round HL3 HAN.out HAC.out HK2 HX1.out HX2.out hqL hbq
      · have hqe := Lib.hid (Nat.le_antisymm hq (Nat.le_of_not_lt hqL))
        replace B2 := IBox.below B2 hbq (by have := HZ.out; omega)
        replace HB := HB.trans (hbq.mono (by have := HZ.out; omega))
        have HFJ := pk_obj HL (fun p hp => by obtain ⟨i, hi⟩ := List.getElem?_of_mem (List.mem_map.2 ⟨p, hp, rfl⟩ : p.1 ∈ L.map (·.1)); rw [HAN.out] at hi; exact jv_nm_le HJ0 (take_get hi)) (by unfold reach; omega)
        have HFO := HFJ.2
        replace HFJ := HFJ.1
        have B3 := HL.box
        clear HL
        go_wp2_with (first
          | ((with_reducible refine is_load ?_); refine wpl_load_box rfl 26 (.tmp 3) rfl _ rfl _ (objJ A c L).cells _ B3 Tryz.underlying26 rfl info_value ?_)
          | ((with_reducible refine is_store ?_); refine wpl_store_at rfl 26 (.tmp 2) (.tmp 74) rfl w1.heap.size (objJ A c L).cells rfl rfl _ _ B2 info_value rfl (jv_one _) ?_; intro w5 hw; have hbe := Bes.row (X := fun q => q = w1.heap.size) hw rfl; replace HB := HB.trans (Bes.below hbe (fun q e => by have e2 : q = w1.heap.size := e; have := HZ.out; omega) HB.size); replace B2 := hid_row hw B2; replace HFJ := IsJV.bes hbe HFJ (Off.mono (fun q e => by have e2 : q = w1.heap.size := e; have := HZ.out; show q < w3.heap.size; omega) HFO); clear hw hbe))
        refine bodyPost_ret (results_box rfl _ _ w1.heap.size _ (objJ A c L).cells _ rfl B2 Tryz.underlying26 rfl info_value) rfl ?_
        exact ⟨objJ A c L, rfl, HFJ, (er_po A c L _ _ HAN.out HAC.out (by rw [plnL_map, List.length_map, erL_len, ← LV.out, hqe.out]) (by rw [LN.out, ← LV.out, hqe.out])).trans HK.out.symm, Off.mono (fun q e => by have := HZ.out; show q < w3.heap.size; have e2 : q < w.heap.size := e; omega) HFO, HB⟩
end
end Go.Proofs.YtjhncopbiblenaaGreatDoor
namespace Go.Proofs.YtjhncopbiblenaaGreatDoor
section
open Go.RowKit Go.PlainAid
set_option linter.unusedVariables false
set_option linter.unusedSimpArgs false
theorem pn_to (sz : Nat) : ∀ (j : JV) (w : World), SizeOf.sizeOf j < sz → IsJV w j → SzT (er j) ≤ 1048576 → Calls Tryz.prog 14 #[.agg j.cells] w (PnV j w) := by
  induction sz with
  | zero => intro j w h; omega
  | succ sz ih =>
    intro j w hsz HJ hs
    have IH : Hid (∀ (x : JV) (w : World), SizeOf.sizeOf x < SizeOf.sizeOf j → IsJV w x → SzT (er x) ≤ 1048576 → Calls Tryz.prog 14 #[.agg x.cells] w (PnV x w)) := Lib.hid fun x w h => ih x w (by omega)
    by_cases h4 : j.v.kind = 4
    · exact pn_list HJ hs IH h4
    · by_cases h5 : j.v.kind = 5
      · exact pn_obj HJ hs IH h5
      · exact pn_leaves HJ hs h4 h5
theorem pn_any {j : JV} {w : World} (HJ : IsJV w j) (hs : SzT (er j) ≤ 1048576) : Calls Tryz.prog 14 #[.agg j.cells] w (PnV j w) := pn_to _ j w (Nat.lt_succ_self _) HJ hs
end
end Go.Proofs.YtjhncopbiblenaaGreatDoor
namespace Go.Proofs.YtjhncopbiblenaaGreatDoor
section
open Go.RowKit Go.PlainAid
set_option linter.unusedVariables false
set_option linter.unusedSimpArgs false
/-- Some number that isn't below nothing and not much above the bound. -/
def CnV (w : World) (e : Ending) (w' : World) : Prop := ∃ r : Int, e = .returned (.int .i64 r) ∧ 0 ≤ r ∧ r ≤ 65537 ∧ Below w.heap.size w w'
set_option maxRecDepth 100000 in
set_option maxHeartbeats 8000000 in
theorem cn_to (sz : Nat) : ∀ (j : JV) (n : Int) (w : World), SizeOf.sizeOf j < sz → IsJV w j → 0 ≤ n → n ≤ 65536 →
    Calls Tryz.prog 10 #[.agg j.cells, .int .i64 n] w (CnV w) := by
  induction sz with
  | zero => intro j n w h; omega
  | succ sz ih =>
    intro j n w hsz HJ hn0 hn1
    obtain ⟨l1, l2, l3, l4, l5⟩ := jv_lens HJ
    have LL := Lib.hid l1
    have LV := Lib.hid l2
    have SZ := Lib.hid hsz
    have IH := Lib.hid ih
    clear ih l1 l2 l3 hsz
    have HB := Below.refl w.heap.size w
    by_cases hk4 : j.v.kind = 4
    · have HKD := Lib.hid hk4
      clear hk4
      go_enter Tryz.func10, Tryz.ntmps10
      go_wp2_with (first
        | (refine wpl_box_at rfl 26 (.tmp 0) rfl _ rfl ?_; intro w1 hw; have hb := hid_grow hw; have B2 := (hid_alloc hw).1; replace HB := HB.trans (hb.mono HB.size); replace HJ := HJ.below hb; clear hb hw; have c2_0 : w1.cell? ⟨_, 0, none⟩ = some (.int .i64 4) := (B2.cell 0).trans (by rw [← HKD.out]; rfl); have c2_4 : w1.cell? ⟨_, 4, none⟩ = some (.slice j.v.LA j.v.Ln j.v.Lc) := (B2.cell 4).trans (by rfl)))
      go_loopw [1, 5] (fun m i wr => ∃ (q : Nat) (r : Int), q ≤ j.v.Ln ∧ i = .int .i64 q ∧ m = .int .i64 r ∧ 0 ≤ r ∧ r ≤ 65537 ∧ Below w1.heap.size w1 wr) (fun m i _ => j.v.Ln - (intOf i).toNat)
      case atStart => exact ⟨0, n + 1, Nat.zero_le _, rfl, rfl, by omega, by omega, Below.refl _ _⟩
      case round =>
        obtain ⟨q, r, hq, rfl, rfl, hr0, hr1, hb⟩ := hrel
        have HBW := Lib.hid hb
        replace HB := HB.trans (hb.mono HB.size)
        replace HJ := HJ.below hb
        replace c2_0 := cell_below hb c2_0
        replace c2_4 := cell_below hb c2_4
        clear hb
        by_cases hlt : q < j.v.Ln
        · by_cases hrn : r ≤ 65536
          · obtain ⟨bl, off, x, hA, hx, RX, HX⟩ := jv_elem HJ (show q < j.l.length by have := LL.out; omega)
            have HSZ := Lib.hid (show SizeOf.sizeOf x < sz by have := size_l hx; have := SZ.out; omega)
            have hbd : 0 ≤ (q : Int) ∧ (q : Int) < j.v.Ln := by omega
            have hlt2 : (q : Int) < j.v.Ln := by omega
            rw [hA] at c2_4
            clear hx hA
            go_wp2_with (first
              | ((with_reducible refine is_load ?_); refine wpl_load_arr rfl 26 (.tmp 26) rfl _ _ rfl x.cells _ RX Tryz.underlying26 rfl info_value ?_)
              | (go_at_call 10; (refine (IH.out x r _ HSZ.out HX hr0 hrn).mono ?_); rintro e w3 ⟨r2, rfl, hr2, hr3, hb⟩; replace HB := HB.trans (hb.mono HB.size); replace HJ := HJ.below hb; replace c2_0 := cell_below hb c2_0; replace c2_4 := cell_below hb c2_4; (try replace HX := HX.below hb); (try replace RX := range_below hb RX); replace HBW := Lib.hid (HBW.out.trans (hb.mono HBW.out.size)); clear hb))
            go_roundw
            case rel => exact ⟨q + 1, r2, by omega, by go_num, rfl, hr2, hr3, HBW.out⟩
            case measure => simp [intOf]; omega
          · have hlt2 : (q : Int) < j.v.Ln := by omega
            have hbd : 0 ≤ (q : Int) ∧ (q : Int) < j.v.Ln := by omega
            go_wp2
            go_ret
            exact ⟨r, rfl, hr0, hr1, HB⟩
        · have hlt2 : ¬ (q : Int) < j.v.Ln := by omega
          go_wp2
          go_ret
          exact ⟨r, rfl, hr0, hr1, HB⟩
    · by_cases hk5 : j.v.kind = 5
      · have HKD := Lib.hid hk5
        clear hk4 hk5
        go_enter Tryz.func10, Tryz.ntmps10
        go_wp2_with (first
          | (refine wpl_box_at rfl 26 (.tmp 0) rfl _ rfl ?_; intro w1 hw; have hb := hid_grow hw; have B2 := (hid_alloc hw).1; replace HB := HB.trans (hb.mono HB.size); replace HJ := HJ.below hb; clear hb hw; have c2_0 : w1.cell? ⟨_, 0, none⟩ = some (.int .i64 5) := (B2.cell 0).trans (by rw [← HKD.out]; rfl); have c2_5 : w1.cell? ⟨_, 5, none⟩ = some (.slice j.v.FA j.v.Fn j.v.Fc) := (B2.cell 5).trans (by rfl)))
        go_loopw [1, 6] (fun m i wr => ∃ (q : Nat) (r : Int), q ≤ j.v.Fn ∧ i = .int .i64 q ∧ m = .int .i64 r ∧ 0 ≤ r ∧ r ≤ 65537 ∧ Below w1.heap.size w1 wr) (fun m i _ => j.v.Fn - (intOf i).toNat)
        case atStart => exact ⟨0, n + 1, Nat.zero_le _, rfl, rfl, by omega, by omega, Below.refl _ _⟩
        case round =>
          obtain ⟨q, r, hq, rfl, rfl, hr0, hr1, hb⟩ := hrel
          have HBW := Lib.hid hb
          replace HB := HB.trans (hb.mono HB.size)
          replace HJ := HJ.below hb
          replace c2_5 := cell_below hb c2_5
          clear hb
          by_cases hlt : q < j.v.Fn
          · by_cases hrn : r ≤ 65536
            · obtain ⟨bl, off, nm, x, hA, hx, hnx, n1, RX, HX⟩ := jv_fld HJ (show q < j.vs.length by have := LV.out; omega)
              have HSZ := Lib.hid (show SizeOf.sizeOf x < sz by have := size_vs hx; have := SZ.out; omega)
              have hbd : 0 ≤ (q : Int) ∧ (q : Int) < j.v.Fn := by omega
              have hlt2 : (q : Int) < j.v.Fn := by omega
              rw [hA] at c2_5
              clear hx hA hnx n1
              go_wp2_with (first
                | ((with_reducible refine is_load ?_); refine wpl_load_arr rfl 26 (.tmp 48) rfl _ _ rfl x.cells _ RX Tryz.underlying26 rfl info_value ?_)
                | (go_at_call 10; (refine (IH.out x r _ HSZ.out HX hr0 hrn).mono ?_); rintro e w3 ⟨r2, rfl, hr2, hr3, hb⟩; replace HB := HB.trans (hb.mono HB.size); replace HJ := HJ.below hb; replace c2_5 := cell_below hb c2_5; (try replace HX := HX.below hb); (try replace RX := range_below hb RX); replace HBW := Lib.hid (HBW.out.trans (hb.mono HBW.out.size)); clear hb))
              go_roundw
              case rel => exact ⟨q + 1, r2, by omega, by go_num, rfl, hr2, hr3, HBW.out⟩
              case measure => simp [intOf]; omega
            · have hlt2 : (q : Int) < j.v.Fn := by omega
              have hbd : 0 ≤ (q : Int) ∧ (q : Int) < j.v.Fn := by omega
              go_wp2
              go_ret
              exact ⟨r, rfl, hr0, hr1, HB⟩
          · have hlt2 : ¬ (q : Int) < j.v.Fn := by omega
            go_wp2
            go_ret
            exact ⟨r, rfl, hr0, hr1, HB⟩
      · have q4 : (j.v.kind == 4) = false := by simpa using hk4
        have q5 : (j.v.kind == 5) = false := by simpa using hk5
        clear hk4 hk5
        go_enter Tryz.func10, Tryz.ntmps10
        go_wp2_with (first
          | (refine wpl_box_at rfl 26 (.tmp 0) rfl _ rfl ?_; intro w1 hw; have hb := hid_grow hw; have B2 := (hid_alloc hw).1; replace HB := HB.trans (hb.mono HB.size); replace HJ := HJ.below hb; clear hb hw; have c2_0 : w1.cell? ⟨_, 0, none⟩ = some (.int .i64 j.v.kind) := (B2.cell 0).trans (by rfl)))
        go_ret
        exact ⟨n + 1, rfl, by omega, by omega, HB⟩
theorem count_any {j : JV} {w : World} (HJ : IsJV w j) : Calls Tryz.prog 10 #[.agg j.cells, .int .i64 0] w (CnV w) := cn_to _ j 0 w (Nat.lt_succ_self _) HJ (by omega) (by omega)
end
end Go.Proofs.YtjhncopbiblenaaGreatDoor
namespace Go.Proofs.YtjhncopbiblenaaGreatDoor
section
open Go.RowKit Go.PlainAid
set_option linter.unusedVariables false
set_option linter.unusedSimpArgs false
theorem dig_lenS : ∀ (k x : Nat), x < 10 ^ (k + 1) → (dig x).length ≤ k + 1
  | 0, x, h => by rw [dec_lt (by simpa using h)]; simp
  | k + 1, x, h => by
    by_cases h1 : x < 10
    · rw [dec_lt h1]; simp
    · rw [dec_ge h1, List.length_append]
      have := dig_lenS k (x / 10) (by rw [Nat.pow_succ] at h; omega)
      simp
      omega
theorem fig_len {n : Int} (h1 : n ≤ 9007199254740991) (h2 : -9007199254740991 ≤ n) : (figL n).length ≤ 17 := by
  have := dig_lenS 15 n.natAbs (by
    have : n.natAbs ≤ 9007199254740991 := by omega
    exact Nat.lt_of_le_of_lt this (by decide))
  unfold figL
  split <;> simp <;> omega
theorem len_toList (X : ByteArray) : X.data.toList.length = X.size := Array.length_toList
theorem quo_len (t : ByteArray) : (quo t).length ≤ 6 * t.size + 2 := by
  have h := quoB_len t.data.toList
  have e : t.data.toList.length = t.size := len_toList t
  unfold quo
  simp only [List.length_cons, List.length_append, List.length_nil]
  omega
mutual
theorem pr_len {G : List UInt8} (hG : G.length ≤ 5) : ∀ (t : JT) (d : Int), sndT t d = true → (pr G t).length + 11 ≤ 60 * SzT t
  | .mk k b i t l ns vs, d, h => by
    rw [sz_mk]
    unfold pr
    unfold sndT at h
    by_cases k0 : k = 0
    · rw [if_pos k0]; have : nullL.length = 4 := rfl; omega
    · rw [if_neg k0]
      by_cases k1 : k = 1
      · rw [if_pos k1]
        have h1 : trueL.length = 4 := rfl
        have h2 : falseL.length = 5 := rfl
        split <;> omega
      · rw [if_neg k1]
        rw [if_neg (fun e => e.elim k0 k1)] at h
        by_cases k2 : k = 2
        · rw [if_pos k2]
          rw [if_pos k2] at h
          have h3 : i ≤ 9007199254740991 ∧ -9007199254740991 ≤ i := by simpa using h
          have := fig_len h3.1 h3.2
          omega
        · rw [if_neg k2]
          rw [if_neg k2] at h
          by_cases k3 : k = 3
          · rw [if_pos k3]
            have := quo_len t
            omega
          · rw [if_neg k3]
            rw [if_neg k3] at h
            by_cases k4 : k = 4
            · rw [if_pos k4]
              rw [if_pos k4] at h
              have h2 : sndL l (lessI d) = true := by simp at h; exact h.1
              have := prL_len hG true l _ h2
              simp only [List.length_cons, List.length_append, List.length_nil]
              omega
            · rw [if_neg k4]
              rw [if_neg k4] at h
              by_cases k5 : k = 5
              · rw [if_pos k5] at h
                have h2 : sndF [] ns vs (lessI d) = true := by simp at h; exact h.1
                have := prF_len hG true [] ns vs _ h2
                simp only [List.length_cons, List.length_append, List.length_nil]
                omega
              · rw [if_neg k5] at h
                cases h
theorem prL_len {G : List UInt8} (hG : G.length ≤ 5) : ∀ (f : Bool) (l : List JT) (d : Int), sndL l d = true → (prL G f l).length ≤ 60 * SzL l
  | f, [], d, h => by unfold prL; simp
  | f, x :: r, d, h => by
    unfold sndL at h
    have h2 : sndT x d = true ∧ sndL r d = true := by simpa using h
    have h3 := pr_len hG x d h2.1
    have h4 := prL_len hG false r d h2.2
    unfold prL SzL
    have h5 : (if f = true then [] else [44] : List UInt8).length ≤ 1 := by split <;> simp
    simp only [List.length_append]
    omega
theorem prF_len {G : List UInt8} (hG : G.length ≤ 5) : ∀ (f : Bool) (seen ns : List ByteArray) (vs : List JT) (d : Int), sndF seen ns vs d = true → (prF G f ns vs).length ≤ 60 * (SzN ns + SzL vs)
  | f, seen, [], vs, d, h => by unfold prF; simp
  | f, seen, _ :: _, [], d, h => by unfold prF; simp
  | f, seen, n :: ns, x :: vs, d, h => by
    unfold sndF at h
    have h2 : sndT x d = true ∧ sndF (seen ++ [n]) ns vs d = true := by
      rw [Bool.and_eq_true, Bool.and_eq_true, Bool.and_eq_true] at h
      exact ⟨h.1.2, h.2.2⟩
    have h3 := pr_len hG x d h2.1
    have h4 := prF_len hG false (seen ++ [n]) ns vs d h2.2
    have h6 := quo_len n
    unfold prF SzN SzL
    have h5 : (if f = true then [] else [44] : List UInt8).length ≤ 1 := by split <;> simp
    simp only [List.length_append, List.length_cons]
    omega
end
mutual
theorem er_len {w : World} : ∀ {j : JV}, IsJV w j → LenT (er j)
  | .mk v l ns vs, h => by
    unfold IsJV at h
    unfold er LenT
    exact ⟨er_lenL h.2.1, by rw [erL_len]; exact h.1.2.2.2.2.2.1, er_lenL h.2.2⟩
theorem er_lenL {w : World} {A : Option Addr} {step shift : Nat} : ∀ {l : List JV} {k : Nat}, IsRow w A step shift k l → LenL (erL l)
  | [], _, _ => by unfold erL LenL; exact True.intro
  | x :: r, k, h => by unfold IsRow at h; unfold erL LenL; exact ⟨er_len h.2.1, er_lenL h.2.2⟩
end
mutual
theorem txt_sz {m : Nat} (hm : m ≤ txtMost) : ∀ (t : JT), SzT t ≤ m → TxtLe t
  | .mk k b i t l ns vs, h => by
    rw [sz_mk] at h
    unfold TxtLe
    exact ⟨by omega, txt_szL hm l (by omega), txt_szN hm ns (by omega), txt_szL hm vs (by omega)⟩
theorem txt_szL {m : Nat} (hm : m ≤ txtMost) : ∀ (l : List JT), SzL l ≤ m → TxtLeL l
  | [], h => by unfold TxtLeL; exact True.intro
  | x :: r, h => by unfold SzL at h; unfold TxtLeL; exact ⟨txt_sz hm x (by omega), txt_szL hm r (by omega)⟩
theorem txt_szN {m : Nat} (hm : m ≤ txtMost) : ∀ (l : List ByteArray), SzN l ≤ m → ∀ n ∈ l, n.size ≤ txtMost
  | [], h => fun n hn => by cases hn
  | x :: r, h => fun n hn => by
    unfold SzN at h
    rcases List.mem_cons.1 hn with rfl | hn
    · omega
    · exact txt_szN hm r (by omega) n hn
end
/-- A text that is too long, or is read as the value. -/
def TxOk (X : ByteArray) (t : JT) : Prop := X.size ≤ reach ∧ (65536 < X.size ∨ ∃ k, parseTo X = .ok (plnT t) k)
theorem tx_ok {X : ByteArray} {G : List UInt8} {t : JT} (hG : Blanks G) (hl : G.length ≤ 5) (hs : sndT t 32 = true) (hn : LenT t) (hz : SzT t ≤ 1048576) (h : X.data.toList = G ++ (plX G t [] ++ G)) : TxOk X t := by
  obtain ⟨h1, h2, _⟩ := plX_is G t []
  have h3 := pr_len hl t 32 hs
  have hX : X.size = G.length + ((plX G t []).length + G.length) := by rw [← len_toList, h]; simp only [List.length_append]
  refine ⟨by unfold reach; simp only [List.length_nil] at h2; omega, ?_⟩
  by_cases hb : 65536 < X.size
  · exact .inl hb
  · refine .inr ?_
    rcases h1 with h1 | ⟨h1, _⟩
    · rw [h1, List.nil_append] at h
      exact parse_read hG hs hn h
    · omega
set_option maxRecDepth 10000 in
set_option maxHeartbeats 4000000 in
theorem pick6_any {n : Int} (hn : I64 n) (w : World) : Calls Tryz.prog 12 #[.int .i64 n, .int .i64 6] w fun e w' => (∃ r : Nat, e = .returned (.int .i64 r) ∧ r ≤ 5) ∧ Below w.heap.size w w' := by
  have h1 := hn.1
  have h2 := hn.2
  by_cases h0 : n < 0
  · have hw1 : IntKind.i64.wrap (n + 1) = n + 1 := by rw [IntKind.wrap_i64]; omega
    have hw2 : IntKind.i64.wrap (-(n + 1)) = -(n + 1) := by rw [IntKind.wrap_i64]; omega
    go_enter Tryz.func12, Tryz.ntmps12
    go_wp2
    go_ret
    exact ⟨⟨((-(n + 1)) % 6).toNat, ret_int (by rw [← Int.neg_tmod, Int.tmod_eq_emod_of_nonneg (by omega)]; omega), by omega⟩, Below.refl _ _⟩
  · go_enter Tryz.func12, Tryz.ntmps12
    go_wp2
    go_ret
    exact ⟨⟨(n % 6).toNat, ret_int (by omega), by omega⟩, Below.refl _ _⟩
end
end Go.Proofs.YtjhncopbiblenaaGreatDoor
