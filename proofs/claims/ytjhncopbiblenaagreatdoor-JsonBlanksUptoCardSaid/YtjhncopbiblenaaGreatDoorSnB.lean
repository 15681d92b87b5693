/- Layer 2: coveylaw02.sound, walked. -/
import Derived.Test.YtjhncopbiblenaaGreatDoorSnA
import Derived.Test.YtjhncopbiblenaaGreatDoorJrT
namespace Go.Proofs.YtjhncopbiblenaaGreatDoor
open Go.RowKit Go.PlainAid
set_option linter.unusedVariables false
set_option linter.unusedSimpArgs false
theorem snd_eq (j : JV) (d : Int) : sndT (er j) d = if j.v.kind = 0 ∨ j.v.kind = 1 then true
    else if j.v.kind = 2 then decide (j.v.i ≤ 9007199254740991) && decide (-9007199254740991 ≤ j.v.i)
    else if j.v.kind = 3 then decide (badI j.v.t < 0)
    else if j.v.kind = 4 then sndL (erL j.l) (lessI d) && decide (0 < d)
    else if j.v.kind = 5 then sndF [] j.ns (erL j.vs) (lessI d) && decide (0 < d)
    else false := by
  obtain ⟨v, l, ns, vs⟩ := j
  unfold er sndT
  rfl
theorem txt_parts {j : JV} (h : TxtLe (er j)) : j.v.t.size ≤ txtMost ∧ (∀ x ∈ j.l, TxtLe (er x)) ∧ (∀ n ∈ j.ns, n.size ≤ txtMost) ∧ (∀ x ∈ j.vs, TxtLe (er x)) := by
  have key : ∀ l : List JV, TxtLeL (erL l) → ∀ x ∈ l, TxtLe (er x) := by
    intro l
    induction l with
    | nil => intro _ x hx; cases hx
    | cons y r ih =>
      intro h x hx
      unfold erL TxtLeL at h
      rcases List.mem_cons.1 hx with rfl | hx
      · exact h.1
      · exact ih h.2 x hx
  obtain ⟨v, l, ns, vs⟩ := j
  unfold er TxtLe at h
  exact ⟨h.1, key l h.2.1, h.2.2.1, key vs h.2.2.2⟩
theorem sndL_step {l : List JV} {q : Nat} {x : JV} {d : Int} (hx : l[q]? = some x) : sndL ((erL l).drop q) d = (sndT (er x) d && sndL ((erL l).drop (q + 1)) d) := by
  have hl := (List.getElem?_eq_some_iff.1 hx).1
  have h1 : (erL l).drop q = er x :: (erL l).drop (q + 1) := by
    rw [erL_map, List.drop_eq_getElem_cons (by rw [List.length_map]; exact hl)]
    congr 1
    obtain ⟨_, e⟩ := List.getElem?_eq_some_iff.1 hx
    rw [List.getElem_map, e]
  rw [h1]
  simp only [sndL]
theorem sndF_step {ns : List ByteArray} {vs : List JV} {q : Nat} {nm : ByteArray} {x : JV} {d : Int} (hn : ns[q]? = some nm) (hx : vs[q]? = some x) : sndF (ns.take q) (ns.drop q) ((erL vs).drop q) d = ((decide (badI nm < 0) && sndT (er x) d) && (!hasN (ns.take q) nm && sndF (ns.take (q + 1)) (ns.drop (q + 1)) ((erL vs).drop (q + 1)) d)) := by
  have hl := (List.getElem?_eq_some_iff.1 hx).1
  obtain ⟨hl2, e2⟩ := List.getElem?_eq_some_iff.1 hn
  have h1 : (erL vs).drop q = er x :: (erL vs).drop (q + 1) := by
    rw [erL_map, List.drop_eq_getElem_cons (by rw [List.length_map]; exact hl)]
    congr 1
    obtain ⟨_, e⟩ := List.getElem?_eq_some_iff.1 hx
    rw [List.getElem_map, e]
  have h2 : ns.drop q = nm :: ns.drop (q + 1) := by rw [List.drop_eq_getElem_cons hl2, e2]
  rw [h1, h2]
  simp only [sndF]
  rw [List.take_succ_eq_append_getElem hl2, e2]
theorem hasNs_take {ns : List ByteArray} {nm : ByteArray} {q : Nat} {p : ByteArray} (hq : ns[q]? = some p) : hasN (ns.take (q + 1)) nm = (hasN (ns.take q) nm || (p.toList == nm.toList)) := by
  obtain ⟨hl, e⟩ := List.getElem?_eq_some_iff.1 hq
  rw [List.take_succ_eq_append_getElem hl, e]
  unfold hasN
  simp
theorem hasNs_in {ns : List ByteArray} {nm : ByteArray} {m q : Nat} {p : ByteArray} (hm : m < q) (hq : ns[m]? = some p) (h : (p.toList == nm.toList) = true) : hasN (ns.take q) nm = true := by
  unfold hasN
  rw [List.any_eq_true]
  refine ⟨p, ?_, h⟩
  rw [List.mem_iff_getElem?]
  exact ⟨m, by rw [List.getElem?_take, if_pos hm]; exact hq⟩
theorem less_is (d : Int) (h : I64 d) : wrap64 (d - 1) = lessI d := by
  rw [← IntWalk.i64_left, IntKind.wrap_i64]
  unfold I64 at h
  unfold lessI
  split <;> omega
theorem less_i64 {d : Int} (h : I64 d) : I64 (lessI d) := by unfold lessI I64 at *; split <;> omega
set_option maxRecDepth 100000 in
set_option maxHeartbeats 8000000 in
theorem snd_to (sz : Nat) : ∀ (j : JV) (d : Int) (w : World), SizeOf.sizeOf j < sz → IsJV w j → TxtLe (er j) → I64 d →
    Calls Tryz.prog 11 #[.agg j.cells, .int .i64 d] w fun e w' => e = .returned (.bool (sndT (er j) d)) ∧ Below w.heap.size w w' := by
  induction sz with
  | zero => intro j d w h; omega
  | succ sz ih =>
    intro j d w hsz HJ ht hd
    obtain ⟨l1, l2, l3, l4, l5⟩ := jv_lens HJ
    obtain ⟨t1, t2, t3, t4⟩ := txt_parts ht
    have HE := Lib.hid (snd_eq j d)
    have HSUB := Lib.hid (less_is d hd)
    have HWR := Lib.hid (less_i64 hd)
    have hd0 : -9223372036854775808 ≤ d := hd.1
    have hd1 : d ≤ 9223372036854775807 := hd.2
    have LL := Lib.hid l1
    have LV := Lib.hid l2
    have LN := Lib.hid l3
    have SZ := Lib.hid hsz
    have T1 := Lib.hid t1
    have T2 := Lib.hid t2
    have T3 := Lib.hid t3
    have T4 := Lib.hid t4
    have IH := Lib.hid ih
    clear ih l1 l2 l3 hsz ht hd t1 t2 t3 t4
    have HB := Below.refl w.heap.size w
    by_cases hk0 : j.v.kind = 0
    · have HK : Hid (sndT (er j) d = true) := Lib.hid (by rw [HE.out, if_pos (.inl hk0)])
      have HKD := Lib.hid hk0
      clear hk0
      go_enter Tryz.func11, Tryz.ntmps11
      go_wp2_with (first
        | (refine wpl_box_at rfl 26 (.tmp 0) rfl _ rfl ?_; intro w1 hw; have hb := hid_grow hw; have B2 := (hid_alloc hw).1; replace HB := HB.trans (hb.mono HB.size); replace HJ := HJ.below hb; clear hb hw; have c2_0 : w1.cell? ⟨_, 0, none⟩ = some (.int .i64 0) := (B2.cell 0).trans (by rw [← HKD.out]; rfl); have c2_2 : w1.cell? ⟨_, 2, none⟩ = some (.int .i64 j.v.i) := (B2.cell 2).trans (by rfl); have c2_3 : w1.cell? ⟨_, 3, none⟩ = some (.string j.v.t) := (B2.cell 3).trans (by rfl); have c2_4 : w1.cell? ⟨_, 4, none⟩ = some (.slice j.v.LA j.v.Ln j.v.Lc) := (B2.cell 4).trans (by rfl); have c2_5 : w1.cell? ⟨_, 5, none⟩ = some (.slice j.v.FA j.v.Fn j.v.Fc) := (B2.cell 5).trans (by rfl)))
      go_ret
      exact ⟨ret_bool2 (by rw [HK.out]), HB⟩
    · by_cases hk1 : j.v.kind = 1
      · have HK : Hid (sndT (er j) d = true) := Lib.hid (by rw [HE.out, if_pos (.inr hk1)])
        have HKD := Lib.hid hk1
        clear hk0 hk1
        go_enter Tryz.func11, Tryz.ntmps11
        go_wp2_with (first
          | (refine wpl_box_at rfl 26 (.tmp 0) rfl _ rfl ?_; intro w1 hw; have hb := hid_grow hw; have B2 := (hid_alloc hw).1; replace HB := HB.trans (hb.mono HB.size); replace HJ := HJ.below hb; clear hb hw; have c2_0 : w1.cell? ⟨_, 0, none⟩ = some (.int .i64 1) := (B2.cell 0).trans (by rw [← HKD.out]; rfl); have c2_2 : w1.cell? ⟨_, 2, none⟩ = some (.int .i64 j.v.i) := (B2.cell 2).trans (by rfl); have c2_3 : w1.cell? ⟨_, 3, none⟩ = some (.string j.v.t) := (B2.cell 3).trans (by rfl); have c2_4 : w1.cell? ⟨_, 4, none⟩ = some (.slice j.v.LA j.v.Ln j.v.Lc) := (B2.cell 4).trans (by rfl); have c2_5 : w1.cell? ⟨_, 5, none⟩ = some (.slice j.v.FA j.v.Fn j.v.Fc) := (B2.cell 5).trans (by rfl)))
        go_ret
        exact ⟨ret_bool2 (by rw [HK.out]), HB⟩
      · have hk01 : ¬ (j.v.kind = 0 ∨ j.v.kind = 1) := fun h => h.elim hk0 hk1
        by_cases hk2 : j.v.kind = 2
        · have HK2 : Hid (sndT (er j) d = (decide (j.v.i ≤ 9007199254740991) && decide (-9007199254740991 ≤ j.v.i))) := Lib.hid (by rw [HE.out, if_neg hk01, if_pos hk2])
          have HKD := Lib.hid hk2
          clear hk0 hk1 hk2 hk01
          by_cases g1 : j.v.i ≤ 9007199254740991
          · by_cases g2 : -9007199254740991 ≤ j.v.i
            · have HK : Hid (sndT (er j) d = true) := Lib.hid (by rw [HK2.out]; simp [g1, g2])
              go_enter Tryz.func11, Tryz.ntmps11
              go_wp2_with (first
                | (refine wpl_box_at rfl 26 (.tmp 0) rfl _ rfl ?_; intro w1 hw; have hb := hid_grow hw; have B2 := (hid_alloc hw).1; replace HB := HB.trans (hb.mono HB.size); replace HJ := HJ.below hb; clear hb hw; have c2_0 : w1.cell? ⟨_, 0, none⟩ = some (.int .i64 2) := (B2.cell 0).trans (by rw [← HKD.out]; rfl); have c2_2 : w1.cell? ⟨_, 2, none⟩ = some (.int .i64 j.v.i) := (B2.cell 2).trans (by rfl); have c2_3 : w1.cell? ⟨_, 3, none⟩ = some (.string j.v.t) := (B2.cell 3).trans (by rfl); have c2_4 : w1.cell? ⟨_, 4, none⟩ = some (.slice j.v.LA j.v.Ln j.v.Lc) := (B2.cell 4).trans (by rfl); have c2_5 : w1.cell? ⟨_, 5, none⟩ = some (.slice j.v.FA j.v.Fn j.v.Fc) := (B2.cell 5).trans (by rfl)))
              go_ret
              exact ⟨ret_bool2 (by rw [HK.out]), HB⟩
            · have HK : Hid (sndT (er j) d = false) := Lib.hid (by rw [HK2.out]; simp [g2])
              go_enter Tryz.func11, Tryz.ntmps11
              go_wp2_with (first
                | (refine wpl_box_at rfl 26 (.tmp 0) rfl _ rfl ?_; intro w1 hw; have hb := hid_grow hw; have B2 := (hid_alloc hw).1; replace HB := HB.trans (hb.mono HB.size); replace HJ := HJ.below hb; clear hb hw; have c2_0 : w1.cell? ⟨_, 0, none⟩ = some (.int .i64 2) := (B2.cell 0).trans (by rw [← HKD.out]; rfl); have c2_2 : w1.cell? ⟨_, 2, none⟩ = some (.int .i64 j.v.i) := (B2.cell 2).trans (by rfl); have c2_3 : w1.cell? ⟨_, 3, none⟩ = some (.string j.v.t) := (B2.cell 3).trans (by rfl); have c2_4 : w1.cell? ⟨_, 4, none⟩ = some (.slice j.v.LA j.v.Ln j.v.Lc) := (B2.cell 4).trans (by rfl); have c2_5 : w1.cell? ⟨_, 5, none⟩ = some (.slice j.v.FA j.v.Fn j.v.Fc) := (B2.cell 5).trans (by rfl)))
              go_ret
              exact ⟨ret_bool2 (by rw [HK.out]), HB⟩
          · have HK : Hid (sndT (er j) d = false) := Lib.hid (by rw [HK2.out]; simp [g1])
            go_enter Tryz.func11, Tryz.ntmps11
            go_wp2_with (first
              | (refine wpl_box_at rfl 26 (.tmp 0) rfl _ rfl ?_; intro w1 hw; have hb := hid_grow hw; have B2 := (hid_alloc hw).1; replace HB := HB.trans (hb.mono HB.size); replace HJ := HJ.below hb; clear hb hw; have c2_0 : w1.cell? ⟨_, 0, none⟩ = some (.int .i64 2) := (B2.cell 0).trans (by rw [← HKD.out]; rfl); have c2_2 : w1.cell? ⟨_, 2, none⟩ = some (.int .i64 j.v.i) := (B2.cell 2).trans (by rfl); have c2_3 : w1.cell? ⟨_, 3, none⟩ = some (.string j.v.t) := (B2.cell 3).trans (by rfl); have c2_4 : w1.cell? ⟨_, 4, none⟩ = some (.slice j.v.LA j.v.Ln j.v.Lc) := (B2.cell 4).trans (by rfl); have c2_5 : w1.cell? ⟨_, 5, none⟩ = some (.slice j.v.FA j.v.Fn j.v.Fc) := (B2.cell 5).trans (by rfl)))
            go_ret
            exact ⟨ret_bool2 (by rw [HK.out]), HB⟩
        · by_cases hk3 : j.v.kind = 3
          · have HK2 : Hid (sndT (er j) d = decide (badI j.v.t < 0)) := Lib.hid (by rw [HE.out, if_neg hk01, if_neg hk2, if_pos hk3])
            have HKD := Lib.hid hk3
            clear hk0 hk1 hk2 hk01 hk3
            by_cases g1 : badI j.v.t < 0
            · have HK : Hid (sndT (er j) d = true) := Lib.hid (by rw [HK2.out]; simp [g1])
              go_enter Tryz.func11, Tryz.ntmps11
              go_wp2_with (first
                | (refine wpl_box_at rfl 26 (.tmp 0) rfl _ rfl ?_; intro w1 hw; have hb := hid_grow hw; have B2 := (hid_alloc hw).1; replace HB := HB.trans (hb.mono HB.size); replace HJ := HJ.below hb; clear hb hw; have c2_0 : w1.cell? ⟨_, 0, none⟩ = some (.int .i64 3) := (B2.cell 0).trans (by rw [← HKD.out]; rfl); have c2_2 : w1.cell? ⟨_, 2, none⟩ = some (.int .i64 j.v.i) := (B2.cell 2).trans (by rfl); have c2_3 : w1.cell? ⟨_, 3, none⟩ = some (.string j.v.t) := (B2.cell 3).trans (by rfl); have c2_4 : w1.cell? ⟨_, 4, none⟩ = some (.slice j.v.LA j.v.Ln j.v.Lc) := (B2.cell 4).trans (by rfl); have c2_5 : w1.cell? ⟨_, 5, none⟩ = some (.slice j.v.FA j.v.Fn j.v.Fc) := (B2.cell 5).trans (by rfl))
                | (go_at_call 24; (with_reducible refine (badu_any T1.out _).mono ?_); rintro e w2 ⟨rfl, hb⟩; replace HB := HB.trans (hb.mono HB.size); clear hb))
              go_ret
              exact ⟨ret_bool2 (by rw [HK.out]), HB⟩
            · have HK : Hid (sndT (er j) d = false) := Lib.hid (by rw [HK2.out]; simp [g1])
              go_enter Tryz.func11, Tryz.ntmps11
              go_wp2_with (first
                | (refine wpl_box_at rfl 26 (.tmp 0) rfl _ rfl ?_; intro w1 hw; have hb := hid_grow hw; have B2 := (hid_alloc hw).1; replace HB := HB.trans (hb.mono HB.size); replace HJ := HJ.below hb; clear hb hw; have c2_0 : w1.cell? ⟨_, 0, none⟩ = some (.int .i64 3) := (B2.cell 0).trans (by rw [← HKD.out]; rfl); have c2_2 : w1.cell? ⟨_, 2, none⟩ = some (.int .i64 j.v.i) := (B2.cell 2).trans (by rfl); have c2_3 : w1.cell? ⟨_, 3, none⟩ = some (.string j.v.t) := (B2.cell 3).trans (by rfl); have c2_4 : w1.cell? ⟨_, 4, none⟩ = some (.slice j.v.LA j.v.Ln j.v.Lc) := (B2.cell 4).trans (by rfl); have c2_5 : w1.cell? ⟨_, 5, none⟩ = some (.slice j.v.FA j.v.Fn j.v.Fc) := (B2.cell 5).trans (by rfl))
                | (go_at_call 24; (with_reducible refine (badu_any T1.out _).mono ?_); rintro e w2 ⟨rfl, hb⟩; replace HB := HB.trans (hb.mono HB.size); clear hb))
              go_ret
              exact ⟨ret_bool2 (by rw [HK.out]; simp; omega), HB⟩
          · by_cases hk4 : j.v.kind = 4
            · have HK2 : Hid (sndT (er j) d = (sndL (erL j.l) (lessI d) && decide (0 < d))) := Lib.hid (by rw [HE.out, if_neg hk01, if_neg hk2, if_neg hk3, if_pos hk4])
              have HKD := Lib.hid hk4
              clear hk0 hk1 hk2 hk01 hk3 hk4
              go_enter Tryz.func11, Tryz.ntmps11
              go_wp2_with (first
                | (refine wpl_box_at rfl 26 (.tmp 0) rfl _ rfl ?_; intro w1 hw; have hb := hid_grow hw; have B2 := (hid_alloc hw).1; replace HB := HB.trans (hb.mono HB.size); replace HJ := HJ.below hb; clear hb hw; have c2_0 : w1.cell? ⟨_, 0, none⟩ = some (.int .i64 4) := (B2.cell 0).trans (by rw [← HKD.out]; rfl); have c2_2 : w1.cell? ⟨_, 2, none⟩ = some (.int .i64 j.v.i) := (B2.cell 2).trans (by rfl); have c2_3 : w1.cell? ⟨_, 3, none⟩ = some (.string j.v.t) := (B2.cell 3).trans (by rfl); have c2_4 : w1.cell? ⟨_, 4, none⟩ = some (.slice j.v.LA j.v.Ln j.v.Lc) := (B2.cell 4).trans (by rfl); have c2_5 : w1.cell? ⟨_, 5, none⟩ = some (.slice j.v.FA j.v.Fn j.v.Fc) := (B2.cell 5).trans (by rfl)))
              clear c2_0 c2_2 c2_3
              go_loopw [5] (fun i wr => ∃ q : Nat, q ≤ j.v.Ln ∧ i = .int .i64 q ∧ Hid (sndL (erL j.l) (lessI d) = sndL ((erL j.l).drop q) (lessI d)) ∧ Below w1.heap.size w1 wr) (fun i _ => j.v.Ln - (intOf i).toNat)
              case atStart => exact ⟨0, Nat.zero_le _, rfl, Lib.hid (by rw [List.drop_zero]), Below.refl _ _⟩
              case round =>
                obtain ⟨q, hq, rfl, HS1, hb⟩ := hrel
                have HBW := Lib.hid hb
                replace HB := HB.trans (hb.mono HB.size)
                replace HJ := HJ.below hb
                replace c2_4 := cell_below hb c2_4
                replace c2_5 := cell_below hb c2_5
                clear hb
                by_cases hlt : q < j.v.Ln
                · obtain ⟨bl, off, x, hA, hx, RX, HX⟩ := jv_elem HJ (show q < j.l.length by have := LL.out; omega)
                  have hst := sndL_step (d := lessI d) hx
                  have HTX := Lib.hid (T2.out x (List.mem_of_getElem? hx))
                  have HSZ := Lib.hid (show SizeOf.sizeOf x < sz by have := size_l hx; have := SZ.out; omega)
                  have hbd : 0 ≤ (q : Int) ∧ (q : Int) < j.v.Ln := by omega
                  rw [hA] at c2_4
                  clear hx hA
                  cases hS : sndT (er x) (lessI d)
                  · have HK : Hid (sndT (er j) d = false) := Lib.hid (by rw [HK2.out, HS1.out, hst, hS]; rfl)
                    have HS := Lib.hid hS
                    clear hS hst
                    go_wp2_with (first
                      | ((with_reducible refine is_load ?_); refine wpl_load_arr rfl 26 (.tmp 44) rfl _ _ rfl x.cells _ RX Tryz.underlying26 rfl info_value ?_)
                      | (go_at_call 11; rw [HSUB.out]; (refine (IH.out x (lessI d) _ HSZ.out HX HTX.out HWR.out).mono ?_); rintro e w3 ⟨rfl, hb⟩; rw [HS.out]; replace HB := HB.trans (hb.mono HB.size); replace HJ := HJ.below hb; replace c2_4 := cell_below hb c2_4; replace c2_5 := cell_below hb c2_5; (try replace n1 := cell_below hb n1); (try replace HX := HX.below hb); (try replace RX := range_below hb RX); replace HBW := Lib.hid (HBW.out.trans (hb.mono HBW.out.size)); clear hb))
                    go_ret
                    exact ⟨ret_bool2 (by rw [HK.out]), HB⟩
                  · have HS2 : Hid (sndL (erL j.l) (lessI d) = sndL ((erL j.l).drop (q + 1)) (lessI d)) := Lib.hid (by rw [HS1.out, hst, hS]; rfl)
                    have HS := Lib.hid hS
                    clear hS hst
                    go_wp2_with (first
                      | ((with_reducible refine is_load ?_); refine wpl_load_arr rfl 26 (.tmp 44) rfl _ _ rfl x.cells _ RX Tryz.underlying26 rfl info_value ?_)
                      | (go_at_call 11; rw [HSUB.out]; (refine (IH.out x (lessI d) _ HSZ.out HX HTX.out HWR.out).mono ?_); rintro e w3 ⟨rfl, hb⟩; rw [HS.out]; replace HB := HB.trans (hb.mono HB.size); replace HJ := HJ.below hb; replace c2_4 := cell_below hb c2_4; replace c2_5 := cell_below hb c2_5; (try replace n1 := cell_below hb n1); (try replace HX := HX.below hb); (try replace RX := range_below hb RX); replace HBW := Lib.hid (HBW.out.trans (hb.mono HBW.out.size)); clear hb))
                    go_roundw
                    case rel => exact ⟨q + 1, by omega, by go_num, HS2, HBW.out⟩
                    case measure => simp [intOf]; omega
                · obtain rfl : q = j.v.Ln := by omega
                  have HL1 : Hid (sndL (erL j.l) (lessI d) = true) := Lib.hid (by rw [HS1.out, List.drop_eq_nil_of_le (by rw [erL_len]; exact Nat.le_of_eq LL.out.symm)]; simp [sndL])
                  clear hq hlt
                  by_cases g1 : 0 < d
                  · have HK : Hid (sndT (er j) d = true) := Lib.hid (by rw [HK2.out, HL1.out]; simp [g1])
                    go_wp2
                    go_ret
                    exact ⟨ret_bool2 (by rw [HK.out]), HB⟩
                  · have HK : Hid (sndT (er j) d = false) := Lib.hid (by rw [HK2.out]; simp [g1])
                    go_wp2
                    go_ret
                    exact ⟨ret_bool2 (by rw [HK.out]), HB⟩
            · by_cases hk5 : j.v.kind = 5
              · have HK2 : Hid (sndT (er j) d = (sndF [] j.ns (erL j.vs) (lessI d) && decide (0 < d))) := Lib.hid (by rw [HE.out, if_neg hk01, if_neg hk2, if_neg hk3, if_neg hk4, if_pos hk5])
                have HKD := Lib.hid hk5
                clear hk0 hk1 hk2 hk01 hk3 hk4 hk5
                go_enter Tryz.func11, Tryz.ntmps11
                go_wp2_with (first
                  | (refine wpl_box_at rfl 26 (.tmp 0) rfl _ rfl ?_; intro w1 hw; have hb := hid_grow hw; have B2 := (hid_alloc hw).1; replace HB := HB.trans (hb.mono HB.size); replace HJ := HJ.below hb; clear hb hw; have c2_0 : w1.cell? ⟨_, 0, none⟩ = some (.int .i64 5) := (B2.cell 0).trans (by rw [← HKD.out]; rfl); have c2_2 : w1.cell? ⟨_, 2, none⟩ = some (.int .i64 j.v.i) := (B2.cell 2).trans (by rfl); have c2_3 : w1.cell? ⟨_, 3, none⟩ = some (.string j.v.t) := (B2.cell 3).trans (by rfl); have c2_4 : w1.cell? ⟨_, 4, none⟩ = some (.slice j.v.LA j.v.Ln j.v.Lc) := (B2.cell 4).trans (by rfl); have c2_5 : w1.cell? ⟨_, 5, none⟩ = some (.slice j.v.FA j.v.Fn j.v.Fc) := (B2.cell 5).trans (by rfl)))
                clear c2_0 c2_2 c2_3
                go_loopw [7] (fun i wr => ∃ q : Nat, q ≤ j.v.Fn ∧ i = .int .i64 q ∧ Hid (sndF [] j.ns (erL j.vs) (lessI d) = sndF (j.ns.take q) (j.ns.drop q) ((erL j.vs).drop q) (lessI d)) ∧ Below w1.heap.size w1 wr) (fun i _ => j.v.Fn - (intOf i).toNat)
                case atStart => exact ⟨0, Nat.zero_le _, rfl, Lib.hid (by rw [List.take_zero, List.drop_zero, List.drop_zero]), Below.refl _ _⟩
                case round =>
                  obtain ⟨q, hq, rfl, HS1, hb⟩ := hrel
                  have HBW := Lib.hid hb
                  replace HB := HB.trans (hb.mono HB.size)
                  replace HJ := HJ.below hb
                  replace c2_4 := cell_below hb c2_4
                  replace c2_5 := cell_below hb c2_5
                  clear hb
                  by_cases hlt : q < j.v.Fn
                  · obtain ⟨bl, off, nm, x, hA, hx, hnx, n1, RX, HX⟩ := jv_fld HJ (show q < j.vs.length by have := LV.out; omega)
                    have hst := sndF_step (d := lessI d) hnx hx
                    have HTX := Lib.hid (T4.out x (List.mem_of_getElem? hx))
                    have HNM := Lib.hid (T3.out nm (List.mem_of_getElem? hnx))
                    have HSZ := Lib.hid (show SizeOf.sizeOf x < sz by have := size_vs hx; have := SZ.out; omega)
                    have hbd : 0 ≤ (q : Int) ∧ (q : Int) < j.v.Fn := by omega
                    rw [hA] at c2_5
                    have HA := Lib.hid hA
                    clear hx hA hnx
                    by_cases hbn : badI nm < 0
                    · have hbn2 : ¬ 0 ≤ badI nm := by omega
                      cases hS : sndT (er x) (lessI d)
                      · have HK : Hid (sndT (er j) d = false) := Lib.hid (by rw [HK2.out, HS1.out, hst, hS]; simp)
                        have HS := Lib.hid hS
                        clear hS hst
                        go_wp2_with (first
                          | (go_at_call 24; (with_reducible refine (badu_any HNM.out _).mono ?_); rintro e w2 ⟨rfl, hb⟩; replace HB := HB.trans (hb.mono HB.size); replace HJ := HJ.below hb; replace c2_4 := cell_below hb c2_4; replace c2_5 := cell_below hb c2_5; (try replace n1 := cell_below hb n1); (try replace HX := HX.below hb); (try replace RX := range_below hb RX); replace HBW := Lib.hid (HBW.out.trans (hb.mono HBW.out.size)); clear hb)
                          | ((with_reducible refine is_load ?_); refine wpl_load_arr rfl 26 (.tmp 73) rfl _ _ rfl x.cells _ RX Tryz.underlying26 rfl info_value ?_)
                          | (go_at_call 11; rw [HSUB.out]; (refine (IH.out x (lessI d) _ HSZ.out HX HTX.out HWR.out).mono ?_); rintro e w3 ⟨rfl, hb⟩; rw [HS.out]; replace HB := HB.trans (hb.mono HB.size); replace HJ := HJ.below hb; replace c2_4 := cell_below hb c2_4; replace c2_5 := cell_below hb c2_5; (try replace n1 := cell_below hb n1); (try replace HX := HX.below hb); (try replace RX := range_below hb RX); replace HBW := Lib.hid (HBW.out.trans (hb.mono HBW.out.size)); clear hb))
                        go_ret
                        exact ⟨ret_bool2 (by rw [HK.out]), HB⟩
                      · have HST : Hid (sndF [] j.ns (erL j.vs) (lessI d) = (!hasN (j.ns.take q) nm && sndF (j.ns.take (q + 1)) (j.ns.drop (q + 1)) ((erL j.vs).drop (q + 1)) (lessI d))) := Lib.hid (by rw [HS1.out, hst, hS]; simp [hbn])
                        have HS := Lib.hid hS
                        clear hS hst HS1
                        go_wp2_with (first
                          | (go_at_call 24; (with_reducible refine (badu_any HNM.out _).mono ?_); rintro e w2 ⟨rfl, hb⟩; replace HB := HB.trans (hb.mono HB.size); replace HJ := HJ.below hb; replace c2_4 := cell_below hb c2_4; replace c2_5 := cell_below hb c2_5; (try replace n1 := cell_below hb n1); (try replace HX := HX.below hb); (try replace RX := range_below hb RX); replace HBW := Lib.hid (HBW.out.trans (hb.mono HBW.out.size)); clear hb)
                          | ((with_reducible refine is_load ?_); refine wpl_load_arr rfl 26 (.tmp 73) rfl _ _ rfl x.cells _ RX Tryz.underlying26 rfl info_value ?_)
                          | (go_at_call 11; rw [HSUB.out]; (refine (IH.out x (lessI d) _ HSZ.out HX HTX.out HWR.out).mono ?_); rintro e w3 ⟨rfl, hb⟩; rw [HS.out]; replace HB := HB.trans (hb.mono HB.size); replace HJ := HJ.below hb; replace c2_4 := cell_below hb c2_4; replace c2_5 := cell_below hb c2_5; (try replace n1 := cell_below hb n1); (try replace HX := HX.below hb); (try replace RX := range_below hb RX); replace HBW := Lib.hid (HBW.out.trans (hb.mono HBW.out.size)); clear hb))
                        clear RX HX
                        obtain ⟨wn, hwn⟩ : ∃ w9 : World, w9 = w3 := ⟨w3, rfl⟩
                        subst hwn
                        go_loopw [10] (fun i wr => ∃ m : Nat, m ≤ q ∧ i = .int .i64 m ∧ Hid (hasN (j.ns.take m) nm = false) ∧ Below wn.heap.size wn wr) (fun i _ => q - (intOf i).toNat)
                        case atStart => exact ⟨0, Nat.zero_le _, rfl, Lib.hid rfl, Below.refl _ _⟩
                        case round =>
                          obtain ⟨m, hm, rfl, HH, hb⟩ := hrel
                          have HBN := Lib.hid hb
                          replace HB := HB.trans (hb.mono HB.size)
                          replace HJ := HJ.below hb
                          replace c2_4 := cell_below hb c2_4
                          replace c2_5 := cell_below hb c2_5
                          (try replace n1 := cell_below hb n1)
                          replace HBW := Lib.hid (HBW.out.trans (hb.mono HBW.out.size))
                          clear hb
                          by_cases hlm : m < q
                          · obtain ⟨bl2, off2, nm2, y, hA2, hy, hny, n2, RY, HY⟩ := jv_fld HJ (show m < j.vs.length by have := LV.out; omega)
                            have hAA := HA.out.symm.trans hA2
                            cases hAA
                            have hnx := hasNs_take (nm := nm) hny
                            have hin := hasNs_in (nm := nm) hlm hny
                            have hbd2 : 0 ≤ (m : Int) ∧ (m : Int) < j.v.Fn := by omega
                            have hlm2 : (m : Int) < (q : Int) := by omega
                            clear hy hny hA2 RY HY
                            cases he : (nm2.toList == nm.toList)
                            · have hnx2 : Hid (hasN (j.ns.take (m + 1)) nm = false) := Lib.hid (by rw [hnx, HH.out, he]; rfl)
                              clear hnx hin
                              go_wp2
                              go_quiet (fail)
                              generalize hw2 : World.drewN _ nq = w2
                              have hb4 := HBN.out.trans ((below_dq hw2).mono HBN.out.size)
                              clear hw2
                              go_wp2
                              go_roundw
                              case rel => exact ⟨m + 1, by omega, by go_num, hnx2, hb4⟩
                              case measure => simp [intOf]; omega
                            · have HK : Hid (sndT (er j) d = false) := Lib.hid (by rw [HK2.out, HST.out, hin he]; rfl)
                              clear hnx hin
                              go_wp2
                              go_quiet (fail)
                              generalize hw2 : World.drewN _ nq = w2
                              replace HB := HB.trans ((below_dq hw2).mono HB.size)
                              clear hw2
                              go_wp2
                              go_ret
                              exact ⟨ret_bool2 (by rw [HK.out]), HB⟩
                          · obtain rfl : m = q := by omega
                            have hlm2 : ¬ (m : Int) < (m : Int) := by omega
                            have HS2 : Hid (sndF [] j.ns (erL j.vs) (lessI d) = sndF (j.ns.take (m + 1)) (j.ns.drop (m + 1)) ((erL j.vs).drop (m + 1)) (lessI d)) := Lib.hid (by rw [HST.out, HH.out]; rfl)
                            clear hlm hm
                            go_wp2
                            go_roundw
                            case rel => exact ⟨m + 1, by omega, by go_num, HS2, HBW.out⟩
                            case measure => simp [intOf]; omega
                    · have hbn2 : 0 ≤ badI nm := by omega
                      have HK : Hid (sndT (er j) d = false) := Lib.hid (by rw [HK2.out, HS1.out, hst]; simp [hbn])
                      obtain ⟨S, hS⟩ : ∃ S, sndT (er x) (lessI d) = S := ⟨_, rfl⟩
                      have HS := Lib.hid hS
                      clear hS hst
                      go_wp2_with (first
                        | (go_at_call 24; (with_reducible refine (badu_any HNM.out _).mono ?_); rintro e w2 ⟨rfl, hb⟩; replace HB := HB.trans (hb.mono HB.size); replace HJ := HJ.below hb; replace c2_4 := cell_below hb c2_4; replace c2_5 := cell_below hb c2_5; (try replace n1 := cell_below hb n1); (try replace HX := HX.below hb); (try replace RX := range_below hb RX); replace HBW := Lib.hid (HBW.out.trans (hb.mono HBW.out.size)); clear hb)
                        | ((with_reducible refine is_load ?_); refine wpl_load_arr rfl 26 (.tmp 73) rfl _ _ rfl x.cells _ RX Tryz.underlying26 rfl info_value ?_)
                        | (go_at_call 11; rw [HSUB.out]; (refine (IH.out x (lessI d) _ HSZ.out HX HTX.out HWR.out).mono ?_); rintro e w3 ⟨rfl, hb⟩; rw [HS.out]; replace HB := HB.trans (hb.mono HB.size); replace HJ := HJ.below hb; replace c2_4 := cell_below hb c2_4; replace c2_5 := cell_below hb c2_5; (try replace n1 := cell_below hb n1); (try replace HX := HX.below hb); (try replace RX := range_below hb RX); replace HBW := Lib.hid (HBW.out.trans (hb.mono HBW.out.size)); clear hb))
                      go_ret
                      exact ⟨ret_bool2 (by rw [HK.out]), HB⟩
                  · obtain rfl : q = j.v.Fn := by omega
                    have HL1 : Hid (sndF [] j.ns (erL j.vs) (lessI d) = true) := Lib.hid (by rw [HS1.out, List.drop_eq_nil_of_le (by rw [LN.out]; exact Nat.le_of_eq LV.out.symm)]; simp [sndF])
                    clear hq hlt
                    by_cases g1 : 0 < d
                    · have HK : Hid (sndT (er j) d = true) := Lib.hid (by rw [HK2.out, HL1.out]; simp [g1])
                      go_wp2
                      go_ret
                      exact ⟨ret_bool2 (by rw [HK.out]), HB⟩
                    · have HK : Hid (sndT (er j) d = false) := Lib.hid (by rw [HK2.out]; simp [g1])
                      go_wp2
                      go_ret
                      exact ⟨ret_bool2 (by rw [HK.out]), HB⟩
              · have HK : Hid (sndT (er j) d = false) := Lib.hid (by rw [HE.out, if_neg hk01, if_neg hk2, if_neg hk3, if_neg hk4, if_neg hk5])
                have q0 : (j.v.kind == 0) = false := by simpa using hk0
                have q1 : (j.v.kind == 1) = false := by simpa using hk1
                have q2 : (j.v.kind == 2) = false := by simpa using hk2
                have q3 : (j.v.kind == 3) = false := by simpa using hk3
                have q4 : (j.v.kind == 4) = false := by simpa using hk4
                have q5 : (j.v.kind == 5) = false := by simpa using hk5
                clear hk0 hk1 hk01 hk2 hk3 hk4 hk5
                go_enter Tryz.func11, Tryz.ntmps11
                go_wp2_with (first
                  | (refine wpl_box_at rfl 26 (.tmp 0) rfl _ rfl ?_; intro w1 hw; have hb := hid_grow hw; have B2 := (hid_alloc hw).1; replace HB := HB.trans (hb.mono HB.size); replace HJ := HJ.below hb; clear hb hw; have c2_0 : w1.cell? ⟨_, 0, none⟩ = some (.int .i64 j.v.kind) := (B2.cell 0).trans (by rfl); have c2_2 : w1.cell? ⟨_, 2, none⟩ = some (.int .i64 j.v.i) := (B2.cell 2).trans (by rfl); have c2_3 : w1.cell? ⟨_, 3, none⟩ = some (.string j.v.t) := (B2.cell 3).trans (by rfl); have c2_4 : w1.cell? ⟨_, 4, none⟩ = some (.slice j.v.LA j.v.Ln j.v.Lc) := (B2.cell 4).trans (by rfl); have c2_5 : w1.cell? ⟨_, 5, none⟩ = some (.slice j.v.FA j.v.Fn j.v.Fc) := (B2.cell 5).trans (by rfl)))
                go_ret
                exact ⟨ret_bool2 (by rw [HK.out]), HB⟩
theorem sound_any {j : JV} {d : Int} {w : World} (hj : IsJV w j) (ht : TxtLe (er j)) (hd : I64 d) : Calls Tryz.prog 11 #[.agg j.cells, .int .i64 d] w fun e w' => e = .returned (.bool (sndT (er j) d)) ∧ Below w.heap.size w w' := snd_to _ j d w (Nat.lt_succ_self _) hj ht hd
end Go.Proofs.YtjhncopbiblenaaGreatDoor
