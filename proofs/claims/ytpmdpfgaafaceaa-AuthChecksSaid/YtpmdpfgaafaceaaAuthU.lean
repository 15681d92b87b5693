/- Layer 16: is a content of levels formed? In the reference. -/
import Derived.Test.YtpmdpfgaafaceaaAuthO
import Derived.Test.YtpmdpfgaafaceaaOpL
namespace Go.Proofs.Ytpmdpfgaafaceaa
open Go.RowKit Go.PlainAid
set_option linter.unusedVariables false
set_option linter.unusedSimpArgs false

set_option maxRecDepth 100000 in
set_option maxHeartbeats 8000000 in
theorem rformed_any (v : JV) (w : World) (HV : IsJV w v) :
    Calls Try.prog 31 #[.agg v.cells] w fun e w' => e = .returned (.bool (formedB v)) ∧ Below w.heap.size w w' := by
  have HB := Below.refl w.heap.size w
  go_enter Try.func31, Try.ntmps31
  go_wp2_with (first
    | (refine wpl_box_at rfl 30 (.tmp 0) rfl _ rfl ?_; intro w1 hw; have hb := hid_grow hw; have B1 := (hid_alloc hw).1; replace HB := HB.trans (hb.mono HB.size); replace HV := HV.below hb; clear hb hw)
    | (go_at_call 56; (with_reducible refine (rseven7_any _).mono ?_); rintro e wn ⟨AN, cN, rfl, hN, hb⟩; replace HB := HB.trans (hb.mono HB.size); replace HV := HV.below hb; replace B1 := IBox.below B1 hb (IBox.lt B1); clear hb))
  go_loopw [4] (fun i wr => ∃ k : Nat, k ≤ 7 ∧ i = .int .i64 k ∧ Hid (∀ q n, q < k → sevenL[q]? = some n → badB v n = false) ∧ Below wn.heap.size wn wr) (fun i _ => 7 - (intOf i).toNat)
  case atStart => exact ⟨0, by omega, rfl, fun q n hq => absurd hq (by omega), Below.refl _ _⟩
  case round =>
    obtain ⟨k, hk, rfl, HS, hb⟩ := hrel
    have HBW := Lib.hid hb
    replace HB := HB.trans (hb.mono HB.size)
    replace HV := HV.below hb
    replace B1 := IBox.below B1 hb (IBox.lt B1)
    by_cases hlt : k < 7
    · obtain ⟨bl, off, n, hA, hn, hcn, hs⟩ := names_at (hN.below hb) (show k < List.length _ from hlt)
      rw [Nat.mul_one] at hcn
      subst hA
      have HN7 := Lib.hid hn
      have hbad : badB v n = (fieldP v n && ((fieldD v n).v.kind != 2)) := rfl
      have hk2 : ((fieldD v n).v.kind != 2) = !((fieldD v n).v.kind == 2) := rfl
      have hlt2 : 0 ≤ (k : Int) ∧ (k : Int) < 7 := by omega
      clear hn hb hs
      cases hP : fieldP v n <;> cases hK : ((fieldD v n).v.kind == 2)
      · rw [hK] at hk2
        rw [hP, hk2] at hbad
        have HBAD := Lib.hid hbad
        clear hbad hK
        go_wp2
        refine wp_region_below (by kernel_rfl) (fun w2 hHeld => ?_)
        refine wpAnyH_take (i := 0) (oi := ⟨some 23, _, _, _, _, _⟩) (v := _) rfl (by kernel_rfl) (by kernel_rfl) (by kernel_rfl) (fun _ _ _ h => h) (yields_box (by kernel_rfl) _ _ rfl _ rfl _ _ _ B1 Try.underlying30 rfl info_value) (by assumption) ?_
        try simp only [Act.put, List.setIfInBounds_toArray, List.set_cons_zero, List.set_cons_succ]
        refine wpAnyH_take (i := 1) (oi := ⟨some 24, _, _, _, _, _⟩) (v := ?_) rfl (by kernel_rfl) (by kernel_rfl) (by kernel_rfl) (fun _ _ _ h => h) (Or.inl ⟨by kernel_rfl, ?_⟩) (by assumption) ?_
        rotate_left
        · (intro w hSw; (try dsimp only at hSw); have := cell_below hSw hcn; go_simp; try with_reducible rfl)
        try simp only [Act.put, List.setIfInBounds_toArray, List.set_cons_zero, List.set_cons_succ]
        refine wpAnyH_take (i := 2) (oi := ⟨some 25, _, _, _, _, _⟩) (v := ?_) rfl (by kernel_rfl) (by kernel_rfl) (by kernel_rfl) (fun _ _ _ h => h) (Or.inl ⟨by kernel_rfl, ?_⟩) (by assumption) ?_
        rotate_left
        · (intro w hSw; (try dsimp only at hSw); have := cell_below hSw hcn; go_simp; try with_reducible rfl)
        try simp only [Act.put, List.setIfInBounds_toArray, List.set_cons_zero, List.set_cons_succ]
        refine wpAnyH_take (i := 3) (oi := ⟨some 26, _, _, _, _, _⟩) (v := ?_) rfl (by kernel_rfl) (by kernel_rfl) (by kernel_rfl) (fun _ _ _ h => h) (Or.inl ⟨by kernel_rfl, ?_⟩) (by assumption) ?_
        rotate_left
        · (intro w hSw; (try dsimp only at hSw); have := cell_below hSw hcn; go_simp; try with_reducible rfl)
        try simp only [Act.put, List.setIfInBounds_toArray, List.set_cons_zero, List.set_cons_succ]
        refine wpAnyH_take (i := 4) (oi := ⟨some 27, _, _, _, _, _⟩) (v := ?_) rfl (by kernel_rfl) (by kernel_rfl) (by kernel_rfl) (fun _ _ _ h => h) (Or.inl ⟨by kernel_rfl, ?_⟩) (by assumption) ?_
        rotate_left
        · (intro w hSw; (try dsimp only at hSw); have := cell_below hSw hcn; go_simp; try with_reducible rfl)
        try simp only [Act.put, List.setIfInBounds_toArray, List.set_cons_zero, List.set_cons_succ]
        refine wpAnyH_ready (rs := [5, 9]) (by kernel_rfl) (by simp) ?_
        refine AllReadyH.cons (o := ⟨some 28, _, _, _, _, _⟩) rfl (fun K hK => ?_) ?_
        · go_simp
          (go_at_call 18; (with_reducible refine (rfieldB_any _ _ _ (HV.below hHeld)).mono ?_); rintro e w3 ⟨rfl, hb3⟩)
          refine hK.out _ _ ?_ (fun hHeld2 => ?_)
          · (try dsimp only); exact hHeld.trans (hb3.mono hHeld.size)
          clear hK K
          try simp only [Act.put, List.setIfInBounds_toArray, List.set_cons_zero, List.set_cons_succ]
          refine wpAnyH_take (i := 6) (oi := ⟨some 22, _, _, _, _, _⟩) (v := ?_) rfl (by kernel_rfl) (by kernel_rfl) (by kernel_rfl) (fun _ _ _ h => h) (Or.inl ⟨by kernel_rfl, ?_⟩) (by assumption) ?_
          rotate_left
          · (intro w hSw; (try dsimp only at hSw); have := cell_below hSw hcn; go_simp; try with_reducible rfl)
          try simp only [Act.put, List.setIfInBounds_toArray, List.set_cons_zero, List.set_cons_succ]
          refine wpAnyH_take (i := 7) (oi := ⟨some 29, _, _, _, _, _⟩) (v := ?_) rfl (by kernel_rfl) (by kernel_rfl) (by kernel_rfl) (fun _ _ _ h => h) (Or.inl ⟨by kernel_rfl, ?_⟩) (by assumption) ?_
          rotate_left
          · (intro w hSw; (try dsimp only at hSw); have := cell_below hSw hcn; go_simp; try with_reducible rfl)
          try simp only [Act.put, List.setIfInBounds_toArray, List.set_cons_zero, List.set_cons_succ]
          refine wpAnyH_take (i := 8) (oi := ⟨some 30, _, _, _, _, _⟩) (v := ?_) rfl (by kernel_rfl) (by kernel_rfl) (by kernel_rfl) (fun _ _ _ h => h) (Or.inl ⟨by kernel_rfl, ?_⟩) (by assumption) ?_
          rotate_left
          · (intro w hSw; (try dsimp only at hSw); have := cell_below hSw hcn; go_simp; try with_reducible rfl)
          try simp only [Act.put, List.setIfInBounds_toArray, List.set_cons_zero, List.set_cons_succ]
          refine wpAnyH_ready (rs := [9]) (by kernel_rfl) (by simp) ?_
          refine AllReadyH.cons (o := ⟨some 5, _, _, _, _, _⟩) rfl (fun K hK => ?_) AllReadyH.nil
          simp only [Region.wanted, if_true]
          refine op_alloc_at 30 rfl _ zeroV ?_
          intro w4 hw4
          have hb4 := hid_grow hw4
          have B5 := (hid_alloc hw4).1
          have G5 := hHeld2.size
          refine hK.out _ _ ?_ (fun hHeld3 => ?_)
          · (try dsimp only); exact hHeld2.trans (hb4.mono hHeld2.size)
          clear hK K
          try simp only [Act.put, List.setIfInBounds_toArray, List.set_cons_zero, List.set_cons_succ]
          have HSB := hHeld3
          refine wpAnyH_ready (rs := [10]) (by kernel_rfl) (by simp) ?_
          refine AllReadyH.cons (o := ⟨none, _, _, _, _, _⟩) rfl (fun K hK => ?_) AllReadyH.nil
          simp only [Region.wanted, if_true]
          refine op_store_at 30 _ _ rfl _ _ rfl rfl _ _ B5 info_value rfl (jv_one _) ?_
          intro w5 hw5
          have hq := hid_row_below hw5 G5 HSB
          replace B5 := hid_row hw5 B5
          refine hK.out _ _ ?_ (fun hHeld5 => ?_)
          · (try dsimp only); exact hq.1
          clear hK K hq HSB
          try simp only [Act.put, List.setIfInBounds_toArray, List.set_cons_zero, List.set_cons_succ]
          refine wpAnyH_take (i := 11) (oi := ⟨some 6, _, _, _, _, _⟩) (v := ?_) rfl (by kernel_rfl) (by kernel_rfl) (by kernel_rfl) (fun _ _ _ h => h) (Or.inl ⟨by kernel_rfl, ?_⟩) (by assumption) ?_
          rotate_left
          · (intro w hSw; (try dsimp only at hSw); have := cell_below hSw hcn; go_simp; try with_reducible rfl)
          try simp only [Act.put, List.setIfInBounds_toArray, List.set_cons_zero, List.set_cons_succ]
          refine wpAnyH_done (by kernel_rfl) ?_ _
          have c5_0 : w5.cell? ⟨_, 0, none⟩ = some (.int .i64 (fieldD v n).v.kind) := B5.cell 0
          have hb := hHeld5
          replace HBW := Lib.hid (HBW.out.trans (hb.mono HBW.out.size))
          replace HB := HB.trans (hb.mono HB.size)
          replace HV := HV.below hb
          replace B1 := IBox.below B1 hb (IBox.lt B1)
          clear hb hHeld5 B5
          go_wp2
          go_roundw
          case rel => exact ⟨k + 1, by omega, by go_num, seven_step HS.out HN7.out HBAD.out, HBW.out⟩
          case measure => simp [intOf]; omega
        refine AllReadyH.cons (o := ⟨some 5, _, _, _, _, _⟩) rfl (fun K hK => ?_) AllReadyH.nil
        simp only [Region.wanted, if_true]
        refine op_alloc_at 30 rfl _ zeroV ?_
        intro w4 hw4
        have hb4 := hid_grow hw4
        have B5 := (hid_alloc hw4).1
        have G5 := hHeld.size
        refine hK.out _ _ ?_ (fun hHeld3 => ?_)
        · (try dsimp only); exact hHeld.trans (hb4.mono hHeld.size)
        clear hK K
        try simp only [Act.put, List.setIfInBounds_toArray, List.set_cons_zero, List.set_cons_succ]
        refine wpAnyH_ready (rs := [5]) (by kernel_rfl) (by simp) ?_
        refine AllReadyH.cons (o := ⟨some 28, _, _, _, _, _⟩) rfl (fun K hK => ?_) AllReadyH.nil
        go_simp
        (go_at_call 18; (with_reducible refine (rfieldB_any _ _ _ (HV.below hHeld3)).mono ?_); rintro e w3 ⟨rfl, hb3⟩)
        refine hK.out _ _ ?_ (fun hHeld2 => ?_)
        · (try dsimp only); exact hHeld3.trans (hb3.mono hHeld3.size)
        clear hK K
        try simp only [Act.put, List.setIfInBounds_toArray, List.set_cons_zero, List.set_cons_succ]
        replace B5 := IBox.below B5 hb3 (IBox.lt B5)
        have HSB := hHeld2
        refine wpAnyH_take (i := 6) (oi := ⟨some 22, _, _, _, _, _⟩) (v := ?_) rfl (by kernel_rfl) (by kernel_rfl) (by kernel_rfl) (fun _ _ _ h => h) (Or.inl ⟨by kernel_rfl, ?_⟩) (by assumption) ?_
        rotate_left
        · (intro w hSw; (try dsimp only at hSw); have := cell_below hSw hcn; go_simp; try with_reducible rfl)
        try simp only [Act.put, List.setIfInBounds_toArray, List.set_cons_zero, List.set_cons_succ]
        refine wpAnyH_take (i := 7) (oi := ⟨some 29, _, _, _, _, _⟩) (v := ?_) rfl (by kernel_rfl) (by kernel_rfl) (by kernel_rfl) (fun _ _ _ h => h) (Or.inl ⟨by kernel_rfl, ?_⟩) (by assumption) ?_
        rotate_left
        · (intro w hSw; (try dsimp only at hSw); have := cell_below hSw hcn; go_simp; try with_reducible rfl)
        try simp only [Act.put, List.setIfInBounds_toArray, List.set_cons_zero, List.set_cons_succ]
        refine wpAnyH_take (i := 8) (oi := ⟨some 30, _, _, _, _, _⟩) (v := ?_) rfl (by kernel_rfl) (by kernel_rfl) (by kernel_rfl) (fun _ _ _ h => h) (Or.inl ⟨by kernel_rfl, ?_⟩) (by assumption) ?_
        rotate_left
        · (intro w hSw; (try dsimp only at hSw); have := cell_below hSw hcn; go_simp; try with_reducible rfl)
        try simp only [Act.put, List.setIfInBounds_toArray, List.set_cons_zero, List.set_cons_succ]
        refine wpAnyH_ready (rs := [10]) (by kernel_rfl) (by simp) ?_
        refine AllReadyH.cons (o := ⟨none, _, _, _, _, _⟩) rfl (fun K hK => ?_) AllReadyH.nil
        simp only [Region.wanted, if_true]
        refine op_store_at 30 _ _ rfl _ _ rfl rfl _ _ B5 info_value rfl (jv_one _) ?_
        intro w5 hw5
        have hq := hid_row_below hw5 G5 HSB
        replace B5 := hid_row hw5 B5
        refine hK.out _ _ ?_ (fun hHeld5 => ?_)
        · (try dsimp only); exact hq.1
        clear hK K hq HSB
        try simp only [Act.put, List.setIfInBounds_toArray, List.set_cons_zero, List.set_cons_succ]
        refine wpAnyH_take (i := 11) (oi := ⟨some 6, _, _, _, _, _⟩) (v := ?_) rfl (by kernel_rfl) (by kernel_rfl) (by kernel_rfl) (fun _ _ _ h => h) (Or.inl ⟨by kernel_rfl, ?_⟩) (by assumption) ?_
        rotate_left
        · (intro w hSw; (try dsimp only at hSw); have := cell_below hSw hcn; go_simp; try with_reducible rfl)
        try simp only [Act.put, List.setIfInBounds_toArray, List.set_cons_zero, List.set_cons_succ]
        refine wpAnyH_done (by kernel_rfl) ?_ _
        have c5_0 : w5.cell? ⟨_, 0, none⟩ = some (.int .i64 (fieldD v n).v.kind) := B5.cell 0
        have hb := hHeld5
        replace HBW := Lib.hid (HBW.out.trans (hb.mono HBW.out.size))
        replace HB := HB.trans (hb.mono HB.size)
        replace HV := HV.below hb
        replace B1 := IBox.below B1 hb (IBox.lt B1)
        clear hb hHeld5 B5
        go_wp2
        go_roundw
        case rel => exact ⟨k + 1, by omega, by go_num, seven_step HS.out HN7.out HBAD.out, HBW.out⟩
        case measure => simp [intOf]; omega
      · rw [hK] at hk2
        rw [hP, hk2] at hbad
        have HBAD := Lib.hid hbad
        clear hbad hK
        go_wp2
        refine wp_region_below (by kernel_rfl) (fun w2 hHeld => ?_)
        refine wpAnyH_take (i := 0) (oi := ⟨some 23, _, _, _, _, _⟩) (v := _) rfl (by kernel_rfl) (by kernel_rfl) (by kernel_rfl) (fun _ _ _ h => h) (yields_box (by kernel_rfl) _ _ rfl _ rfl _ _ _ B1 Try.underlying30 rfl info_value) (by assumption) ?_
        try simp only [Act.put, List.setIfInBounds_toArray, List.set_cons_zero, List.set_cons_succ]
        refine wpAnyH_take (i := 1) (oi := ⟨some 24, _, _, _, _, _⟩) (v := ?_) rfl (by kernel_rfl) (by kernel_rfl) (by kernel_rfl) (fun _ _ _ h => h) (Or.inl ⟨by kernel_rfl, ?_⟩) (by assumption) ?_
        rotate_left
        · (intro w hSw; (try dsimp only at hSw); have := cell_below hSw hcn; go_simp; try with_reducible rfl)
        try simp only [Act.put, List.setIfInBounds_toArray, List.set_cons_zero, List.set_cons_succ]
        refine wpAnyH_take (i := 2) (oi := ⟨some 25, _, _, _, _, _⟩) (v := ?_) rfl (by kernel_rfl) (by kernel_rfl) (by kernel_rfl) (fun _ _ _ h => h) (Or.inl ⟨by kernel_rfl, ?_⟩) (by assumption) ?_
        rotate_left
        · (intro w hSw; (try dsimp only at hSw); have := cell_below hSw hcn; go_simp; try with_reducible rfl)
        try simp only [Act.put, List.setIfInBounds_toArray, List.set_cons_zero, List.set_cons_succ]
        refine wpAnyH_take (i := 3) (oi := ⟨some 26, _, _, _, _, _⟩) (v := ?_) rfl (by kernel_rfl) (by kernel_rfl) (by kernel_rfl) (fun _ _ _ h => h) (Or.inl ⟨by kernel_rfl, ?_⟩) (by assumption) ?_
        rotate_left
        · (intro w hSw; (try dsimp only at hSw); have := cell_below hSw hcn; go_simp; try with_reducible rfl)
        try simp only [Act.put, List.setIfInBounds_toArray, List.set_cons_zero, List.set_cons_succ]
        refine wpAnyH_take (i := 4) (oi := ⟨some 27, _, _, _, _, _⟩) (v := ?_) rfl (by kernel_rfl) (by kernel_rfl) (by kernel_rfl) (fun _ _ _ h => h) (Or.inl ⟨by kernel_rfl, ?_⟩) (by assumption) ?_
        rotate_left
        · (intro w hSw; (try dsimp only at hSw); have := cell_below hSw hcn; go_simp; try with_reducible rfl)
        try simp only [Act.put, List.setIfInBounds_toArray, List.set_cons_zero, List.set_cons_succ]
        refine wpAnyH_ready (rs := [5, 9]) (by kernel_rfl) (by simp) ?_
        refine AllReadyH.cons (o := ⟨some 28, _, _, _, _, _⟩) rfl (fun K hK => ?_) ?_
        · go_simp
          (go_at_call 18; (with_reducible refine (rfieldB_any _ _ _ (HV.below hHeld)).mono ?_); rintro e w3 ⟨rfl, hb3⟩)
          refine hK.out _ _ ?_ (fun hHeld2 => ?_)
          · (try dsimp only); exact hHeld.trans (hb3.mono hHeld.size)
          clear hK K
          try simp only [Act.put, List.setIfInBounds_toArray, List.set_cons_zero, List.set_cons_succ]
          refine wpAnyH_take (i := 6) (oi := ⟨some 22, _, _, _, _, _⟩) (v := ?_) rfl (by kernel_rfl) (by kernel_rfl) (by kernel_rfl) (fun _ _ _ h => h) (Or.inl ⟨by kernel_rfl, ?_⟩) (by assumption) ?_
          rotate_left
          · (intro w hSw; (try dsimp only at hSw); have := cell_below hSw hcn; go_simp; try with_reducible rfl)
          try simp only [Act.put, List.setIfInBounds_toArray, List.set_cons_zero, List.set_cons_succ]
          refine wpAnyH_take (i := 7) (oi := ⟨some 29, _, _, _, _, _⟩) (v := ?_) rfl (by kernel_rfl) (by kernel_rfl) (by kernel_rfl) (fun _ _ _ h => h) (Or.inl ⟨by kernel_rfl, ?_⟩) (by assumption) ?_
          rotate_left
          · (intro w hSw; (try dsimp only at hSw); have := cell_below hSw hcn; go_simp; try with_reducible rfl)
          try simp only [Act.put, List.setIfInBounds_toArray, List.set_cons_zero, List.set_cons_succ]
          refine wpAnyH_take (i := 8) (oi := ⟨some 30, _, _, _, _, _⟩) (v := ?_) rfl (by kernel_rfl) (by kernel_rfl) (by kernel_rfl) (fun _ _ _ h => h) (Or.inl ⟨by kernel_rfl, ?_⟩) (by assumption) ?_
          rotate_left
          · (intro w hSw; (try dsimp only at hSw); have := cell_below hSw hcn; go_simp; try with_reducible rfl)
          try simp only [Act.put, List.setIfInBounds_toArray, List.set_cons_zero, List.set_cons_succ]
          refine wpAnyH_ready (rs := [9]) (by kernel_rfl) (by simp) ?_
          refine AllReadyH.cons (o := ⟨some 5, _, _, _, _, _⟩) rfl (fun K hK => ?_) AllReadyH.nil
          simp only [Region.wanted, if_true]
          refine op_alloc_at 30 rfl _ zeroV ?_
          intro w4 hw4
          have hb4 := hid_grow hw4
          have B5 := (hid_alloc hw4).1
          have G5 := hHeld2.size
          refine hK.out _ _ ?_ (fun hHeld3 => ?_)
          · (try dsimp only); exact hHeld2.trans (hb4.mono hHeld2.size)
          clear hK K
          try simp only [Act.put, List.setIfInBounds_toArray, List.set_cons_zero, List.set_cons_succ]
          have HSB := hHeld3
          refine wpAnyH_ready (rs := [10]) (by kernel_rfl) (by simp) ?_
          refine AllReadyH.cons (o := ⟨none, _, _, _, _, _⟩) rfl (fun K hK => ?_) AllReadyH.nil
          simp only [Region.wanted, if_true]
          refine op_store_at 30 _ _ rfl _ _ rfl rfl _ _ B5 info_value rfl (jv_one _) ?_
          intro w5 hw5
          have hq := hid_row_below hw5 G5 HSB
          replace B5 := hid_row hw5 B5
          refine hK.out _ _ ?_ (fun hHeld5 => ?_)
          · (try dsimp only); exact hq.1
          clear hK K hq HSB
          try simp only [Act.put, List.setIfInBounds_toArray, List.set_cons_zero, List.set_cons_succ]
          refine wpAnyH_take (i := 11) (oi := ⟨some 6, _, _, _, _, _⟩) (v := ?_) rfl (by kernel_rfl) (by kernel_rfl) (by kernel_rfl) (fun _ _ _ h => h) (Or.inl ⟨by kernel_rfl, ?_⟩) (by assumption) ?_
          rotate_left
          · (intro w hSw; (try dsimp only at hSw); have := cell_below hSw hcn; go_simp; try with_reducible rfl)
          try simp only [Act.put, List.setIfInBounds_toArray, List.set_cons_zero, List.set_cons_succ]
          refine wpAnyH_done (by kernel_rfl) ?_ _
          have c5_0 : w5.cell? ⟨_, 0, none⟩ = some (.int .i64 (fieldD v n).v.kind) := B5.cell 0
          have hb := hHeld5
          replace HBW := Lib.hid (HBW.out.trans (hb.mono HBW.out.size))
          replace HB := HB.trans (hb.mono HB.size)
          replace HV := HV.below hb
          replace B1 := IBox.below B1 hb (IBox.lt B1)
          clear hb hHeld5 B5
          go_wp2
          go_roundw
          case rel => exact ⟨k + 1, by omega, by go_num, seven_step HS.out HN7.out HBAD.out, HBW.out⟩
          case measure => simp [intOf]; omega
        refine AllReadyH.cons (o := ⟨some 5, _, _, _, _, _⟩) rfl (fun K hK => ?_) AllReadyH.nil
        simp only [Region.wanted, if_true]
        refine op_alloc_at 30 rfl _ zeroV ?_
        intro w4 hw4
        have hb4 := hid_grow hw4
        have B5 := (hid_alloc hw4).1
        have G5 := hHeld.size
        refine hK.out _ _ ?_ (fun hHeld3 => ?_)
        · (try dsimp only); exact hHeld.trans (hb4.mono hHeld.size)
        clear hK K
        try simp only [Act.put, List.setIfInBounds_toArray, List.set_cons_zero, List.set_cons_succ]
        refine wpAnyH_ready (rs := [5]) (by kernel_rfl) (by simp) ?_
        refine AllReadyH.cons (o := ⟨some 28, _, _, _, _, _⟩) rfl (fun K hK => ?_) AllReadyH.nil
        go_simp
        (go_at_call 18; (with_reducible refine (rfieldB_any _ _ _ (HV.below hHeld3)).mono ?_); rintro e w3 ⟨rfl, hb3⟩)
        refine hK.out _ _ ?_ (fun hHeld2 => ?_)
        · (try dsimp only); exact hHeld3.trans (hb3.mono hHeld3.size)
        clear hK K
        try simp only [Act.put, List.setIfInBounds_toArray, List.set_cons_zero, List.set_cons_succ]
        replace B5 := IBox.below B5 hb3 (IBox.lt B5)
        have HSB := hHeld2
        refine wpAnyH_take (i := 6) (oi := ⟨some 22, _, _, _, _, _⟩) (v := ?_) rfl (by kernel_rfl) (by kernel_rfl) (by kernel_rfl) (fun _ _ _ h => h) (Or.inl ⟨by kernel_rfl, ?_⟩) (by assumption) ?_
        rotate_left
        · (intro w hSw; (try dsimp only at hSw); have := cell_below hSw hcn; go_simp; try with_reducible rfl)
        try simp only [Act.put, List.setIfInBounds_toArray, List.set_cons_zero, List.set_cons_succ]
        refine wpAnyH_take (i := 7) (oi := ⟨some 29, _, _, _, _, _⟩) (v := ?_) rfl (by kernel_rfl) (by kernel_rfl) (by kernel_rfl) (fun _ _ _ h => h) (Or.inl ⟨by kernel_rfl, ?_⟩) (by assumption) ?_
        rotate_left
        · (intro w hSw; (try dsimp only at hSw); have := cell_below hSw hcn; go_simp; try with_reducible rfl)
        try simp only [Act.put, List.setIfInBounds_toArray, List.set_cons_zero, List.set_cons_succ]
        refine wpAnyH_take (i := 8) (oi := ⟨some 30, _, _, _, _, _⟩) (v := ?_) rfl (by kernel_rfl) (by kernel_rfl) (by kernel_rfl) (fun _ _ _ h => h) (Or.inl ⟨by kernel_rfl, ?_⟩) (by assumption) ?_
        rotate_left
        · (intro w hSw; (try dsimp only at hSw); have := cell_below hSw hcn; go_simp; try with_reducible rfl)
        try simp only [Act.put, List.setIfInBounds_toArray, List.set_cons_zero, List.set_cons_succ]
        refine wpAnyH_ready (rs := [10]) (by kernel_rfl) (by simp) ?_
        refine AllReadyH.cons (o := ⟨none, _, _, _, _, _⟩) rfl (fun K hK => ?_) AllReadyH.nil
        simp only [Region.wanted, if_true]
        refine op_store_at 30 _ _ rfl _ _ rfl rfl _ _ B5 info_value rfl (jv_one _) ?_
        intro w5 hw5
        have hq := hid_row_below hw5 G5 HSB
        replace B5 := hid_row hw5 B5
        refine hK.out _ _ ?_ (fun hHeld5 => ?_)
        · (try dsimp only); exact hq.1
        clear hK K hq HSB
        try simp only [Act.put, List.setIfInBounds_toArray, List.set_cons_zero, List.set_cons_succ]
        refine wpAnyH_take (i := 11) (oi := ⟨some 6, _, _, _, _, _⟩) (v := ?_) rfl (by kernel_rfl) (by kernel_rfl) (by kernel_rfl) (fun _ _ _ h => h) (Or.inl ⟨by kernel_rfl, ?_⟩) (by assumption) ?_
        rotate_left
        · (intro w hSw; (try dsimp only at hSw); have := cell_below hSw hcn; go_simp; try with_reducible rfl)
        try simp only [Act.put, List.setIfInBounds_toArray, List.set_cons_zero, List.set_cons_succ]
        refine wpAnyH_done (by kernel_rfl) ?_ _
        have c5_0 : w5.cell? ⟨_, 0, none⟩ = some (.int .i64 (fieldD v n).v.kind) := B5.cell 0
        have hb := hHeld5
        replace HBW := Lib.hid (HBW.out.trans (hb.mono HBW.out.size))
        replace HB := HB.trans (hb.mono HB.size)
        replace HV := HV.below hb
        replace B1 := IBox.below B1 hb (IBox.lt B1)
        clear hb hHeld5 B5
        go_wp2
        go_roundw
        case rel => exact ⟨k + 1, by omega, by go_num, seven_step HS.out HN7.out HBAD.out, HBW.out⟩
        case measure => simp [intOf]; omega
      · rw [hK] at hk2
        rw [hP, hk2] at hbad
        have HBAD := Lib.hid hbad
        clear hbad hK
        go_wp2
        refine wp_region_below (by kernel_rfl) (fun w2 hHeld => ?_)
        refine wpAnyH_take (i := 0) (oi := ⟨some 23, _, _, _, _, _⟩) (v := _) rfl (by kernel_rfl) (by kernel_rfl) (by kernel_rfl) (fun _ _ _ h => h) (yields_box (by kernel_rfl) _ _ rfl _ rfl _ _ _ B1 Try.underlying30 rfl info_value) (by assumption) ?_
        try simp only [Act.put, List.setIfInBounds_toArray, List.set_cons_zero, List.set_cons_succ]
        refine wpAnyH_take (i := 1) (oi := ⟨some 24, _, _, _, _, _⟩) (v := ?_) rfl (by kernel_rfl) (by kernel_rfl) (by kernel_rfl) (fun _ _ _ h => h) (Or.inl ⟨by kernel_rfl, ?_⟩) (by assumption) ?_
        rotate_left
        · (intro w hSw; (try dsimp only at hSw); have := cell_below hSw hcn; go_simp; try with_reducible rfl)
        try simp only [Act.put, List.setIfInBounds_toArray, List.set_cons_zero, List.set_cons_succ]
        refine wpAnyH_take (i := 2) (oi := ⟨some 25, _, _, _, _, _⟩) (v := ?_) rfl (by kernel_rfl) (by kernel_rfl) (by kernel_rfl) (fun _ _ _ h => h) (Or.inl ⟨by kernel_rfl, ?_⟩) (by assumption) ?_
        rotate_left
        · (intro w hSw; (try dsimp only at hSw); have := cell_below hSw hcn; go_simp; try with_reducible rfl)
        try simp only [Act.put, List.setIfInBounds_toArray, List.set_cons_zero, List.set_cons_succ]
        refine wpAnyH_take (i := 3) (oi := ⟨some 26, _, _, _, _, _⟩) (v := ?_) rfl (by kernel_rfl) (by kernel_rfl) (by kernel_rfl) (fun _ _ _ h => h) (Or.inl ⟨by kernel_rfl, ?_⟩) (by assumption) ?_
        rotate_left
        · (intro w hSw; (try dsimp only at hSw); have := cell_below hSw hcn; go_simp; try with_reducible rfl)
        try simp only [Act.put, List.setIfInBounds_toArray, List.set_cons_zero, List.set_cons_succ]
        refine wpAnyH_take (i := 4) (oi := ⟨some 27, _, _, _, _, _⟩) (v := ?_) rfl (by kernel_rfl) (by kernel_rfl) (by kernel_rfl) (fun _ _ _ h => h) (Or.inl ⟨by kernel_rfl, ?_⟩) (by assumption) ?_
        rotate_left
        · (intro w hSw; (try dsimp only at hSw); have := cell_below hSw hcn; go_simp; try with_reducible rfl)
        try simp only [Act.put, List.setIfInBounds_toArray, List.set_cons_zero, List.set_cons_succ]
        refine wpAnyH_ready (rs := [5, 9]) (by kernel_rfl) (by simp) ?_
        refine AllReadyH.cons (o := ⟨some 28, _, _, _, _, _⟩) rfl (fun K hK => ?_) ?_
        · go_simp
          (go_at_call 18; (with_reducible refine (rfieldB_any _ _ _ (HV.below hHeld)).mono ?_); rintro e w3 ⟨rfl, hb3⟩)
          refine hK.out _ _ ?_ (fun hHeld2 => ?_)
          · (try dsimp only); exact hHeld.trans (hb3.mono hHeld.size)
          clear hK K
          try simp only [Act.put, List.setIfInBounds_toArray, List.set_cons_zero, List.set_cons_succ]
          refine wpAnyH_take (i := 6) (oi := ⟨some 22, _, _, _, _, _⟩) (v := ?_) rfl (by kernel_rfl) (by kernel_rfl) (by kernel_rfl) (fun _ _ _ h => h) (Or.inl ⟨by kernel_rfl, ?_⟩) (by assumption) ?_
          rotate_left
          · (intro w hSw; (try dsimp only at hSw); have := cell_below hSw hcn; go_simp; try with_reducible rfl)
          try simp only [Act.put, List.setIfInBounds_toArray, List.set_cons_zero, List.set_cons_succ]
          refine wpAnyH_take (i := 7) (oi := ⟨some 29, _, _, _, _, _⟩) (v := ?_) rfl (by kernel_rfl) (by kernel_rfl) (by kernel_rfl) (fun _ _ _ h => h) (Or.inl ⟨by kernel_rfl, ?_⟩) (by assumption) ?_
          rotate_left
          · (intro w hSw; (try dsimp only at hSw); have := cell_below hSw hcn; go_simp; try with_reducible rfl)
          try simp only [Act.put, List.setIfInBounds_toArray, List.set_cons_zero, List.set_cons_succ]
          refine wpAnyH_take (i := 8) (oi := ⟨some 30, _, _, _, _, _⟩) (v := ?_) rfl (by kernel_rfl) (by kernel_rfl) (by kernel_rfl) (fun _ _ _ h => h) (Or.inl ⟨by kernel_rfl, ?_⟩) (by assumption) ?_
          rotate_left
          · (intro w hSw; (try dsimp only at hSw); have := cell_below hSw hcn; go_simp; try with_reducible rfl)
          try simp only [Act.put, List.setIfInBounds_toArray, List.set_cons_zero, List.set_cons_succ]
          refine wpAnyH_ready (rs := [9]) (by kernel_rfl) (by simp) ?_
          refine AllReadyH.cons (o := ⟨some 5, _, _, _, _, _⟩) rfl (fun K hK => ?_) AllReadyH.nil
          simp only [Region.wanted, if_true]
          refine op_alloc_at 30 rfl _ zeroV ?_
          intro w4 hw4
          have hb4 := hid_grow hw4
          have B5 := (hid_alloc hw4).1
          have G5 := hHeld2.size
          refine hK.out _ _ ?_ (fun hHeld3 => ?_)
          · (try dsimp only); exact hHeld2.trans (hb4.mono hHeld2.size)
          clear hK K
          try simp only [Act.put, List.setIfInBounds_toArray, List.set_cons_zero, List.set_cons_succ]
          have HSB := hHeld3
          refine wpAnyH_ready (rs := [10]) (by kernel_rfl) (by simp) ?_
          refine AllReadyH.cons (o := ⟨none, _, _, _, _, _⟩) rfl (fun K hK => ?_) AllReadyH.nil
          simp only [Region.wanted, if_true]
          refine op_store_at 30 _ _ rfl _ _ rfl rfl _ _ B5 info_value rfl (jv_one _) ?_
          intro w5 hw5
          have hq := hid_row_below hw5 G5 HSB
          replace B5 := hid_row hw5 B5
          refine hK.out _ _ ?_ (fun hHeld5 => ?_)
          · (try dsimp only); exact hq.1
          clear hK K hq HSB
          try simp only [Act.put, List.setIfInBounds_toArray, List.set_cons_zero, List.set_cons_succ]
          refine wpAnyH_take (i := 11) (oi := ⟨some 6, _, _, _, _, _⟩) (v := ?_) rfl (by kernel_rfl) (by kernel_rfl) (by kernel_rfl) (fun _ _ _ h => h) (Or.inl ⟨by kernel_rfl, ?_⟩) (by assumption) ?_
          rotate_left
          · (intro w hSw; (try dsimp only at hSw); have := cell_below hSw hcn; go_simp; try with_reducible rfl)
          try simp only [Act.put, List.setIfInBounds_toArray, List.set_cons_zero, List.set_cons_succ]
          refine wpAnyH_done (by kernel_rfl) ?_ _
          have c5_0 : w5.cell? ⟨_, 0, none⟩ = some (.int .i64 (fieldD v n).v.kind) := B5.cell 0
          have hb := hHeld5
          replace HBW := Lib.hid (HBW.out.trans (hb.mono HBW.out.size))
          replace HB := HB.trans (hb.mono HB.size)
          replace HV := HV.below hb
          replace B1 := IBox.below B1 hb (IBox.lt B1)
          clear hb hHeld5 B5
          go_wp2
          have HZ : formedB v = false := by unfold formedB; rw [seven_no HN7.out HBAD.out]; rfl
          go_ret
          exact ⟨ret_bool HZ.symm, HB⟩
        refine AllReadyH.cons (o := ⟨some 5, _, _, _, _, _⟩) rfl (fun K hK => ?_) AllReadyH.nil
        simp only [Region.wanted, if_true]
        refine op_alloc_at 30 rfl _ zeroV ?_
        intro w4 hw4
        have hb4 := hid_grow hw4
        have B5 := (hid_alloc hw4).1
        have G5 := hHeld.size
        refine hK.out _ _ ?_ (fun hHeld3 => ?_)
        · (try dsimp only); exact hHeld.trans (hb4.mono hHeld.size)
        clear hK K
        try simp only [Act.put, List.setIfInBounds_toArray, List.set_cons_zero, List.set_cons_succ]
        refine wpAnyH_ready (rs := [5]) (by kernel_rfl) (by simp) ?_
        refine AllReadyH.cons (o := ⟨some 28, _, _, _, _, _⟩) rfl (fun K hK => ?_) AllReadyH.nil
        go_simp
        (go_at_call 18; (with_reducible refine (rfieldB_any _ _ _ (HV.below hHeld3)).mono ?_); rintro e w3 ⟨rfl, hb3⟩)
        refine hK.out _ _ ?_ (fun hHeld2 => ?_)
        · (try dsimp only); exact hHeld3.trans (hb3.mono hHeld3.size)
        clear hK K
        try simp only [Act.put, List.setIfInBounds_toArray, List.set_cons_zero, List.set_cons_succ]
        replace B5 := IBox.below B5 hb3 (IBox.lt B5)
        have HSB := hHeld2
        refine wpAnyH_take (i := 6) (oi := ⟨some 22, _, _, _, _, _⟩) (v := ?_) rfl (by kernel_rfl) (by kernel_rfl) (by kernel_rfl) (fun _ _ _ h => h) (Or.inl ⟨by kernel_rfl, ?_⟩) (by assumption) ?_
        rotate_left
        · (intro w hSw; (try dsimp only at hSw); have := cell_below hSw hcn; go_simp; try with_reducible rfl)
        try simp only [Act.put, List.setIfInBounds_toArray, List.set_cons_zero, List.set_cons_succ]
        refine wpAnyH_take (i := 7) (oi := ⟨some 29, _, _, _, _, _⟩) (v := ?_) rfl (by kernel_rfl) (by kernel_rfl) (by kernel_rfl) (fun _ _ _ h => h) (Or.inl ⟨by kernel_rfl, ?_⟩) (by assumption) ?_
        rotate_left
        · (intro w hSw; (try dsimp only at hSw); have := cell_below hSw hcn; go_simp; try with_reducible rfl)
        try simp only [Act.put, List.setIfInBounds_toArray, List.set_cons_zero, List.set_cons_succ]
        refine wpAnyH_take (i := 8) (oi := ⟨some 30, _, _, _, _, _⟩) (v := ?_) rfl (by kernel_rfl) (by kernel_rfl) (by kernel_rfl) (fun _ _ _ h => h) (Or.inl ⟨by kernel_rfl, ?_⟩) (by assumption) ?_
        rotate_left
        · (intro w hSw; (try dsimp only at hSw); have := cell_below hSw hcn; go_simp; try with_reducible rfl)
        try simp only [Act.put, List.setIfInBounds_toArray, List.set_cons_zero, List.set_cons_succ]
        refine wpAnyH_ready (rs := [10]) (by kernel_rfl) (by simp) ?_
        refine AllReadyH.cons (o := ⟨none, _, _, _, _, _⟩) rfl (fun K hK => ?_) AllReadyH.nil
        simp only [Region.wanted, if_true]
        refine op_store_at 30 _ _ rfl _ _ rfl rfl _ _ B5 info_value rfl (jv_one _) ?_
        intro w5 hw5
        have hq := hid_row_below hw5 G5 HSB
        replace B5 := hid_row hw5 B5
        refine hK.out _ _ ?_ (fun hHeld5 => ?_)
        · (try dsimp only); exact hq.1
        clear hK K hq HSB
        try simp only [Act.put, List.setIfInBounds_toArray, List.set_cons_zero, List.set_cons_succ]
        refine wpAnyH_take (i := 11) (oi := ⟨some 6, _, _, _, _, _⟩) (v := ?_) rfl (by kernel_rfl) (by kernel_rfl) (by kernel_rfl) (fun _ _ _ h => h) (Or.inl ⟨by kernel_rfl, ?_⟩) (by assumption) ?_
        rotate_left
        · (intro w hSw; (try dsimp only at hSw); have := cell_below hSw hcn; go_simp; try with_reducible rfl)
        try simp only [Act.put, List.setIfInBounds_toArray, List.set_cons_zero, List.set_cons_succ]
        refine wpAnyH_done (by kernel_rfl) ?_ _
        have c5_0 : w5.cell? ⟨_, 0, none⟩ = some (.int .i64 (fieldD v n).v.kind) := B5.cell 0
        have hb := hHeld5
        replace HBW := Lib.hid (HBW.out.trans (hb.mono HBW.out.size))
        replace HB := HB.trans (hb.mono HB.size)
        replace HV := HV.below hb
        replace B1 := IBox.below B1 hb (IBox.lt B1)
        clear hb hHeld5 B5
        go_wp2
        have HZ : formedB v = false := by unfold formedB; rw [seven_no HN7.out HBAD.out]; rfl
        go_ret
        exact ⟨ret_bool HZ.symm, HB⟩
      · rw [hK] at hk2
        rw [hP, hk2] at hbad
        have HBAD := Lib.hid hbad
        clear hbad hK
        go_wp2
        refine wp_region_below (by kernel_rfl) (fun w2 hHeld => ?_)
        refine wpAnyH_take (i := 0) (oi := ⟨some 23, _, _, _, _, _⟩) (v := _) rfl (by kernel_rfl) (by kernel_rfl) (by kernel_rfl) (fun _ _ _ h => h) (yields_box (by kernel_rfl) _ _ rfl _ rfl _ _ _ B1 Try.underlying30 rfl info_value) (by assumption) ?_
        try simp only [Act.put, List.setIfInBounds_toArray, List.set_cons_zero, List.set_cons_succ]
        refine wpAnyH_take (i := 1) (oi := ⟨some 24, _, _, _, _, _⟩) (v := ?_) rfl (by kernel_rfl) (by kernel_rfl) (by kernel_rfl) (fun _ _ _ h => h) (Or.inl ⟨by kernel_rfl, ?_⟩) (by assumption) ?_
        rotate_left
        · (intro w hSw; (try dsimp only at hSw); have := cell_below hSw hcn; go_simp; try with_reducible rfl)
        try simp only [Act.put, List.setIfInBounds_toArray, List.set_cons_zero, List.set_cons_succ]
        refine wpAnyH_take (i := 2) (oi := ⟨some 25, _, _, _, _, _⟩) (v := ?_) rfl (by kernel_rfl) (by kernel_rfl) (by kernel_rfl) (fun _ _ _ h => h) (Or.inl ⟨by kernel_rfl, ?_⟩) (by assumption) ?_
        rotate_left
        · (intro w hSw; (try dsimp only at hSw); have := cell_below hSw hcn; go_simp; try with_reducible rfl)
        try simp only [Act.put, List.setIfInBounds_toArray, List.set_cons_zero, List.set_cons_succ]
        refine wpAnyH_take (i := 3) (oi := ⟨some 26, _, _, _, _, _⟩) (v := ?_) rfl (by kernel_rfl) (by kernel_rfl) (by kernel_rfl) (fun _ _ _ h => h) (Or.inl ⟨by kernel_rfl, ?_⟩) (by assumption) ?_
        rotate_left
        · (intro w hSw; (try dsimp only at hSw); have := cell_below hSw hcn; go_simp; try with_reducible rfl)
        try simp only [Act.put, List.setIfInBounds_toArray, List.set_cons_zero, List.set_cons_succ]
        refine wpAnyH_take (i := 4) (oi := ⟨some 27, _, _, _, _, _⟩) (v := ?_) rfl (by kernel_rfl) (by kernel_rfl) (by kernel_rfl) (fun _ _ _ h => h) (Or.inl ⟨by kernel_rfl, ?_⟩) (by assumption) ?_
        rotate_left
        · (intro w hSw; (try dsimp only at hSw); have := cell_below hSw hcn; go_simp; try with_reducible rfl)
        try simp only [Act.put, List.setIfInBounds_toArray, List.set_cons_zero, List.set_cons_succ]
        refine wpAnyH_ready (rs := [5, 9]) (by kernel_rfl) (by simp) ?_
        refine AllReadyH.cons (o := ⟨some 28, _, _, _, _, _⟩) rfl (fun K hK => ?_) ?_
        · go_simp
          (go_at_call 18; (with_reducible refine (rfieldB_any _ _ _ (HV.below hHeld)).mono ?_); rintro e w3 ⟨rfl, hb3⟩)
          refine hK.out _ _ ?_ (fun hHeld2 => ?_)
          · (try dsimp only); exact hHeld.trans (hb3.mono hHeld.size)
          clear hK K
          try simp only [Act.put, List.setIfInBounds_toArray, List.set_cons_zero, List.set_cons_succ]
          refine wpAnyH_take (i := 6) (oi := ⟨some 22, _, _, _, _, _⟩) (v := ?_) rfl (by kernel_rfl) (by kernel_rfl) (by kernel_rfl) (fun _ _ _ h => h) (Or.inl ⟨by kernel_rfl, ?_⟩) (by assumption) ?_
          rotate_left
          · (intro w hSw; (try dsimp only at hSw); have := cell_below hSw hcn; go_simp; try with_reducible rfl)
          try simp only [Act.put, List.setIfInBounds_toArray, List.set_cons_zero, List.set_cons_succ]
          refine wpAnyH_take (i := 7) (oi := ⟨some 29, _, _, _, _, _⟩) (v := ?_) rfl (by kernel_rfl) (by kernel_rfl) (by kernel_rfl) (fun _ _ _ h => h) (Or.inl ⟨by kernel_rfl, ?_⟩) (by assumption) ?_
          rotate_left
          · (intro w hSw; (try dsimp only at hSw); have := cell_below hSw hcn; go_simp; try with_reducible rfl)
          try simp only [Act.put, List.setIfInBounds_toArray, List.set_cons_zero, List.set_cons_succ]
          refine wpAnyH_take (i := 8) (oi := ⟨some 30, _, _, _, _, _⟩) (v := ?_) rfl (by kernel_rfl) (by kernel_rfl) (by kernel_rfl) (fun _ _ _ h => h) (Or.inl ⟨by kernel_rfl, ?_⟩) (by assumption) ?_
          rotate_left
          · (intro w hSw; (try dsimp only at hSw); have := cell_below hSw hcn; go_simp; try with_reducible rfl)
          try simp only [Act.put, List.setIfInBounds_toArray, List.set_cons_zero, List.set_cons_succ]
          refine wpAnyH_ready (rs := [9]) (by kernel_rfl) (by simp) ?_
          refine AllReadyH.cons (o := ⟨some 5, _, _, _, _, _⟩) rfl (fun K hK => ?_) AllReadyH.nil
          simp only [Region.wanted, if_true]
          refine op_alloc_at 30 rfl _ zeroV ?_
          intro w4 hw4
          have hb4 := hid_grow hw4
          have B5 := (hid_alloc hw4).1
          have G5 := hHeld2.size
          refine hK.out _ _ ?_ (fun hHeld3 => ?_)
          · (try dsimp only); exact hHeld2.trans (hb4.mono hHeld2.size)
          clear hK K
          try simp only [Act.put, List.setIfInBounds_toArray, List.set_cons_zero, List.set_cons_succ]
          have HSB := hHeld3
          refine wpAnyH_ready (rs := [10]) (by kernel_rfl) (by simp) ?_
          refine AllReadyH.cons (o := ⟨none, _, _, _, _, _⟩) rfl (fun K hK => ?_) AllReadyH.nil
          simp only [Region.wanted, if_true]
          refine op_store_at 30 _ _ rfl _ _ rfl rfl _ _ B5 info_value rfl (jv_one _) ?_
          intro w5 hw5
          have hq := hid_row_below hw5 G5 HSB
          replace B5 := hid_row hw5 B5
          refine hK.out _ _ ?_ (fun hHeld5 => ?_)
          · (try dsimp only); exact hq.1
          clear hK K hq HSB
          try simp only [Act.put, List.setIfInBounds_toArray, List.set_cons_zero, List.set_cons_succ]
          refine wpAnyH_take (i := 11) (oi := ⟨some 6, _, _, _, _, _⟩) (v := ?_) rfl (by kernel_rfl) (by kernel_rfl) (by kernel_rfl) (fun _ _ _ h => h) (Or.inl ⟨by kernel_rfl, ?_⟩) (by assumption) ?_
          rotate_left
          · (intro w hSw; (try dsimp only at hSw); have := cell_below hSw hcn; go_simp; try with_reducible rfl)
          try simp only [Act.put, List.setIfInBounds_toArray, List.set_cons_zero, List.set_cons_succ]
          refine wpAnyH_done (by kernel_rfl) ?_ _
          have c5_0 : w5.cell? ⟨_, 0, none⟩ = some (.int .i64 (fieldD v n).v.kind) := B5.cell 0
          have hb := hHeld5
          replace HBW := Lib.hid (HBW.out.trans (hb.mono HBW.out.size))
          replace HB := HB.trans (hb.mono HB.size)
          replace HV := HV.below hb
          replace B1 := IBox.below B1 hb (IBox.lt B1)
          clear hb hHeld5 B5
          go_wp2
          go_roundw
          case rel => exact ⟨k + 1, by omega, by go_num, seven_step HS.out HN7.out HBAD.out, HBW.out⟩
          case measure => simp [intOf]; omega
        refine AllReadyH.cons (o := ⟨some 5, _, _, _, _, _⟩) rfl (fun K hK => ?_) AllReadyH.nil
        simp only [Region.wanted, if_true]
        refine op_alloc_at 30 rfl _ zeroV ?_
        intro w4 hw4
        have hb4 := hid_grow hw4
        have B5 := (hid_alloc hw4).1
        have G5 := hHeld.size
        refine hK.out _ _ ?_ (fun hHeld3 => ?_)
        · (try dsimp only); exact hHeld.trans (hb4.mono hHeld.size)
        clear hK K
        try simp only [Act.put, List.setIfInBounds_toArray, List.set_cons_zero, List.set_cons_succ]
        refine wpAnyH_ready (rs := [5]) (by kernel_rfl) (by simp) ?_
        refine AllReadyH.cons (o := ⟨some 28, _, _, _, _, _⟩) rfl (fun K hK => ?_) AllReadyH.nil
        go_simp
        (go_at_call 18; (with_reducible refine (rfieldB_any _ _ _ (HV.below hHeld3)).mono ?_); rintro e w3 ⟨rfl, hb3⟩)
        refine hK.out _ _ ?_ (fun hHeld2 => ?_)
        · (try dsimp only); exact hHeld3.trans (hb3.mono hHeld3.size)
        clear hK K
        try simp only [Act.put, List.setIfInBounds_toArray, List.set_cons_zero, List.set_cons_succ]
        replace B5 := IBox.below B5 hb3 (IBox.lt B5)
        have HSB := hHeld2
        refine wpAnyH_take (i := 6) (oi := ⟨some 22, _, _, _, _, _⟩) (v := ?_) rfl (by kernel_rfl) (by kernel_rfl) (by kernel_rfl) (fun _ _ _ h => h) (Or.inl ⟨by kernel_rfl, ?_⟩) (by assumption) ?_
        rotate_left
        · (intro w hSw; (try dsimp only at hSw); have := cell_below hSw hcn; go_simp; try with_reducible rfl)
        try simp only [Act.put, List.setIfInBounds_toArray, List.set_cons_zero, List.set_cons_succ]
        refine wpAnyH_take (i := 7) (oi := ⟨some 29, _, _, _, _, _⟩) (v := ?_) rfl (by kernel_rfl) (by kernel_rfl) (by kernel_rfl) (fun _ _ _ h => h) (Or.inl ⟨by kernel_rfl, ?_⟩) (by assumption) ?_
        rotate_left
        · (intro w hSw; (try dsimp only at hSw); have := cell_below hSw hcn; go_simp; try with_reducible rfl)
        try simp only [Act.put, List.setIfInBounds_toArray, List.set_cons_zero, List.set_cons_succ]
        refine wpAnyH_take (i := 8) (oi := ⟨some 30, _, _, _, _, _⟩) (v := ?_) rfl (by kernel_rfl) (by kernel_rfl) (by kernel_rfl) (fun _ _ _ h => h) (Or.inl ⟨by kernel_rfl, ?_⟩) (by assumption) ?_
        rotate_left
        · (intro w hSw; (try dsimp only at hSw); have := cell_below hSw hcn; go_simp; try with_reducible rfl)
        try simp only [Act.put, List.setIfInBounds_toArray, List.set_cons_zero, List.set_cons_succ]
        refine wpAnyH_ready (rs := [10]) (by kernel_rfl) (by simp) ?_
        refine AllReadyH.cons (o := ⟨none, _, _, _, _, _⟩) rfl (fun K hK => ?_) AllReadyH.nil
        simp only [Region.wanted, if_true]
        refine op_store_at 30 _ _ rfl _ _ rfl rfl _ _ B5 info_value rfl (jv_one _) ?_
        intro w5 hw5
        have hq := hid_row_below hw5 G5 HSB
        replace B5 := hid_row hw5 B5
        refine hK.out _ _ ?_ (fun hHeld5 => ?_)
        · (try dsimp only); exact hq.1
        clear hK K hq HSB
        try simp only [Act.put, List.setIfInBounds_toArray, List.set_cons_zero, List.set_cons_succ]
        refine wpAnyH_take (i := 11) (oi := ⟨some 6, _, _, _, _, _⟩) (v := ?_) rfl (by kernel_rfl) (by kernel_rfl) (by kernel_rfl) (fun _ _ _ h => h) (Or.inl ⟨by kernel_rfl, ?_⟩) (by assumption) ?_
        rotate_left
        · (intro w hSw; (try dsimp only at hSw); have := cell_below hSw hcn; go_simp; try with_reducible rfl)
        try simp only [Act.put, List.setIfInBounds_toArray, List.set_cons_zero, List.set_cons_succ]
        refine wpAnyH_done (by kernel_rfl) ?_ _
        have c5_0 : w5.cell? ⟨_, 0, none⟩ = some (.int .i64 (fieldD v n).v.kind) := B5.cell 0
        have hb := hHeld5
        replace HBW := Lib.hid (HBW.out.trans (hb.mono HBW.out.size))
        replace HB := HB.trans (hb.mono HB.size)
        replace HV := HV.below hb
        replace B1 := IBox.below B1 hb (IBox.lt B1)
        clear hb hHeld5 B5
        go_wp2
        go_roundw
        case rel => exact ⟨k + 1, by omega, by go_num, seven_step HS.out HN7.out HBAD.out, HBW.out⟩
        case measure => simp [intOf]; omega
    · obtain rfl : k = 7 := by omega
      have hsv : sevenB v = true := seven_all HS.out
      have hF : (fieldD v ⟨#[117, 115, 101, 114, 115]⟩).v.Fn ≤ 9223372036854775807 := by have := (jv_names (field_is HV ⟨#[117, 115, 101, 114, 115]⟩)).2.2; unfold reach at this; omega
      clear hb hk HS HBW
      cases hE : fieldP v ⟨#[101, 118, 101, 110, 116, 115]⟩ <;> cases hI : intsB (fieldD v ⟨#[101, 118, 101, 110, 116, 115]⟩) <;> cases hU : fieldP v ⟨#[117, 115, 101, 114, 115]⟩ <;> cases hJ : intsB (fieldD v ⟨#[117, 115, 101, 114, 115]⟩)
      all_goals
        go_wp2_with (first
        | (refine wpl_load_box rfl 30 (.tmp 1) rfl _ rfl _ _ _ B1 Try.underlying30 rfl info_value ?_)
        | (go_at_call 18; (with_reducible refine (rfieldB_any _ _ _ HV).mono ?_); rintro e w1 ⟨rfl, hb⟩; replace HB := HB.trans (hb.mono HB.size); (try replace HV := HV.below hb); (try replace B1 := IBox.below B1 hb (IBox.lt B1)); (try replace B7 := IBox.below B7 hb (IBox.lt B7)); (try replace B10 := IBox.below B10 hb (IBox.lt B10)); (try replace c10_5 := cell_below hb c10_5); clear hb)
        | (refine wpl_newbox 7 rfl rfl 30 rfl rfl (.tmp 40) rfl _ zeroV _ rfl rfl info_value rfl (jv_one _) ?_; intro w1 hw; have hb := hid_grow hw; have B7 := (hid_alloc hw).1; replace HB := HB.trans (hb.mono HB.size); (try replace HV := HV.below hb); (try replace B1 := IBox.below B1 hb (IBox.lt B1)); (try replace B10 := IBox.below B10 hb (IBox.lt B10)); (try replace c10_5 := cell_below hb c10_5); clear hb hw)
        | (refine wpl_load_box rfl 30 (.tmp 7) rfl _ rfl _ _ _ B7 Try.underlying30 rfl info_value ?_)
        | (go_at_call 57; (with_reducible refine (rints_any (fieldD v ⟨#[101, 118, 101, 110, 116, 115]⟩) _ (field_is HV _)).mono ?_); rintro e w1 ⟨rfl, hb⟩; replace HB := HB.trans (hb.mono HB.size); (try replace HV := HV.below hb); (try replace B1 := IBox.below B1 hb (IBox.lt B1)); (try replace B7 := IBox.below B7 hb (IBox.lt B7)); (try replace B10 := IBox.below B10 hb (IBox.lt B10)); (try replace c10_5 := cell_below hb c10_5); clear hb)
        | (refine wpl_newbox 10 rfl rfl 30 rfl rfl (.tmp 52) rfl _ zeroV _ rfl rfl info_value rfl (jv_one _) ?_; intro w1 hw; have hb := hid_grow hw; have B10 := (hid_alloc hw).1; replace HB := HB.trans (hb.mono HB.size); (try replace HV := HV.below hb); (try replace B1 := IBox.below B1 hb (IBox.lt B1)); (try replace B7 := IBox.below B7 hb (IBox.lt B7)); clear hb hw; have c10_5 : w1.cell? ⟨_, 5, none⟩ = some (.slice (fieldD v ⟨#[117, 115, 101, 114, 115]⟩).v.FA (fieldD v ⟨#[117, 115, 101, 114, 115]⟩).v.Fn (fieldD v ⟨#[117, 115, 101, 114, 115]⟩).v.Fc) := B10.cell 5)
        | (refine wpl_load_box rfl 30 (.tmp 10) rfl _ rfl _ _ _ B10 Try.underlying30 rfl info_value ?_)
        | (go_at_call 57; (with_reducible refine (rints_any (fieldD v ⟨#[117, 115, 101, 114, 115]⟩) _ (field_is HV _)).mono ?_); rintro e w1 ⟨rfl, hb⟩; replace HB := HB.trans (hb.mono HB.size); (try replace HV := HV.below hb); (try replace B1 := IBox.below B1 hb (IBox.lt B1)); (try replace B7 := IBox.below B7 hb (IBox.lt B7)); (try replace B10 := IBox.below B10 hb (IBox.lt B10)); (try replace c10_5 := cell_below hb c10_5); clear hb))
      all_goals first
        | (go_ret
           exact ⟨ret_bool (by unfold formedB; simp_all), HB⟩)
        | skip
      all_goals
        have HU := field_is HV ⟨#[117, 115, 101, 114, 115]⟩
        generalize hu : fieldD v ⟨#[117, 115, 101, 114, 115]⟩ = u at *
        have HUU := Lib.hid hu
        clear hu
        obtain ⟨wn, hwn⟩ : ∃ w9 : World, w9 = w1 := ⟨w1, rfl⟩
        go_loopw [13] (fun i wr => ∃ k : Nat, k ≤ u.v.Fn ∧ i = .int .i64 k ∧ Hid (fieldP v ⟨#[117, 115, 101, 114, 115]⟩ = true → usersTo u k) ∧ Below w1.heap.size w1 wr) (fun i _ => u.v.Fn - (intOf i).toNat)
        case atStart => exact ⟨0, Nat.zero_le _, rfl, fun _ i hi => absurd hi (by omega), Below.refl _ _⟩
        case round =>
          obtain ⟨k, hk, rfl, HS, hb⟩ := hrel
          have HBW := Lib.hid (HB.trans (hb.mono HB.size))
          have HBQ := Lib.hid hb
          replace HU := HU.below hb
          replace c10_5 := cell_below hb c10_5
          by_cases hlt : k < u.v.Fn
          · obtain ⟨bl, off, n, x, hFA, hfc, hna, hki, hns, hnk⟩ := jv_field2 HU hlt
            obtain ⟨f0, f1, f2, f3, f4, f5, f6⟩ := hfc
            rw [hFA] at c10_5
            have hnb : nameB u k = n := by unfold nameB; rw [hnk]; rfl
            have HNB := Lib.hid hnb
            have hlt2 : 0 ≤ (k : Int) ∧ (k : Int) < u.v.Fn := by omega
            clear hna hki hFA hnk hnb hb
            cases hub : userB n
            all_goals
              have HUB := Lib.hid hub
              go_wp2_with (go_at_call 52; (with_reducible refine (ruserB_any _ _ hns).mono ?_); rintro e w3 ⟨rfl, hb⟩; replace HBW := Lib.hid (HBW.out.trans (hb.mono HBW.out.size)); replace HBQ := Lib.hid (HBQ.out.trans (hb.mono HBQ.out.size)); clear hb)
            all_goals first
              | (go_roundw
                 case rel => exact ⟨k + 1, by omega, by go_num, (fun h => users_step (HS.out h) (by rw [HNB.out]; first | exact HUB.out | (rw [hU] at h; cases h))), HBQ.out⟩
                 case measure => simp [intOf]; omega)
              | skip
            all_goals
              have HZ : formedB v = false := by
                unfold formedB
                rw [HUU.out, decide_eq_false (fun hh => by have := hh k hlt; rw [HNB.out, HUB.out] at this; cases this)]
                simp [hU]
              go_ret
              exact ⟨ret_bool HZ.symm, HBW.out⟩
          · obtain rfl : k = u.v.Fn := by omega
            replace HB := HBW.out
            clear hb hk HBW HBQ
            go_wp2
            go_ret
            exact ⟨ret_bool (by unfold formedB; rw [HUU.out]; first | (rw [decide_eq_true (HS.out hU)]; simp_all; done) | (simp_all; done)), HB⟩
end Go.Proofs.Ytpmdpfgaafaceaa
