/- Layer 16: the document's rules 44 to 47. -/
import Derived.Test.YtpmdpfgaafaceaaAuthP
import Derived.Test.YtpmdpfgaafaceaaRegB
namespace Go.Proofs.Ytpmdpfgaafaceaa
open Go.RowKit
set_option linter.unusedVariables false
set_option linter.unusedSimpArgs false

set_option maxRecDepth 100000 in
set_option maxHeartbeats 8000000 in
theorem rchanges_any (ex : Ev) (old : JV) (level : Int) (w : World) (HE0 : IsEv w ex) (HO0 : IsJV w old) :
    Calls Try.prog 32 #[.agg ex.cells, .agg old.cells, .int .i64 level] w fun e w' => e = .returned (.int .i64 (changesS ex.sender old ex.content level)) ∧ Below w.heap.size w w' := by
  have HB := Below.refl w.heap.size w
  have HE := HE0
  have HO := HO0
  go_enter Try.func32, Try.ntmps32
  go_wp2_with (first
      | (refine wpl_box_at rfl 32 (.tmp 0) rfl _ rfl ?_; intro w1 hw; have hb := hid_grow hw; have B3 := (hid_alloc hw).1; replace HB := HB.trans (hb.mono HB.size); (try replace HO := HO.below hb); (try replace HE := HE.below hb); (try replace B4 := IBox.below B4 hb (IBox.lt B4)); clear hb hw; have c3_3 : w1.cell? ⟨_, 3, none⟩ = some (.string ex.sender) := B3.cell 3)
      | (refine wpl_box_at rfl 30 (.tmp 1) rfl _ rfl ?_; intro w1 hw; have hb := hid_grow hw; have B4 := (hid_alloc hw).1; replace HB := HB.trans (hb.mono HB.size); (try replace HO := HO.below hb); (try replace HE := HE.below hb); (try replace B3 := IBox.below B3 hb (IBox.lt B3)); (try replace c3_3 := cell_below hb c3_3); clear hb hw)
      | (go_at_call 56; (with_reducible refine (rseven7_any _).mono ?_); rintro e wn ⟨AN, cN, rfl, hN, hb⟩; replace HB := HB.trans (hb.mono HB.size); (try replace HO := HO.below hb); (try replace HE := HE.below hb); (try replace B3 := IBox.below B3 hb (IBox.lt B3)); (try replace B4 := IBox.below B4 hb (IBox.lt B4)); (try replace c3_3 := cell_below hb c3_3); clear hb))
  go_loopw [8] (fun i wr => ∃ k : Nat, k ≤ 7 ∧ i = .int .i64 k ∧ Hid (noneTo (fun n => beyondB old ex.content n level) (sevenL) k) ∧ Below wn.heap.size wn wr) (fun i _ => 7 - (intOf i).toNat)
  case atStart => exact ⟨0, Nat.zero_le _, rfl, none_zero _ _, Below.refl _ _⟩
  case round =>
    obtain ⟨k, hk, rfl, HS, hb⟩ := hrel
    have HBW := Lib.hid hb
    replace HB := HB.trans (hb.mono HB.size)
    (try replace HO := HO.below hb)
    (try replace HE := HE.below hb)
    (try replace B3 := IBox.below B3 hb (IBox.lt B3))
    (try replace B4 := IBox.below B4 hb (IBox.lt B4))
    (try replace c3_3 := cell_below hb c3_3)
    by_cases hlt : k < 7
    · obtain ⟨bl, off, n, hA, hn, hcn, hs⟩ := names_at (hN.below hb) (show k < List.length _ from hlt)
      rw [Nat.mul_one] at hcn
      have HNN := Lib.hid hn
      clear hn hb hs
      have hlt2 : 0 ≤ (k : Int) ∧ (k : Int) < 7 := by omega
      subst hA
      cases hr : beyondB old ex.content n level
      · go_wp2
        refine wp_region_below (by kernel_rfl) (fun w2 hHeld => ?_)
        refine wpAnyH_take (i := 0) (oi := ⟨some 37, _, _, _, _, _⟩) (v := _) rfl (by kernel_rfl) (by kernel_rfl) (by kernel_rfl) (fun _ _ _ h => h) (yields_box (by kernel_rfl) _ _ rfl _ rfl _ _ _ B4 Try.underlying30 rfl info_value) (by assumption) ?_
        try simp only [Act.put, List.setIfInBounds_toArray, List.set_cons_zero, List.set_cons_succ]
        refine wpAnyH_take (i := 1) (oi := ⟨some 38, _, _, _, _, _⟩) (v := ?_) rfl (by kernel_rfl) (by kernel_rfl) (by kernel_rfl) (fun _ _ _ h => h) (Or.inl ⟨by kernel_rfl, ?_⟩) (by assumption) ?_
        rotate_left
        · (intro w hSw; (try dsimp only at hSw); have := cell_below hSw hcn; go_simp; try with_reducible rfl)
        try simp only [Act.put, List.setIfInBounds_toArray, List.set_cons_zero, List.set_cons_succ]
        refine wpAnyH_take (i := 2) (oi := ⟨some 39, _, _, _, _, _⟩) (v := _) rfl (by kernel_rfl) (by kernel_rfl) (by kernel_rfl) (fun _ _ _ h => h) (yields_arr (by kernel_rfl) _ _ rfl _ 10 rfl _ _ (ev_content B3) Try.underlying30 rfl info_value) (by assumption) ?_
        try simp only [Act.put, List.setIfInBounds_toArray, List.set_cons_zero, List.set_cons_succ]
        refine wpAnyH_take (i := 3) (oi := ⟨some 40, _, _, _, _, _⟩) (v := ?_) rfl (by kernel_rfl) (by kernel_rfl) (by kernel_rfl) (fun _ _ _ h => h) (Or.inl ⟨by kernel_rfl, ?_⟩) (by assumption) ?_
        rotate_left
        · (intro w hSw; (try dsimp only at hSw); have := cell_below hSw hcn; go_simp; try with_reducible rfl)
        try simp only [Act.put, List.setIfInBounds_toArray, List.set_cons_zero, List.set_cons_succ]
        refine wpAnyH_take (i := 4) (oi := ⟨some 41, _, _, _, _, _⟩) (v := ?_) rfl (by kernel_rfl) (by kernel_rfl) (by kernel_rfl) (fun _ _ _ h => h) (Or.inl ⟨by kernel_rfl, ?_⟩) (by assumption) ?_
        rotate_left
        · (intro w hSw; (try dsimp only at hSw); have := cell_below hSw hcn; go_simp; try with_reducible rfl)
        try simp only [Act.put, List.setIfInBounds_toArray, List.set_cons_zero, List.set_cons_succ]
        refine wpAnyH_take (i := 5) (oi := ⟨some 42, _, _, _, _, _⟩) (v := ?_) rfl (by kernel_rfl) (by kernel_rfl) (by kernel_rfl) (fun _ _ _ h => h) (Or.inl ⟨by kernel_rfl, ?_⟩) (by assumption) ?_
        rotate_left
        · (intro w hSw; (try dsimp only at hSw); have := cell_below hSw hcn; go_simp; try with_reducible rfl)
        try simp only [Act.put, List.setIfInBounds_toArray, List.set_cons_zero, List.set_cons_succ]
        refine wpAnyH_take (i := 6) (oi := ⟨some 43, _, _, _, _, _⟩) (v := ?_) rfl (by kernel_rfl) (by kernel_rfl) (by kernel_rfl) (fun _ _ _ h => h) (Or.inl ⟨by kernel_rfl, ?_⟩) (by assumption) ?_
        rotate_left
        · (intro w hSw; (try dsimp only at hSw); have := cell_below hSw hcn; go_simp; try with_reducible rfl)
        try simp only [Act.put, List.setIfInBounds_toArray, List.set_cons_zero, List.set_cons_succ]
        refine wpAnyH_take (i := 7) (oi := ⟨some 44, _, _, _, _, _⟩) (v := ?_) rfl (by kernel_rfl) (by kernel_rfl) (by kernel_rfl) (fun _ _ _ h => h) (Or.inl ⟨by kernel_rfl, ?_⟩) (by assumption) ?_
        rotate_left
        · (intro w hSw; (try dsimp only at hSw); have := cell_below hSw hcn; go_simp; try with_reducible rfl)
        try simp only [Act.put, List.setIfInBounds_toArray, List.set_cons_zero, List.set_cons_succ]
        refine wpAnyH_ready (rs := [8]) (by kernel_rfl) (by simp) ?_
        refine AllReadyH.cons (o := ⟨some 45, _, _, _, _, _⟩) rfl (fun K hK => ?_) AllReadyH.nil
        go_simp
        (go_at_call 58; (with_reducible refine (rbeyond_any _ _ _ _ _ (HO.below hHeld) ((HE.below hHeld).content)).mono ?_); rintro e w3 ⟨rfl, hb3⟩)
        refine hK.out _ _ ?_ (fun hHeld2 => ?_)
        · (try dsimp only); exact hHeld.trans (hb3.mono hHeld.size)
        clear hK K hHeld hb3
        try simp only [Act.put, List.setIfInBounds_toArray, List.set_cons_zero, List.set_cons_succ]
        refine wpAnyH_take (i := 9) (oi := ⟨some 9, _, _, _, _, _⟩) (v := ?_) rfl (by kernel_rfl) (by kernel_rfl) (by kernel_rfl) (fun _ _ _ h => h) (Or.inl ⟨by kernel_rfl, ?_⟩) (by assumption) ?_
        rotate_left
        · (intro w hSw; (try dsimp only at hSw); have := cell_below hSw hcn; go_simp; try with_reducible rfl)
        try simp only [Act.put, List.setIfInBounds_toArray, List.set_cons_zero, List.set_cons_succ]
        refine wpAnyH_done (by kernel_rfl) ?_ _
        have hb := hHeld2
        replace HB := HB.trans (hb.mono HB.size)
        (try replace HO := HO.below hb)
        (try replace HE := HE.below hb)
        (try replace B3 := IBox.below B3 hb (IBox.lt B3))
        (try replace B4 := IBox.below B4 hb (IBox.lt B4))
        (try replace c3_3 := cell_below hb c3_3)
        replace HBW := Lib.hid (HBW.out.trans (hb.mono HBW.out.size))
        clear hb hHeld2
        go_wp2
        go_roundw
        case rel => exact ⟨k + 1, by omega, by go_num, none_step HS.out HNN.out hr, HBW.out⟩
        case measure => simp [intOf]; omega
      · have HZ : c44 old ex.content level = true := any_hit HNN.out hr
        go_wp2
        refine wp_region_below (by kernel_rfl) (fun w2 hHeld => ?_)
        refine wpAnyH_take (i := 0) (oi := ⟨some 37, _, _, _, _, _⟩) (v := _) rfl (by kernel_rfl) (by kernel_rfl) (by kernel_rfl) (fun _ _ _ h => h) (yields_box (by kernel_rfl) _ _ rfl _ rfl _ _ _ B4 Try.underlying30 rfl info_value) (by assumption) ?_
        try simp only [Act.put, List.setIfInBounds_toArray, List.set_cons_zero, List.set_cons_succ]
        refine wpAnyH_take (i := 1) (oi := ⟨some 38, _, _, _, _, _⟩) (v := ?_) rfl (by kernel_rfl) (by kernel_rfl) (by kernel_rfl) (fun _ _ _ h => h) (Or.inl ⟨by kernel_rfl, ?_⟩) (by assumption) ?_
        rotate_left
        · (intro w hSw; (try dsimp only at hSw); have := cell_below hSw hcn; go_simp; try with_reducible rfl)
        try simp only [Act.put, List.setIfInBounds_toArray, List.set_cons_zero, List.set_cons_succ]
        refine wpAnyH_take (i := 2) (oi := ⟨some 39, _, _, _, _, _⟩) (v := _) rfl (by kernel_rfl) (by kernel_rfl) (by kernel_rfl) (fun _ _ _ h => h) (yields_arr (by kernel_rfl) _ _ rfl _ 10 rfl _ _ (ev_content B3) Try.underlying30 rfl info_value) (by assumption) ?_
        try simp only [Act.put, List.setIfInBounds_toArray, List.set_cons_zero, List.set_cons_succ]
        refine wpAnyH_take (i := 3) (oi := ⟨some 40, _, _, _, _, _⟩) (v := ?_) rfl (by kernel_rfl) (by kernel_rfl) (by kernel_rfl) (fun _ _ _ h => h) (Or.inl ⟨by kernel_rfl, ?_⟩) (by assumption) ?_
        rotate_left
        · (intro w hSw; (try dsimp only at hSw); have := cell_below hSw hcn; go_simp; try with_reducible rfl)
        try simp only [Act.put, List.setIfInBounds_toArray, List.set_cons_zero, List.set_cons_succ]
        refine wpAnyH_take (i := 4) (oi := ⟨some 41, _, _, _, _, _⟩) (v := ?_) rfl (by kernel_rfl) (by kernel_rfl) (by kernel_rfl) (fun _ _ _ h => h) (Or.inl ⟨by kernel_rfl, ?_⟩) (by assumption) ?_
        rotate_left
        · (intro w hSw; (try dsimp only at hSw); have := cell_below hSw hcn; go_simp; try with_reducible rfl)
        try simp only [Act.put, List.setIfInBounds_toArray, List.set_cons_zero, List.set_cons_succ]
        refine wpAnyH_take (i := 5) (oi := ⟨some 42, _, _, _, _, _⟩) (v := ?_) rfl (by kernel_rfl) (by kernel_rfl) (by kernel_rfl) (fun _ _ _ h => h) (Or.inl ⟨by kernel_rfl, ?_⟩) (by assumption) ?_
        rotate_left
        · (intro w hSw; (try dsimp only at hSw); have := cell_below hSw hcn; go_simp; try with_reducible rfl)
        try simp only [Act.put, List.setIfInBounds_toArray, List.set_cons_zero, List.set_cons_succ]
        refine wpAnyH_take (i := 6) (oi := ⟨some 43, _, _, _, _, _⟩) (v := ?_) rfl (by kernel_rfl) (by kernel_rfl) (by kernel_rfl) (fun _ _ _ h => h) (Or.inl ⟨by kernel_rfl, ?_⟩) (by assumption) ?_
        rotate_left
        · (intro w hSw; (try dsimp only at hSw); have := cell_below hSw hcn; go_simp; try with_reducible rfl)
        try simp only [Act.put, List.setIfInBounds_toArray, List.set_cons_zero, List.set_cons_succ]
        refine wpAnyH_take (i := 7) (oi := ⟨some 44, _, _, _, _, _⟩) (v := ?_) rfl (by kernel_rfl) (by kernel_rfl) (by kernel_rfl) (fun _ _ _ h => h) (Or.inl ⟨by kernel_rfl, ?_⟩) (by assumption) ?_
        rotate_left
        · (intro w hSw; (try dsimp only at hSw); have := cell_below hSw hcn; go_simp; try with_reducible rfl)
        try simp only [Act.put, List.setIfInBounds_toArray, List.set_cons_zero, List.set_cons_succ]
        refine wpAnyH_ready (rs := [8]) (by kernel_rfl) (by simp) ?_
        refine AllReadyH.cons (o := ⟨some 45, _, _, _, _, _⟩) rfl (fun K hK => ?_) AllReadyH.nil
        go_simp
        (go_at_call 58; (with_reducible refine (rbeyond_any _ _ _ _ _ (HO.below hHeld) ((HE.below hHeld).content)).mono ?_); rintro e w3 ⟨rfl, hb3⟩)
        refine hK.out _ _ ?_ (fun hHeld2 => ?_)
        · (try dsimp only); exact hHeld.trans (hb3.mono hHeld.size)
        clear hK K hHeld hb3
        try simp only [Act.put, List.setIfInBounds_toArray, List.set_cons_zero, List.set_cons_succ]
        refine wpAnyH_take (i := 9) (oi := ⟨some 9, _, _, _, _, _⟩) (v := ?_) rfl (by kernel_rfl) (by kernel_rfl) (by kernel_rfl) (fun _ _ _ h => h) (Or.inl ⟨by kernel_rfl, ?_⟩) (by assumption) ?_
        rotate_left
        · (intro w hSw; (try dsimp only at hSw); have := cell_below hSw hcn; go_simp; try with_reducible rfl)
        try simp only [Act.put, List.setIfInBounds_toArray, List.set_cons_zero, List.set_cons_succ]
        refine wpAnyH_done (by kernel_rfl) ?_ _
        have hb := hHeld2
        replace HB := HB.trans (hb.mono HB.size)
        (try replace HO := HO.below hb)
        (try replace HE := HE.below hb)
        (try replace B3 := IBox.below B3 hb (IBox.lt B3))
        (try replace B4 := IBox.below B4 hb (IBox.lt B4))
        (try replace c3_3 := cell_below hb c3_3)
        replace HBW := Lib.hid (HBW.out.trans (hb.mono HBW.out.size))
        clear hb hHeld2
        go_wp2
        go_ret
        exact ⟨ret_int (by unfold changesS; rw [if_pos HZ]), HB⟩
    · obtain rfl : k = 7 := by omega
      have h44 := Lib.hid (show c44 old ex.content level = false from none_all HS.out)
      clear hk hb HS HBW hlt hN
      go_wp2_with (first
          | (refine wpl_load_box rfl 30 (.tmp 4) rfl _ rfl _ _ _ B4 Try.underlying30 rfl info_value ?_)
          | (go_at_call 18; (with_reducible refine (rfieldB_any _ ⟨#[101, 118, 101, 110, 116, 115]⟩ _ (HO)).mono ?_); rintro e w1 ⟨rfl, hb⟩; replace HB := HB.trans (hb.mono HB.size); (try replace HO := HO.below hb); (try replace HE := HE.below hb); (try replace B3 := IBox.below B3 hb (IBox.lt B3)); (try replace B4 := IBox.below B4 hb (IBox.lt B4)); (try replace B10 := IBox.below B10 hb (IBox.lt B10)); (try replace B12 := IBox.below B12 hb (IBox.lt B12)); (try replace c3_3 := cell_below hb c3_3); clear hb)
          | (refine wpl_newbox 10 rfl rfl 30 rfl rfl (.tmp 50) rfl _ zeroV _ rfl rfl info_value rfl (jv_one _) ?_; intro w1 hw; have hb := hid_grow hw; have B10 := (hid_alloc hw).1; replace HB := HB.trans (hb.mono HB.size); (try replace HO := HO.below hb); (try replace HE := HE.below hb); (try replace B3 := IBox.below B3 hb (IBox.lt B3)); (try replace B4 := IBox.below B4 hb (IBox.lt B4)); (try replace B12 := IBox.below B12 hb (IBox.lt B12)); (try replace c3_3 := cell_below hb c3_3); clear hb hw)
          | (refine wpl_load_arr rfl 30 (.tmp 53) rfl _ 10 rfl _ _ (ev_content B3) Try.underlying30 rfl info_value ?_)
          | (go_at_call 18; (with_reducible refine (rfieldB_any _ ⟨#[101, 118, 101, 110, 116, 115]⟩ _ (HE.content)).mono ?_); rintro e w1 ⟨rfl, hb⟩; replace HB := HB.trans (hb.mono HB.size); (try replace HO := HO.below hb); (try replace HE := HE.below hb); (try replace B3 := IBox.below B3 hb (IBox.lt B3)); (try replace B4 := IBox.below B4 hb (IBox.lt B4)); (try replace B10 := IBox.below B10 hb (IBox.lt B10)); (try replace B12 := IBox.below B12 hb (IBox.lt B12)); (try replace c3_3 := cell_below hb c3_3); clear hb)
          | (refine wpl_newbox 12 rfl rfl 30 rfl rfl (.tmp 56) rfl _ zeroV _ rfl rfl info_value rfl (jv_one _) ?_; intro w1 hw; have hb := hid_grow hw; have B12 := (hid_alloc hw).1; replace HB := HB.trans (hb.mono HB.size); (try replace HO := HO.below hb); (try replace HE := HE.below hb); (try replace B3 := IBox.below B3 hb (IBox.lt B3)); (try replace B4 := IBox.below B4 hb (IBox.lt B4)); (try replace B10 := IBox.below B10 hb (IBox.lt B10)); (try replace c3_3 := cell_below hb c3_3); clear hb hw)
          | (refine wpl_load_box rfl 30 (.tmp 10) rfl _ rfl _ _ _ B10 Try.underlying30 rfl info_value ?_)
          | (refine wpl_load_box rfl 30 (.tmp 12) rfl _ rfl _ _ _ B12 Try.underlying30 rfl info_value ?_)
          | (go_at_call 59; (with_reducible refine (named2_any _ _ _ (field_is HO _) (field_is HE.content _)).mono ?_); rintro e wn ⟨AN, cN, rfl, hN, hb⟩; replace HB := HB.trans (hb.mono HB.size); (try replace HO := HO.below hb); (try replace HE := HE.below hb); (try replace B3 := IBox.below B3 hb (IBox.lt B3)); (try replace B4 := IBox.below B4 hb (IBox.lt B4)); (try replace B10 := IBox.below B10 hb (IBox.lt B10)); (try replace B12 := IBox.below B12 hb (IBox.lt B12)); (try replace c3_3 := cell_below hb c3_3); clear hb))
      have hlen := names2_len (field_is HO ⟨#[101, 118, 101, 110, 116, 115]⟩) (field_is HE.content ⟨#[101, 118, 101, 110, 116, 115]⟩)
      go_loopw [14] (fun i wr => ∃ k : Nat, k ≤ (names2 (fieldD old ⟨#[101, 118, 101, 110, 116, 115]⟩) (fieldD ex.content ⟨#[101, 118, 101, 110, 116, 115]⟩)).length ∧ i = .int .i64 k ∧ Hid (noneTo (fun n => beyondB (fieldD old ⟨#[101, 118, 101, 110, 116, 115]⟩) (fieldD ex.content ⟨#[101, 118, 101, 110, 116, 115]⟩) n level) (names2 (fieldD old ⟨#[101, 118, 101, 110, 116, 115]⟩) (fieldD ex.content ⟨#[101, 118, 101, 110, 116, 115]⟩)) k) ∧ Below wn.heap.size wn wr) (fun i _ => (names2 (fieldD old ⟨#[101, 118, 101, 110, 116, 115]⟩) (fieldD ex.content ⟨#[101, 118, 101, 110, 116, 115]⟩)).length - (intOf i).toNat)
      case atStart => exact ⟨0, Nat.zero_le _, rfl, none_zero _ _, Below.refl _ _⟩
      case round =>
        obtain ⟨k, hk, rfl, HS, hb⟩ := hrel
        have HBW := Lib.hid hb
        replace HB := HB.trans (hb.mono HB.size)
        (try replace HO := HO.below hb)
        (try replace HE := HE.below hb)
        (try replace B3 := IBox.below B3 hb (IBox.lt B3))
        (try replace B4 := IBox.below B4 hb (IBox.lt B4))
        (try replace B10 := IBox.below B10 hb (IBox.lt B10))
        (try replace B12 := IBox.below B12 hb (IBox.lt B12))
        (try replace c3_3 := cell_below hb c3_3)
        by_cases hlt : k < (names2 (fieldD old ⟨#[101, 118, 101, 110, 116, 115]⟩) (fieldD ex.content ⟨#[101, 118, 101, 110, 116, 115]⟩)).length
        · obtain ⟨bl, off, n, hA, hn, hcn, hs⟩ := names_at (hN.below hb) (show k < List.length _ from hlt)
          rw [Nat.mul_one] at hcn
          have HNN := Lib.hid hn
          clear hn hb hs
          have hlt2 : 0 ≤ (k : Int) ∧ (k : Int) < (names2 (fieldD old ⟨#[101, 118, 101, 110, 116, 115]⟩) (fieldD ex.content ⟨#[101, 118, 101, 110, 116, 115]⟩)).length := by omega
          subst hA
          cases hr : beyondB (fieldD old ⟨#[101, 118, 101, 110, 116, 115]⟩) (fieldD ex.content ⟨#[101, 118, 101, 110, 116, 115]⟩) n level
          · go_wp2
            refine wp_region_below (by kernel_rfl) (fun w2 hHeld => ?_)
            refine wpAnyH_take (i := 0) (oi := ⟨some 67, _, _, _, _, _⟩) (v := _) rfl (by kernel_rfl) (by kernel_rfl) (by kernel_rfl) (fun _ _ _ h => h) (yields_box (by kernel_rfl) _ _ rfl _ rfl _ _ _ B10 Try.underlying30 rfl info_value) (by assumption) ?_
            try simp only [Act.put, List.setIfInBounds_toArray, List.set_cons_zero, List.set_cons_succ]
            refine wpAnyH_take (i := 1) (oi := ⟨some 68, _, _, _, _, _⟩) (v := _) rfl (by kernel_rfl) (by kernel_rfl) (by kernel_rfl) (fun _ _ _ h => h) (yields_box (by kernel_rfl) _ _ rfl _ rfl _ _ _ B12 Try.underlying30 rfl info_value) (by assumption) ?_
            try simp only [Act.put, List.setIfInBounds_toArray, List.set_cons_zero, List.set_cons_succ]
            refine wpAnyH_take (i := 2) (oi := ⟨some 69, _, _, _, _, _⟩) (v := ?_) rfl (by kernel_rfl) (by kernel_rfl) (by kernel_rfl) (fun _ _ _ h => h) (Or.inl ⟨by kernel_rfl, ?_⟩) (by assumption) ?_
            rotate_left
            · (intro w hSw; (try dsimp only at hSw); have := cell_below hSw hcn; go_simp; try with_reducible rfl)
            try simp only [Act.put, List.setIfInBounds_toArray, List.set_cons_zero, List.set_cons_succ]
            refine wpAnyH_take (i := 3) (oi := ⟨some 70, _, _, _, _, _⟩) (v := ?_) rfl (by kernel_rfl) (by kernel_rfl) (by kernel_rfl) (fun _ _ _ h => h) (Or.inl ⟨by kernel_rfl, ?_⟩) (by assumption) ?_
            rotate_left
            · (intro w hSw; (try dsimp only at hSw); have := cell_below hSw hcn; go_simp; try with_reducible rfl)
            try simp only [Act.put, List.setIfInBounds_toArray, List.set_cons_zero, List.set_cons_succ]
            refine wpAnyH_take (i := 4) (oi := ⟨some 71, _, _, _, _, _⟩) (v := ?_) rfl (by kernel_rfl) (by kernel_rfl) (by kernel_rfl) (fun _ _ _ h => h) (Or.inl ⟨by kernel_rfl, ?_⟩) (by assumption) ?_
            rotate_left
            · (intro w hSw; (try dsimp only at hSw); have := cell_below hSw hcn; go_simp; try with_reducible rfl)
            try simp only [Act.put, List.setIfInBounds_toArray, List.set_cons_zero, List.set_cons_succ]
            refine wpAnyH_take (i := 5) (oi := ⟨some 72, _, _, _, _, _⟩) (v := ?_) rfl (by kernel_rfl) (by kernel_rfl) (by kernel_rfl) (fun _ _ _ h => h) (Or.inl ⟨by kernel_rfl, ?_⟩) (by assumption) ?_
            rotate_left
            · (intro w hSw; (try dsimp only at hSw); have := cell_below hSw hcn; go_simp; try with_reducible rfl)
            try simp only [Act.put, List.setIfInBounds_toArray, List.set_cons_zero, List.set_cons_succ]
            refine wpAnyH_take (i := 6) (oi := ⟨some 73, _, _, _, _, _⟩) (v := ?_) rfl (by kernel_rfl) (by kernel_rfl) (by kernel_rfl) (fun _ _ _ h => h) (Or.inl ⟨by kernel_rfl, ?_⟩) (by assumption) ?_
            rotate_left
            · (intro w hSw; (try dsimp only at hSw); have := cell_below hSw hcn; go_simp; try with_reducible rfl)
            try simp only [Act.put, List.setIfInBounds_toArray, List.set_cons_zero, List.set_cons_succ]
            refine wpAnyH_ready (rs := [7]) (by kernel_rfl) (by simp) ?_
            refine AllReadyH.cons (o := ⟨some 74, _, _, _, _, _⟩) rfl (fun K hK => ?_) AllReadyH.nil
            go_simp
            (go_at_call 58; (with_reducible refine (rbeyond_any _ _ _ _ _ (field_is (HO.below hHeld) _) (field_is (HE.below hHeld).content _)).mono ?_); rintro e w3 ⟨rfl, hb3⟩)
            refine hK.out _ _ ?_ (fun hHeld2 => ?_)
            · (try dsimp only); exact hHeld.trans (hb3.mono hHeld.size)
            clear hK K hHeld hb3
            try simp only [Act.put, List.setIfInBounds_toArray, List.set_cons_zero, List.set_cons_succ]
            refine wpAnyH_take (i := 8) (oi := ⟨some 15, _, _, _, _, _⟩) (v := ?_) rfl (by kernel_rfl) (by kernel_rfl) (by kernel_rfl) (fun _ _ _ h => h) (Or.inl ⟨by kernel_rfl, ?_⟩) (by assumption) ?_
            rotate_left
            · (intro w hSw; (try dsimp only at hSw); have := cell_below hSw hcn; go_simp; try with_reducible rfl)
            try simp only [Act.put, List.setIfInBounds_toArray, List.set_cons_zero, List.set_cons_succ]
            refine wpAnyH_done (by kernel_rfl) ?_ _
            have hb := hHeld2
            replace HB := HB.trans (hb.mono HB.size)
            (try replace HO := HO.below hb)
            (try replace HE := HE.below hb)
            (try replace B3 := IBox.below B3 hb (IBox.lt B3))
            (try replace B4 := IBox.below B4 hb (IBox.lt B4))
            (try replace B10 := IBox.below B10 hb (IBox.lt B10))
            (try replace B12 := IBox.below B12 hb (IBox.lt B12))
            (try replace c3_3 := cell_below hb c3_3)
            replace HBW := Lib.hid (HBW.out.trans (hb.mono HBW.out.size))
            clear hb hHeld2
            go_wp2
            go_roundw
            case rel => exact ⟨k + 1, by omega, by go_num, none_step HS.out HNN.out hr, HBW.out⟩
            case measure => simp [intOf]; omega
          · have HZ : c45 old ex.content level = true := any_hit HNN.out hr
            go_wp2
            refine wp_region_below (by kernel_rfl) (fun w2 hHeld => ?_)
            refine wpAnyH_take (i := 0) (oi := ⟨some 67, _, _, _, _, _⟩) (v := _) rfl (by kernel_rfl) (by kernel_rfl) (by kernel_rfl) (fun _ _ _ h => h) (yields_box (by kernel_rfl) _ _ rfl _ rfl _ _ _ B10 Try.underlying30 rfl info_value) (by assumption) ?_
            try simp only [Act.put, List.setIfInBounds_toArray, List.set_cons_zero, List.set_cons_succ]
            refine wpAnyH_take (i := 1) (oi := ⟨some 68, _, _, _, _, _⟩) (v := _) rfl (by kernel_rfl) (by kernel_rfl) (by kernel_rfl) (fun _ _ _ h => h) (yields_box (by kernel_rfl) _ _ rfl _ rfl _ _ _ B12 Try.underlying30 rfl info_value) (by assumption) ?_
            try simp only [Act.put, List.setIfInBounds_toArray, List.set_cons_zero, List.set_cons_succ]
            refine wpAnyH_take (i := 2) (oi := ⟨some 69, _, _, _, _, _⟩) (v := ?_) rfl (by kernel_rfl) (by kernel_rfl) (by kernel_rfl) (fun _ _ _ h => h) (Or.inl ⟨by kernel_rfl, ?_⟩) (by assumption) ?_
            rotate_left
            · (intro w hSw; (try dsimp only at hSw); have := cell_below hSw hcn; go_simp; try with_reducible rfl)
            try simp only [Act.put, List.setIfInBounds_toArray, List.set_cons_zero, List.set_cons_succ]
            refine wpAnyH_take (i := 3) (oi := ⟨some 70, _, _, _, _, _⟩) (v := ?_) rfl (by kernel_rfl) (by kernel_rfl) (by kernel_rfl) (fun _ _ _ h => h) (Or.inl ⟨by kernel_rfl, ?_⟩) (by assumption) ?_
            rotate_left
            · (intro w hSw; (try dsimp only at hSw); have := cell_below hSw hcn; go_simp; try with_reducible rfl)
            try simp only [Act.put, List.setIfInBounds_toArray, List.set_cons_zero, List.set_cons_succ]
            refine wpAnyH_take (i := 4) (oi := ⟨some 71, _, _, _, _, _⟩) (v := ?_) rfl (by kernel_rfl) (by kernel_rfl) (by kernel_rfl) (fun _ _ _ h => h) (Or.inl ⟨by kernel_rfl, ?_⟩) (by assumption) ?_
            rotate_left
            · (intro w hSw; (try dsimp only at hSw); have := cell_below hSw hcn; go_simp; try with_reducible rfl)
            try simp only [Act.put, List.setIfInBounds_toArray, List.set_cons_zero, List.set_cons_succ]
            refine wpAnyH_take (i := 5) (oi := ⟨some 72, _, _, _, _, _⟩) (v := ?_) rfl (by kernel_rfl) (by kernel_rfl) (by kernel_rfl) (fun _ _ _ h => h) (Or.inl ⟨by kernel_rfl, ?_⟩) (by assumption) ?_
            rotate_left
            · (intro w hSw; (try dsimp only at hSw); have := cell_below hSw hcn; go_simp; try with_reducible rfl)
            try simp only [Act.put, List.setIfInBounds_toArray, List.set_cons_zero, List.set_cons_succ]
            refine wpAnyH_take (i := 6) (oi := ⟨some 73, _, _, _, _, _⟩) (v := ?_) rfl (by kernel_rfl) (by kernel_rfl) (by kernel_rfl) (fun _ _ _ h => h) (Or.inl ⟨by kernel_rfl, ?_⟩) (by assumption) ?_
            rotate_left
            · (intro w hSw; (try dsimp only at hSw); have := cell_below hSw hcn; go_simp; try with_reducible rfl)
            try simp only [Act.put, List.setIfInBounds_toArray, List.set_cons_zero, List.set_cons_succ]
            refine wpAnyH_ready (rs := [7]) (by kernel_rfl) (by simp) ?_
            refine AllReadyH.cons (o := ⟨some 74, _, _, _, _, _⟩) rfl (fun K hK => ?_) AllReadyH.nil
            go_simp
            (go_at_call 58; (with_reducible refine (rbeyond_any _ _ _ _ _ (field_is (HO.below hHeld) _) (field_is (HE.below hHeld).content _)).mono ?_); rintro e w3 ⟨rfl, hb3⟩)
            refine hK.out _ _ ?_ (fun hHeld2 => ?_)
            · (try dsimp only); exact hHeld.trans (hb3.mono hHeld.size)
            clear hK K hHeld hb3
            try simp only [Act.put, List.setIfInBounds_toArray, List.set_cons_zero, List.set_cons_succ]
            refine wpAnyH_take (i := 8) (oi := ⟨some 15, _, _, _, _, _⟩) (v := ?_) rfl (by kernel_rfl) (by kernel_rfl) (by kernel_rfl) (fun _ _ _ h => h) (Or.inl ⟨by kernel_rfl, ?_⟩) (by assumption) ?_
            rotate_left
            · (intro w hSw; (try dsimp only at hSw); have := cell_below hSw hcn; go_simp; try with_reducible rfl)
            try simp only [Act.put, List.setIfInBounds_toArray, List.set_cons_zero, List.set_cons_succ]
            refine wpAnyH_done (by kernel_rfl) ?_ _
            have hb := hHeld2
            replace HB := HB.trans (hb.mono HB.size)
            (try replace HO := HO.below hb)
            (try replace HE := HE.below hb)
            (try replace B3 := IBox.below B3 hb (IBox.lt B3))
            (try replace B4 := IBox.below B4 hb (IBox.lt B4))
            (try replace B10 := IBox.below B10 hb (IBox.lt B10))
            (try replace B12 := IBox.below B12 hb (IBox.lt B12))
            (try replace c3_3 := cell_below hb c3_3)
            replace HBW := Lib.hid (HBW.out.trans (hb.mono HBW.out.size))
            clear hb hHeld2
            go_wp2
            go_ret
            exact ⟨ret_int (by unfold changesS; rw [if_neg (by rw [h44.out]; decide), if_pos HZ]), HB⟩
        · obtain rfl : k = (names2 (fieldD old ⟨#[101, 118, 101, 110, 116, 115]⟩) (fieldD ex.content ⟨#[101, 118, 101, 110, 116, 115]⟩)).length := by omega
          have h45 := Lib.hid (show c45 old ex.content level = false from none_all HS.out)
          clear hk hb HS HBW hlt hN B10 B12
          go_wp2_with (first
              | (refine wpl_load_box rfl 30 (.tmp 4) rfl _ rfl _ _ _ B4 Try.underlying30 rfl info_value ?_)
              | (go_at_call 18; (with_reducible refine (rfieldB_any _ ⟨#[117, 115, 101, 114, 115]⟩ _ (HO)).mono ?_); rintro e w1 ⟨rfl, hb⟩; replace HB := HB.trans (hb.mono HB.size); (try replace HO := HO.below hb); (try replace HE := HE.below hb); (try replace B3 := IBox.below B3 hb (IBox.lt B3)); (try replace B4 := IBox.below B4 hb (IBox.lt B4)); (try replace B16 := IBox.below B16 hb (IBox.lt B16)); (try replace B18 := IBox.below B18 hb (IBox.lt B18)); (try replace c3_3 := cell_below hb c3_3); clear hb)
              | (refine wpl_newbox 16 rfl rfl 30 rfl rfl (.tmp 79) rfl _ zeroV _ rfl rfl info_value rfl (jv_one _) ?_; intro w1 hw; have hb := hid_grow hw; have B16 := (hid_alloc hw).1; replace HB := HB.trans (hb.mono HB.size); (try replace HO := HO.below hb); (try replace HE := HE.below hb); (try replace B3 := IBox.below B3 hb (IBox.lt B3)); (try replace B4 := IBox.below B4 hb (IBox.lt B4)); (try replace B18 := IBox.below B18 hb (IBox.lt B18)); (try replace c3_3 := cell_below hb c3_3); clear hb hw)
              | (refine wpl_load_arr rfl 30 (.tmp 82) rfl _ 10 rfl _ _ (ev_content B3) Try.underlying30 rfl info_value ?_)
              | (go_at_call 18; (with_reducible refine (rfieldB_any _ ⟨#[117, 115, 101, 114, 115]⟩ _ (HE.content)).mono ?_); rintro e w1 ⟨rfl, hb⟩; replace HB := HB.trans (hb.mono HB.size); (try replace HO := HO.below hb); (try replace HE := HE.below hb); (try replace B3 := IBox.below B3 hb (IBox.lt B3)); (try replace B4 := IBox.below B4 hb (IBox.lt B4)); (try replace B16 := IBox.below B16 hb (IBox.lt B16)); (try replace B18 := IBox.below B18 hb (IBox.lt B18)); (try replace c3_3 := cell_below hb c3_3); clear hb)
              | (refine wpl_newbox 18 rfl rfl 30 rfl rfl (.tmp 85) rfl _ zeroV _ rfl rfl info_value rfl (jv_one _) ?_; intro w1 hw; have hb := hid_grow hw; have B18 := (hid_alloc hw).1; replace HB := HB.trans (hb.mono HB.size); (try replace HO := HO.below hb); (try replace HE := HE.below hb); (try replace B3 := IBox.below B3 hb (IBox.lt B3)); (try replace B4 := IBox.below B4 hb (IBox.lt B4)); (try replace B16 := IBox.below B16 hb (IBox.lt B16)); (try replace c3_3 := cell_below hb c3_3); clear hb hw)
              | (refine wpl_load_box rfl 30 (.tmp 16) rfl _ rfl _ _ _ B16 Try.underlying30 rfl info_value ?_)
              | (refine wpl_load_box rfl 30 (.tmp 18) rfl _ rfl _ _ _ B18 Try.underlying30 rfl info_value ?_)
              | (go_at_call 59; (with_reducible refine (named2_any _ _ _ (field_is HO _) (field_is HE.content _)).mono ?_); rintro e wn ⟨AN, cN, rfl, hN, hb⟩; replace HB := HB.trans (hb.mono HB.size); (try replace HO := HO.below hb); (try replace HE := HE.below hb); (try replace B3 := IBox.below B3 hb (IBox.lt B3)); (try replace B4 := IBox.below B4 hb (IBox.lt B4)); (try replace B16 := IBox.below B16 hb (IBox.lt B16)); (try replace B18 := IBox.below B18 hb (IBox.lt B18)); (try replace c3_3 := cell_below hb c3_3); clear hb))
          replace hlen := names2_len (field_is HO ⟨#[117, 115, 101, 114, 115]⟩) (field_is HE.content ⟨#[117, 115, 101, 114, 115]⟩)
          go_loopw [20] (fun i wr => ∃ k : Nat, k ≤ (names2 (fieldD old ⟨#[117, 115, 101, 114, 115]⟩) (fieldD ex.content ⟨#[117, 115, 101, 114, 115]⟩)).length ∧ i = .int .i64 k ∧ Hid (noneTo (fun n => lostB (fieldD old ⟨#[117, 115, 101, 114, 115]⟩) (fieldD ex.content ⟨#[117, 115, 101, 114, 115]⟩) ex.sender level n) (names2 (fieldD old ⟨#[117, 115, 101, 114, 115]⟩) (fieldD ex.content ⟨#[117, 115, 101, 114, 115]⟩)) k) ∧ Below wn.heap.size wn wr) (fun i _ => (names2 (fieldD old ⟨#[117, 115, 101, 114, 115]⟩) (fieldD ex.content ⟨#[117, 115, 101, 114, 115]⟩)).length - (intOf i).toNat)
          case atStart => exact ⟨0, Nat.zero_le _, rfl, none_zero _ _, Below.refl _ _⟩
          case round =>
            obtain ⟨k, hk, rfl, HS, hb⟩ := hrel
            have HBW := Lib.hid hb
            replace HB := HB.trans (hb.mono HB.size)
            (try replace HO := HO.below hb)
            (try replace HE := HE.below hb)
            (try replace B3 := IBox.below B3 hb (IBox.lt B3))
            (try replace B4 := IBox.below B4 hb (IBox.lt B4))
            (try replace B16 := IBox.below B16 hb (IBox.lt B16))
            (try replace B18 := IBox.below B18 hb (IBox.lt B18))
            (try replace c3_3 := cell_below hb c3_3)
            by_cases hlt : k < (names2 (fieldD old ⟨#[117, 115, 101, 114, 115]⟩) (fieldD ex.content ⟨#[117, 115, 101, 114, 115]⟩)).length
            · obtain ⟨bl, off, n, hA, hn, hcn, hs⟩ := names_at (hN.below hb) (show k < List.length _ from hlt)
              rw [Nat.mul_one] at hcn
              have HNN := Lib.hid hn
              clear hn hb hs
              have hlt2 : 0 ≤ (k : Int) ∧ (k : Int) < (names2 (fieldD old ⟨#[117, 115, 101, 114, 115]⟩) (fieldD ex.content ⟨#[117, 115, 101, 114, 115]⟩)).length := by omega
              subst hA
              have hfin := lost_is (fieldD old ⟨#[117, 115, 101, 114, 115]⟩) (fieldD ex.content ⟨#[117, 115, 101, 114, 115]⟩) ex.sender level n
              have C1 : ∀ w, IsJV w (fieldD old ⟨#[117, 115, 101, 114, 115]⟩) → Calls Try.prog 19 #[.agg (fieldD old ⟨#[117, 115, 101, 114, 115]⟩).cells, .string n] w fun e w' => e = .returned (.tuple #[.int .i64 (numT (fieldD old ⟨#[117, 115, 101, 114, 115]⟩) n), .bool (numP (fieldD old ⟨#[117, 115, 101, 114, 115]⟩) n)]) ∧ Below w.heap.size w w' := fun w h => rnum_any _ n w h
              have C2 : ∀ w, IsJV w (fieldD ex.content ⟨#[117, 115, 101, 114, 115]⟩) → Calls Try.prog 19 #[.agg (fieldD ex.content ⟨#[117, 115, 101, 114, 115]⟩).cells, .string n] w fun e w' => e = .returned (.tuple #[.int .i64 (numT (fieldD ex.content ⟨#[117, 115, 101, 114, 115]⟩) n), .bool (numP (fieldD ex.content ⟨#[117, 115, 101, 114, 115]⟩) n)]) ∧ Below w.heap.size w w' := fun w h => rnum_any _ n w h
              generalize hr : lostB (fieldD old ⟨#[117, 115, 101, 114, 115]⟩) (fieldD ex.content ⟨#[117, 115, 101, 114, 115]⟩) ex.sender level n = r at hfin
              generalize numP (fieldD old ⟨#[117, 115, 101, 114, 115]⟩) n = p at hfin C1
              generalize numT (fieldD old ⟨#[117, 115, 101, 114, 115]⟩) n = x at hfin C1
              generalize numP (fieldD ex.content ⟨#[117, 115, 101, 114, 115]⟩) n = q at hfin C2
              generalize numT (fieldD ex.content ⟨#[117, 115, 101, 114, 115]⟩) n = y at hfin C2
              have HC1 := Lib.hid C1
              have HC2 := Lib.hid C2
              have HFIN := Lib.hid hfin
              have HR := Lib.hid hr
              clear C1 C2 hfin hr
              go_wp2
              refine wp_region_below (by kernel_rfl) (fun w2 hHeld => ?_)
              refine wpAnyH_take (i := 0) (oi := ⟨some 97, _, _, _, _, _⟩) (v := _) rfl (by kernel_rfl) (by kernel_rfl) (by kernel_rfl) (fun _ _ _ h => h) (yields_box (by kernel_rfl) _ _ rfl _ rfl _ _ _ B16 Try.underlying30 rfl info_value) (by assumption) ?_
              try simp only [Act.put, List.setIfInBounds_toArray, List.set_cons_zero, List.set_cons_succ]
              refine wpAnyH_take (i := 1) (oi := ⟨some 98, _, _, _, _, _⟩) (v := ?_) rfl (by kernel_rfl) (by kernel_rfl) (by kernel_rfl) (fun _ _ _ h => h) (Or.inl ⟨by kernel_rfl, ?_⟩) (by assumption) ?_
              rotate_left
              · (intro w hSw; (try dsimp only at hSw); have := cell_below hSw hcn; go_simp; try with_reducible rfl)
              try simp only [Act.put, List.setIfInBounds_toArray, List.set_cons_zero, List.set_cons_succ]
              refine wpAnyH_take (i := 2) (oi := ⟨some 99, _, _, _, _, _⟩) (v := ?_) rfl (by kernel_rfl) (by kernel_rfl) (by kernel_rfl) (fun _ _ _ h => h) (Or.inl ⟨by kernel_rfl, ?_⟩) (by assumption) ?_
              rotate_left
              · (intro w hSw; (try dsimp only at hSw); have := cell_below hSw hcn; go_simp; try with_reducible rfl)
              try simp only [Act.put, List.setIfInBounds_toArray, List.set_cons_zero, List.set_cons_succ]
              refine wpAnyH_take (i := 3) (oi := ⟨some 100, _, _, _, _, _⟩) (v := ?_) rfl (by kernel_rfl) (by kernel_rfl) (by kernel_rfl) (fun _ _ _ h => h) (Or.inl ⟨by kernel_rfl, ?_⟩) (by assumption) ?_
              rotate_left
              · (intro w hSw; (try dsimp only at hSw); have := cell_below hSw hcn; go_simp; try with_reducible rfl)
              try simp only [Act.put, List.setIfInBounds_toArray, List.set_cons_zero, List.set_cons_succ]
              refine wpAnyH_take (i := 4) (oi := ⟨some 101, _, _, _, _, _⟩) (v := ?_) rfl (by kernel_rfl) (by kernel_rfl) (by kernel_rfl) (fun _ _ _ h => h) (Or.inl ⟨by kernel_rfl, ?_⟩) (by assumption) ?_
              rotate_left
              · (intro w hSw; (try dsimp only at hSw); have := cell_below hSw hcn; go_simp; try with_reducible rfl)
              try simp only [Act.put, List.setIfInBounds_toArray, List.set_cons_zero, List.set_cons_succ]
              refine wpAnyH_ready (rs := [5]) (by kernel_rfl) (by simp) ?_
              refine AllReadyH.cons (o := ⟨some 102, _, _, _, _, _⟩) rfl (fun K hK => ?_) AllReadyH.nil
              go_simp
              (go_at_call 19; (with_reducible refine (HC1.out _ (field_is (HO.below hHeld) _)).mono ?_); rintro e w3 ⟨rfl, hb3⟩)
              refine hK.out _ _ ?_ (fun hHeld2 => ?_)
              · (try dsimp only); exact hHeld.trans (hb3.mono hHeld.size)
              clear hK K hHeld hb3
              try simp only [Act.put, List.setIfInBounds_toArray, List.set_cons_zero, List.set_cons_succ]
              refine wpAnyH_take (i := 6) (oi := ⟨some 96, _, _, _, _, _⟩) (v := ?_) rfl (by kernel_rfl) (by kernel_rfl) (by kernel_rfl) (fun _ _ _ h => h) (Or.inl ⟨by kernel_rfl, ?_⟩) (by assumption) ?_
              rotate_left
              · (intro w hSw; (try dsimp only at hSw); have := cell_below hSw hcn; go_simp; try with_reducible rfl)
              try simp only [Act.put, List.setIfInBounds_toArray, List.set_cons_zero, List.set_cons_succ]
              refine wpAnyH_take (i := 7) (oi := ⟨some 103, _, _, _, _, _⟩) (v := ?_) rfl (by kernel_rfl) (by kernel_rfl) (by kernel_rfl) (fun _ _ _ h => h) (Or.inl ⟨by kernel_rfl, ?_⟩) (by assumption) ?_
              rotate_left
              · (intro w hSw; (try dsimp only at hSw); have := cell_below hSw hcn; go_simp; try with_reducible rfl)
              try simp only [Act.put, List.setIfInBounds_toArray, List.set_cons_zero, List.set_cons_succ]
              refine wpAnyH_take (i := 8) (oi := ⟨some 104, _, _, _, _, _⟩) (v := ?_) rfl (by kernel_rfl) (by kernel_rfl) (by kernel_rfl) (fun _ _ _ h => h) (Or.inl ⟨by kernel_rfl, ?_⟩) (by assumption) ?_
              rotate_left
              · (intro w hSw; (try dsimp only at hSw); have := cell_below hSw hcn; go_simp; try with_reducible rfl)
              try simp only [Act.put, List.setIfInBounds_toArray, List.set_cons_zero, List.set_cons_succ]
              refine wpAnyH_take (i := 9) (oi := ⟨some 21, _, _, _, _, _⟩) (v := ?_) rfl (by kernel_rfl) (by kernel_rfl) (by kernel_rfl) (fun _ _ _ h => h) (Or.inl ⟨by kernel_rfl, ?_⟩) (by assumption) ?_
              rotate_left
              · (intro w hSw; (try dsimp only at hSw); have := cell_below hSw hcn; go_simp; try with_reducible rfl)
              try simp only [Act.put, List.setIfInBounds_toArray, List.set_cons_zero, List.set_cons_succ]
              refine wpAnyH_take (i := 10) (oi := ⟨some 22, _, _, _, _, _⟩) (v := ?_) rfl (by kernel_rfl) (by kernel_rfl) (by kernel_rfl) (fun _ _ _ h => h) (Or.inl ⟨by kernel_rfl, ?_⟩) (by assumption) ?_
              rotate_left
              · (intro w hSw; (try dsimp only at hSw); have := cell_below hSw hcn; go_simp; try with_reducible rfl)
              try simp only [Act.put, List.setIfInBounds_toArray, List.set_cons_zero, List.set_cons_succ]
              refine wpAnyH_done (by kernel_rfl) ?_ _
              have hb := hHeld2
              replace HB := HB.trans (hb.mono HB.size)
              (try replace HO := HO.below hb)
              (try replace HE := HE.below hb)
              (try replace B3 := IBox.below B3 hb (IBox.lt B3))
              (try replace B4 := IBox.below B4 hb (IBox.lt B4))
              (try replace B16 := IBox.below B16 hb (IBox.lt B16))
              (try replace B18 := IBox.below B18 hb (IBox.lt B18))
              (try replace c3_3 := cell_below hb c3_3)
              replace hcn := cell_below hb hcn
              replace HBW := Lib.hid (HBW.out.trans (hb.mono HBW.out.size))
              clear hb hHeld2
              go_wp2
              refine wp_region_below (by kernel_rfl) (fun w2 hHeld => ?_)
              refine wpAnyH_take (i := 0) (oi := ⟨some 106, _, _, _, _, _⟩) (v := _) rfl (by kernel_rfl) (by kernel_rfl) (by kernel_rfl) (fun _ _ _ h => h) (yields_box (by kernel_rfl) _ _ rfl _ rfl _ _ _ B18 Try.underlying30 rfl info_value) (by assumption) ?_
              try simp only [Act.put, List.setIfInBounds_toArray, List.set_cons_zero, List.set_cons_succ]
              refine wpAnyH_take (i := 1) (oi := ⟨some 107, _, _, _, _, _⟩) (v := ?_) rfl (by kernel_rfl) (by kernel_rfl) (by kernel_rfl) (fun _ _ _ h => h) (Or.inl ⟨by kernel_rfl, ?_⟩) (by assumption) ?_
              rotate_left
              · (intro w hSw; (try dsimp only at hSw); have := cell_below hSw hcn; go_simp; try with_reducible rfl)
              try simp only [Act.put, List.setIfInBounds_toArray, List.set_cons_zero, List.set_cons_succ]
              refine wpAnyH_take (i := 2) (oi := ⟨some 108, _, _, _, _, _⟩) (v := ?_) rfl (by kernel_rfl) (by kernel_rfl) (by kernel_rfl) (fun _ _ _ h => h) (Or.inl ⟨by kernel_rfl, ?_⟩) (by assumption) ?_
              rotate_left
              · (intro w hSw; (try dsimp only at hSw); have := cell_below hSw hcn; go_simp; try with_reducible rfl)
              try simp only [Act.put, List.setIfInBounds_toArray, List.set_cons_zero, List.set_cons_succ]
              refine wpAnyH_take (i := 3) (oi := ⟨some 109, _, _, _, _, _⟩) (v := ?_) rfl (by kernel_rfl) (by kernel_rfl) (by kernel_rfl) (fun _ _ _ h => h) (Or.inl ⟨by kernel_rfl, ?_⟩) (by assumption) ?_
              rotate_left
              · (intro w hSw; (try dsimp only at hSw); have := cell_below hSw hcn; go_simp; try with_reducible rfl)
              try simp only [Act.put, List.setIfInBounds_toArray, List.set_cons_zero, List.set_cons_succ]
              refine wpAnyH_take (i := 4) (oi := ⟨some 110, _, _, _, _, _⟩) (v := ?_) rfl (by kernel_rfl) (by kernel_rfl) (by kernel_rfl) (fun _ _ _ h => h) (Or.inl ⟨by kernel_rfl, ?_⟩) (by assumption) ?_
              rotate_left
              · (intro w hSw; (try dsimp only at hSw); have := cell_below hSw hcn; go_simp; try with_reducible rfl)
              try simp only [Act.put, List.setIfInBounds_toArray, List.set_cons_zero, List.set_cons_succ]
              refine wpAnyH_ready (rs := [5]) (by kernel_rfl) (by simp) ?_
              refine AllReadyH.cons (o := ⟨some 111, _, _, _, _, _⟩) rfl (fun K hK => ?_) AllReadyH.nil
              go_simp
              (go_at_call 19; (with_reducible refine (HC2.out _ (field_is (HE.below hHeld).content _)).mono ?_); rintro e w3 ⟨rfl, hb3⟩)
              refine hK.out _ _ ?_ (fun hHeld2 => ?_)
              · (try dsimp only); exact hHeld.trans (hb3.mono hHeld.size)
              clear hK K hHeld hb3
              try simp only [Act.put, List.setIfInBounds_toArray, List.set_cons_zero, List.set_cons_succ]
              refine wpAnyH_take (i := 6) (oi := ⟨some 105, _, _, _, _, _⟩) (v := ?_) rfl (by kernel_rfl) (by kernel_rfl) (by kernel_rfl) (fun _ _ _ h => h) (Or.inl ⟨by kernel_rfl, ?_⟩) (by assumption) ?_
              rotate_left
              · (intro w hSw; (try dsimp only at hSw); have := cell_below hSw hcn; go_simp; try with_reducible rfl)
              try simp only [Act.put, List.setIfInBounds_toArray, List.set_cons_zero, List.set_cons_succ]
              refine wpAnyH_take (i := 7) (oi := ⟨some 112, _, _, _, _, _⟩) (v := ?_) rfl (by kernel_rfl) (by kernel_rfl) (by kernel_rfl) (fun _ _ _ h => h) (Or.inl ⟨by kernel_rfl, ?_⟩) (by assumption) ?_
              rotate_left
              · (intro w hSw; (try dsimp only at hSw); have := cell_below hSw hcn; go_simp; try with_reducible rfl)
              try simp only [Act.put, List.setIfInBounds_toArray, List.set_cons_zero, List.set_cons_succ]
              refine wpAnyH_take (i := 8) (oi := ⟨some 113, _, _, _, _, _⟩) (v := ?_) rfl (by kernel_rfl) (by kernel_rfl) (by kernel_rfl) (fun _ _ _ h => h) (Or.inl ⟨by kernel_rfl, ?_⟩) (by assumption) ?_
              rotate_left
              · (intro w hSw; (try dsimp only at hSw); have := cell_below hSw hcn; go_simp; try with_reducible rfl)
              try simp only [Act.put, List.setIfInBounds_toArray, List.set_cons_zero, List.set_cons_succ]
              refine wpAnyH_take (i := 9) (oi := ⟨some 23, _, _, _, _, _⟩) (v := ?_) rfl (by kernel_rfl) (by kernel_rfl) (by kernel_rfl) (fun _ _ _ h => h) (Or.inl ⟨by kernel_rfl, ?_⟩) (by assumption) ?_
              rotate_left
              · (intro w hSw; (try dsimp only at hSw); have := cell_below hSw hcn; go_simp; try with_reducible rfl)
              try simp only [Act.put, List.setIfInBounds_toArray, List.set_cons_zero, List.set_cons_succ]
              refine wpAnyH_take (i := 10) (oi := ⟨some 24, _, _, _, _, _⟩) (v := ?_) rfl (by kernel_rfl) (by kernel_rfl) (by kernel_rfl) (fun _ _ _ h => h) (Or.inl ⟨by kernel_rfl, ?_⟩) (by assumption) ?_
              rotate_left
              · (intro w hSw; (try dsimp only at hSw); have := cell_below hSw hcn; go_simp; try with_reducible rfl)
              try simp only [Act.put, List.setIfInBounds_toArray, List.set_cons_zero, List.set_cons_succ]
              refine wpAnyH_done (by kernel_rfl) ?_ _
              have hb := hHeld2
              replace HB := HB.trans (hb.mono HB.size)
              (try replace HO := HO.below hb)
              (try replace HE := HE.below hb)
              (try replace B3 := IBox.below B3 hb (IBox.lt B3))
              (try replace B4 := IBox.below B4 hb (IBox.lt B4))
              (try replace B16 := IBox.below B16 hb (IBox.lt B16))
              (try replace B18 := IBox.below B18 hb (IBox.lt B18))
              (try replace c3_3 := cell_below hb c3_3)
              replace hcn := cell_below hb hcn
              replace HBW := Lib.hid (HBW.out.trans (hb.mono HBW.out.size))
              clear hb hHeld2
              cases p
              · obtain rfl : r = false := by rw [HFIN.out]; simp_all
                have e2 : (x != y) = !(x == y) := rfl
                try rw [hxy] at e2
                have e3 : (n.toList != ex.sender.toList) = !(n.toList == ex.sender.toList) := rfl
                try rw [ho] at e3
                go_wp2
                go_quiet (fail)
                generalize hw2 : World.drewN _ nq = w2
                have hb := below_dr hw2
                replace HB := HB.trans (hb.mono HB.size)
                (try replace HO := HO.below hb)
                (try replace HE := HE.below hb)
                (try replace B3 := IBox.below B3 hb (IBox.lt B3))
                (try replace B4 := IBox.below B4 hb (IBox.lt B4))
                (try replace B16 := IBox.below B16 hb (IBox.lt B16))
                (try replace B18 := IBox.below B18 hb (IBox.lt B18))
                (try replace c3_3 := cell_below hb c3_3)
                replace HBW := Lib.hid (HBW.out.trans (hb.mono HBW.out.size))
                clear hb hw2
                go_wp2
                go_roundw
                case rel => exact ⟨k + 1, by omega, by go_num, none_step HS.out HNN.out HR.out, HBW.out⟩
                case measure => simp [intOf]; omega
              · cases ho : (n.toList == ex.sender.toList)
                · cases q
                  · by_cases h2 : level ≤ x
                    · obtain rfl : r = true := by rw [HFIN.out]; simp_all
                      have e2 : (x != y) = !(x == y) := rfl
                      try rw [hxy] at e2
                      have e3 : (n.toList != ex.sender.toList) = !(n.toList == ex.sender.toList) := rfl
                      try rw [ho] at e3
                      go_wp2
                      go_quiet (fail)
                      generalize hw2 : World.drewN _ nq = w2
                      have hb := below_dr hw2
                      replace HB := HB.trans (hb.mono HB.size)
                      (try replace HO := HO.below hb)
                      (try replace HE := HE.below hb)
                      (try replace B3 := IBox.below B3 hb (IBox.lt B3))
                      (try replace B4 := IBox.below B4 hb (IBox.lt B4))
                      (try replace B16 := IBox.below B16 hb (IBox.lt B16))
                      (try replace B18 := IBox.below B18 hb (IBox.lt B18))
                      (try replace c3_3 := cell_below hb c3_3)
                      replace HBW := Lib.hid (HBW.out.trans (hb.mono HBW.out.size))
                      clear hb hw2
                      go_wp2
                      have HZ : c46 old ex.content ex.sender level = true := any_hit HNN.out HR.out
                      go_ret
                      exact ⟨ret_int (by unfold changesS; rw [if_neg (by rw [h44.out]; decide), if_neg (by rw [h45.out]; decide), if_pos HZ]), HB⟩
                    · obtain rfl : r = false := by rw [HFIN.out]; simp_all
                      have e2 : (x != y) = !(x == y) := rfl
                      try rw [hxy] at e2
                      have e3 : (n.toList != ex.sender.toList) = !(n.toList == ex.sender.toList) := rfl
                      try rw [ho] at e3
                      go_wp2
                      go_quiet (fail)
                      generalize hw2 : World.drewN _ nq = w2
                      have hb := below_dr hw2
                      replace HB := HB.trans (hb.mono HB.size)
                      (try replace HO := HO.below hb)
                      (try replace HE := HE.below hb)
                      (try replace B3 := IBox.below B3 hb (IBox.lt B3))
                      (try replace B4 := IBox.below B4 hb (IBox.lt B4))
                      (try replace B16 := IBox.below B16 hb (IBox.lt B16))
                      (try replace B18 := IBox.below B18 hb (IBox.lt B18))
                      (try replace c3_3 := cell_below hb c3_3)
                      replace HBW := Lib.hid (HBW.out.trans (hb.mono HBW.out.size))
                      clear hb hw2
                      go_wp2
                      go_roundw
                      case rel => exact ⟨k + 1, by omega, by go_num, none_step HS.out HNN.out HR.out, HBW.out⟩
                      case measure => simp [intOf]; omega
                  · cases hxy : (x == y)
                    · by_cases h2 : level ≤ x
                      · obtain rfl : r = true := by rw [HFIN.out]; simp_all
                        have e2 : (x != y) = !(x == y) := rfl
                        try rw [hxy] at e2
                        have e3 : (n.toList != ex.sender.toList) = !(n.toList == ex.sender.toList) := rfl
                        try rw [ho] at e3
                        go_wp2
                        go_quiet (fail)
                        generalize hw2 : World.drewN _ nq = w2
                        have hb := below_dr hw2
                        replace HB := HB.trans (hb.mono HB.size)
                        (try replace HO := HO.below hb)
                        (try replace HE := HE.below hb)
                        (try replace B3 := IBox.below B3 hb (IBox.lt B3))
                        (try replace B4 := IBox.below B4 hb (IBox.lt B4))
                        (try replace B16 := IBox.below B16 hb (IBox.lt B16))
                        (try replace B18 := IBox.below B18 hb (IBox.lt B18))
                        (try replace c3_3 := cell_below hb c3_3)
                        replace HBW := Lib.hid (HBW.out.trans (hb.mono HBW.out.size))
                        clear hb hw2
                        go_wp2
                        have HZ : c46 old ex.content ex.sender level = true := any_hit HNN.out HR.out
                        go_ret
                        exact ⟨ret_int (by unfold changesS; rw [if_neg (by rw [h44.out]; decide), if_neg (by rw [h45.out]; decide), if_pos HZ]), HB⟩
                      · obtain rfl : r = false := by rw [HFIN.out]; simp_all
                        have e2 : (x != y) = !(x == y) := rfl
                        try rw [hxy] at e2
                        have e3 : (n.toList != ex.sender.toList) = !(n.toList == ex.sender.toList) := rfl
                        try rw [ho] at e3
                        go_wp2
                        go_quiet (fail)
                        generalize hw2 : World.drewN _ nq = w2
                        have hb := below_dr hw2
                        replace HB := HB.trans (hb.mono HB.size)
                        (try replace HO := HO.below hb)
                        (try replace HE := HE.below hb)
                        (try replace B3 := IBox.below B3 hb (IBox.lt B3))
                        (try replace B4 := IBox.below B4 hb (IBox.lt B4))
                        (try replace B16 := IBox.below B16 hb (IBox.lt B16))
                        (try replace B18 := IBox.below B18 hb (IBox.lt B18))
                        (try replace c3_3 := cell_below hb c3_3)
                        replace HBW := Lib.hid (HBW.out.trans (hb.mono HBW.out.size))
                        clear hb hw2
                        go_wp2
                        go_roundw
                        case rel => exact ⟨k + 1, by omega, by go_num, none_step HS.out HNN.out HR.out, HBW.out⟩
                        case measure => simp [intOf]; omega
                    · obtain rfl : r = false := by rw [HFIN.out]; simp_all
                      have e2 : (x != y) = !(x == y) := rfl
                      try rw [hxy] at e2
                      have e3 : (n.toList != ex.sender.toList) = !(n.toList == ex.sender.toList) := rfl
                      try rw [ho] at e3
                      go_wp2
                      go_quiet (fail)
                      generalize hw2 : World.drewN _ nq = w2
                      have hb := below_dr hw2
                      replace HB := HB.trans (hb.mono HB.size)
                      (try replace HO := HO.below hb)
                      (try replace HE := HE.below hb)
                      (try replace B3 := IBox.below B3 hb (IBox.lt B3))
                      (try replace B4 := IBox.below B4 hb (IBox.lt B4))
                      (try replace B16 := IBox.below B16 hb (IBox.lt B16))
                      (try replace B18 := IBox.below B18 hb (IBox.lt B18))
                      (try replace c3_3 := cell_below hb c3_3)
                      replace HBW := Lib.hid (HBW.out.trans (hb.mono HBW.out.size))
                      clear hb hw2
                      go_wp2
                      go_roundw
                      case rel => exact ⟨k + 1, by omega, by go_num, none_step HS.out HNN.out HR.out, HBW.out⟩
                      case measure => simp [intOf]; omega
                · obtain rfl : r = false := by rw [HFIN.out]; simp_all
                  have e2 : (x != y) = !(x == y) := rfl
                  try rw [hxy] at e2
                  have e3 : (n.toList != ex.sender.toList) = !(n.toList == ex.sender.toList) := rfl
                  try rw [ho] at e3
                  go_wp2
                  go_quiet (fail)
                  generalize hw2 : World.drewN _ nq = w2
                  have hb := below_dr hw2
                  replace HB := HB.trans (hb.mono HB.size)
                  (try replace HO := HO.below hb)
                  (try replace HE := HE.below hb)
                  (try replace B3 := IBox.below B3 hb (IBox.lt B3))
                  (try replace B4 := IBox.below B4 hb (IBox.lt B4))
                  (try replace B16 := IBox.below B16 hb (IBox.lt B16))
                  (try replace B18 := IBox.below B18 hb (IBox.lt B18))
                  (try replace c3_3 := cell_below hb c3_3)
                  replace HBW := Lib.hid (HBW.out.trans (hb.mono HBW.out.size))
                  clear hb hw2
                  go_wp2
                  go_roundw
                  case rel => exact ⟨k + 1, by omega, by go_num, none_step HS.out HNN.out HR.out, HBW.out⟩
                  case measure => simp [intOf]; omega
            · obtain rfl : k = (names2 (fieldD old ⟨#[117, 115, 101, 114, 115]⟩) (fieldD ex.content ⟨#[117, 115, 101, 114, 115]⟩)).length := by omega
              have h46 := Lib.hid (show c46 old ex.content ex.sender level = false from none_all HS.out)
              replace hN := hN.below hb
              clear hk hb HS HBW hlt
              have HWR : ∃ w9 : World, w9 = wr := ⟨wr, rfl⟩
              obtain ⟨wn, hwn⟩ := HWR
              subst hwn
              go_wp2
              go_loopw [25] (fun i wr => ∃ k : Nat, k ≤ (names2 (fieldD old ⟨#[117, 115, 101, 114, 115]⟩) (fieldD ex.content ⟨#[117, 115, 101, 114, 115]⟩)).length ∧ i = .int .i64 k ∧ Hid (noneTo (fun n => roseB (fieldD old ⟨#[117, 115, 101, 114, 115]⟩) (fieldD ex.content ⟨#[117, 115, 101, 114, 115]⟩) level n) (names2 (fieldD old ⟨#[117, 115, 101, 114, 115]⟩) (fieldD ex.content ⟨#[117, 115, 101, 114, 115]⟩)) k) ∧ Below wn.heap.size wn wr) (fun i _ => (names2 (fieldD old ⟨#[117, 115, 101, 114, 115]⟩) (fieldD ex.content ⟨#[117, 115, 101, 114, 115]⟩)).length - (intOf i).toNat)
              case atStart => exact ⟨0, Nat.zero_le _, rfl, none_zero _ _, Below.refl _ _⟩
              case round =>
                obtain ⟨k, hk, rfl, HS, hb⟩ := hrel
                have HBW := Lib.hid hb
                replace HB := HB.trans (hb.mono HB.size)
                (try replace HO := HO.below hb)
                (try replace HE := HE.below hb)
                (try replace B3 := IBox.below B3 hb (IBox.lt B3))
                (try replace B4 := IBox.below B4 hb (IBox.lt B4))
                (try replace B16 := IBox.below B16 hb (IBox.lt B16))
                (try replace B18 := IBox.below B18 hb (IBox.lt B18))
                (try replace c3_3 := cell_below hb c3_3)
                by_cases hlt : k < (names2 (fieldD old ⟨#[117, 115, 101, 114, 115]⟩) (fieldD ex.content ⟨#[117, 115, 101, 114, 115]⟩)).length
                · obtain ⟨bl, off, n, hA, hn, hcn, hs⟩ := names_at (hN.below hb) (show k < List.length _ from hlt)
                  rw [Nat.mul_one] at hcn
                  have HNN := Lib.hid hn
                  clear hn hb hs
                  have hlt2 : 0 ≤ (k : Int) ∧ (k : Int) < (names2 (fieldD old ⟨#[117, 115, 101, 114, 115]⟩) (fieldD ex.content ⟨#[117, 115, 101, 114, 115]⟩)).length := by omega
                  subst hA
                  have hfin := rose_is (fieldD old ⟨#[117, 115, 101, 114, 115]⟩) (fieldD ex.content ⟨#[117, 115, 101, 114, 115]⟩) level n
                  have C1 : ∀ w, IsJV w (fieldD old ⟨#[117, 115, 101, 114, 115]⟩) → Calls Try.prog 19 #[.agg (fieldD old ⟨#[117, 115, 101, 114, 115]⟩).cells, .string n] w fun e w' => e = .returned (.tuple #[.int .i64 (numT (fieldD old ⟨#[117, 115, 101, 114, 115]⟩) n), .bool (numP (fieldD old ⟨#[117, 115, 101, 114, 115]⟩) n)]) ∧ Below w.heap.size w w' := fun w h => rnum_any _ n w h
                  have C2 : ∀ w, IsJV w (fieldD ex.content ⟨#[117, 115, 101, 114, 115]⟩) → Calls Try.prog 19 #[.agg (fieldD ex.content ⟨#[117, 115, 101, 114, 115]⟩).cells, .string n] w fun e w' => e = .returned (.tuple #[.int .i64 (numT (fieldD ex.content ⟨#[117, 115, 101, 114, 115]⟩) n), .bool (numP (fieldD ex.content ⟨#[117, 115, 101, 114, 115]⟩) n)]) ∧ Below w.heap.size w w' := fun w h => rnum_any _ n w h
                  generalize hr : roseB (fieldD old ⟨#[117, 115, 101, 114, 115]⟩) (fieldD ex.content ⟨#[117, 115, 101, 114, 115]⟩) level n = r at hfin
                  generalize numP (fieldD old ⟨#[117, 115, 101, 114, 115]⟩) n = p at hfin C1
                  generalize numT (fieldD old ⟨#[117, 115, 101, 114, 115]⟩) n = x at hfin C1
                  generalize numP (fieldD ex.content ⟨#[117, 115, 101, 114, 115]⟩) n = q at hfin C2
                  generalize numT (fieldD ex.content ⟨#[117, 115, 101, 114, 115]⟩) n = y at hfin C2
                  have HC1 := Lib.hid C1
                  have HC2 := Lib.hid C2
                  have HFIN := Lib.hid hfin
                  have HR := Lib.hid hr
                  clear C1 C2 hfin hr
                  go_wp2
                  refine wp_region_below (by kernel_rfl) (fun w2 hHeld => ?_)
                  refine wpAnyH_take (i := 0) (oi := ⟨some 145, _, _, _, _, _⟩) (v := _) rfl (by kernel_rfl) (by kernel_rfl) (by kernel_rfl) (fun _ _ _ h => h) (yields_box (by kernel_rfl) _ _ rfl _ rfl _ _ _ B16 Try.underlying30 rfl info_value) (by assumption) ?_
                  try simp only [Act.put, List.setIfInBounds_toArray, List.set_cons_zero, List.set_cons_succ]
                  refine wpAnyH_take (i := 1) (oi := ⟨some 146, _, _, _, _, _⟩) (v := ?_) rfl (by kernel_rfl) (by kernel_rfl) (by kernel_rfl) (fun _ _ _ h => h) (Or.inl ⟨by kernel_rfl, ?_⟩) (by assumption) ?_
                  rotate_left
                  · (intro w hSw; (try dsimp only at hSw); have := cell_below hSw hcn; go_simp; try with_reducible rfl)
                  try simp only [Act.put, List.setIfInBounds_toArray, List.set_cons_zero, List.set_cons_succ]
                  refine wpAnyH_take (i := 2) (oi := ⟨some 147, _, _, _, _, _⟩) (v := ?_) rfl (by kernel_rfl) (by kernel_rfl) (by kernel_rfl) (fun _ _ _ h => h) (Or.inl ⟨by kernel_rfl, ?_⟩) (by assumption) ?_
                  rotate_left
                  · (intro w hSw; (try dsimp only at hSw); have := cell_below hSw hcn; go_simp; try with_reducible rfl)
                  try simp only [Act.put, List.setIfInBounds_toArray, List.set_cons_zero, List.set_cons_succ]
                  refine wpAnyH_take (i := 3) (oi := ⟨some 148, _, _, _, _, _⟩) (v := ?_) rfl (by kernel_rfl) (by kernel_rfl) (by kernel_rfl) (fun _ _ _ h => h) (Or.inl ⟨by kernel_rfl, ?_⟩) (by assumption) ?_
                  rotate_left
                  · (intro w hSw; (try dsimp only at hSw); have := cell_below hSw hcn; go_simp; try with_reducible rfl)
                  try simp only [Act.put, List.setIfInBounds_toArray, List.set_cons_zero, List.set_cons_succ]
                  refine wpAnyH_take (i := 4) (oi := ⟨some 149, _, _, _, _, _⟩) (v := ?_) rfl (by kernel_rfl) (by kernel_rfl) (by kernel_rfl) (fun _ _ _ h => h) (Or.inl ⟨by kernel_rfl, ?_⟩) (by assumption) ?_
                  rotate_left
                  · (intro w hSw; (try dsimp only at hSw); have := cell_below hSw hcn; go_simp; try with_reducible rfl)
                  try simp only [Act.put, List.setIfInBounds_toArray, List.set_cons_zero, List.set_cons_succ]
                  refine wpAnyH_ready (rs := [5]) (by kernel_rfl) (by simp) ?_
                  refine AllReadyH.cons (o := ⟨some 150, _, _, _, _, _⟩) rfl (fun K hK => ?_) AllReadyH.nil
                  go_simp
                  (go_at_call 19; (with_reducible refine (HC1.out _ (field_is (HO.below hHeld) _)).mono ?_); rintro e w3 ⟨rfl, hb3⟩)
                  refine hK.out _ _ ?_ (fun hHeld2 => ?_)
                  · (try dsimp only); exact hHeld.trans (hb3.mono hHeld.size)
                  clear hK K hHeld hb3
                  try simp only [Act.put, List.setIfInBounds_toArray, List.set_cons_zero, List.set_cons_succ]
                  refine wpAnyH_take (i := 6) (oi := ⟨some 144, _, _, _, _, _⟩) (v := ?_) rfl (by kernel_rfl) (by kernel_rfl) (by kernel_rfl) (fun _ _ _ h => h) (Or.inl ⟨by kernel_rfl, ?_⟩) (by assumption) ?_
                  rotate_left
                  · (intro w hSw; (try dsimp only at hSw); have := cell_below hSw hcn; go_simp; try with_reducible rfl)
                  try simp only [Act.put, List.setIfInBounds_toArray, List.set_cons_zero, List.set_cons_succ]
                  refine wpAnyH_take (i := 7) (oi := ⟨some 151, _, _, _, _, _⟩) (v := ?_) rfl (by kernel_rfl) (by kernel_rfl) (by kernel_rfl) (fun _ _ _ h => h) (Or.inl ⟨by kernel_rfl, ?_⟩) (by assumption) ?_
                  rotate_left
                  · (intro w hSw; (try dsimp only at hSw); have := cell_below hSw hcn; go_simp; try with_reducible rfl)
                  try simp only [Act.put, List.setIfInBounds_toArray, List.set_cons_zero, List.set_cons_succ]
                  refine wpAnyH_take (i := 8) (oi := ⟨some 152, _, _, _, _, _⟩) (v := ?_) rfl (by kernel_rfl) (by kernel_rfl) (by kernel_rfl) (fun _ _ _ h => h) (Or.inl ⟨by kernel_rfl, ?_⟩) (by assumption) ?_
                  rotate_left
                  · (intro w hSw; (try dsimp only at hSw); have := cell_below hSw hcn; go_simp; try with_reducible rfl)
                  try simp only [Act.put, List.setIfInBounds_toArray, List.set_cons_zero, List.set_cons_succ]
                  refine wpAnyH_take (i := 9) (oi := ⟨some 26, _, _, _, _, _⟩) (v := ?_) rfl (by kernel_rfl) (by kernel_rfl) (by kernel_rfl) (fun _ _ _ h => h) (Or.inl ⟨by kernel_rfl, ?_⟩) (by assumption) ?_
                  rotate_left
                  · (intro w hSw; (try dsimp only at hSw); have := cell_below hSw hcn; go_simp; try with_reducible rfl)
                  try simp only [Act.put, List.setIfInBounds_toArray, List.set_cons_zero, List.set_cons_succ]
                  refine wpAnyH_take (i := 10) (oi := ⟨some 27, _, _, _, _, _⟩) (v := ?_) rfl (by kernel_rfl) (by kernel_rfl) (by kernel_rfl) (fun _ _ _ h => h) (Or.inl ⟨by kernel_rfl, ?_⟩) (by assumption) ?_
                  rotate_left
                  · (intro w hSw; (try dsimp only at hSw); have := cell_below hSw hcn; go_simp; try with_reducible rfl)
                  try simp only [Act.put, List.setIfInBounds_toArray, List.set_cons_zero, List.set_cons_succ]
                  refine wpAnyH_done (by kernel_rfl) ?_ _
                  have hb := hHeld2
                  replace HB := HB.trans (hb.mono HB.size)
                  (try replace HO := HO.below hb)
                  (try replace HE := HE.below hb)
                  (try replace B3 := IBox.below B3 hb (IBox.lt B3))
                  (try replace B4 := IBox.below B4 hb (IBox.lt B4))
                  (try replace B16 := IBox.below B16 hb (IBox.lt B16))
                  (try replace B18 := IBox.below B18 hb (IBox.lt B18))
                  (try replace c3_3 := cell_below hb c3_3)
                  replace hcn := cell_below hb hcn
                  replace HBW := Lib.hid (HBW.out.trans (hb.mono HBW.out.size))
                  clear hb hHeld2
                  go_wp2
                  refine wp_region_below (by kernel_rfl) (fun w2 hHeld => ?_)
                  refine wpAnyH_take (i := 0) (oi := ⟨some 154, _, _, _, _, _⟩) (v := _) rfl (by kernel_rfl) (by kernel_rfl) (by kernel_rfl) (fun _ _ _ h => h) (yields_box (by kernel_rfl) _ _ rfl _ rfl _ _ _ B18 Try.underlying30 rfl info_value) (by assumption) ?_
                  try simp only [Act.put, List.setIfInBounds_toArray, List.set_cons_zero, List.set_cons_succ]
                  refine wpAnyH_take (i := 1) (oi := ⟨some 155, _, _, _, _, _⟩) (v := ?_) rfl (by kernel_rfl) (by kernel_rfl) (by kernel_rfl) (fun _ _ _ h => h) (Or.inl ⟨by kernel_rfl, ?_⟩) (by assumption) ?_
                  rotate_left
                  · (intro w hSw; (try dsimp only at hSw); have := cell_below hSw hcn; go_simp; try with_reducible rfl)
                  try simp only [Act.put, List.setIfInBounds_toArray, List.set_cons_zero, List.set_cons_succ]
                  refine wpAnyH_take (i := 2) (oi := ⟨some 156, _, _, _, _, _⟩) (v := ?_) rfl (by kernel_rfl) (by kernel_rfl) (by kernel_rfl) (fun _ _ _ h => h) (Or.inl ⟨by kernel_rfl, ?_⟩) (by assumption) ?_
                  rotate_left
                  · (intro w hSw; (try dsimp only at hSw); have := cell_below hSw hcn; go_simp; try with_reducible rfl)
                  try simp only [Act.put, List.setIfInBounds_toArray, List.set_cons_zero, List.set_cons_succ]
                  refine wpAnyH_take (i := 3) (oi := ⟨some 157, _, _, _, _, _⟩) (v := ?_) rfl (by kernel_rfl) (by kernel_rfl) (by kernel_rfl) (fun _ _ _ h => h) (Or.inl ⟨by kernel_rfl, ?_⟩) (by assumption) ?_
                  rotate_left
                  · (intro w hSw; (try dsimp only at hSw); have := cell_below hSw hcn; go_simp; try with_reducible rfl)
                  try simp only [Act.put, List.setIfInBounds_toArray, List.set_cons_zero, List.set_cons_succ]
                  refine wpAnyH_take (i := 4) (oi := ⟨some 158, _, _, _, _, _⟩) (v := ?_) rfl (by kernel_rfl) (by kernel_rfl) (by kernel_rfl) (fun _ _ _ h => h) (Or.inl ⟨by kernel_rfl, ?_⟩) (by assumption) ?_
                  rotate_left
                  · (intro w hSw; (try dsimp only at hSw); have := cell_below hSw hcn; go_simp; try with_reducible rfl)
                  try simp only [Act.put, List.setIfInBounds_toArray, List.set_cons_zero, List.set_cons_succ]
                  refine wpAnyH_ready (rs := [5]) (by kernel_rfl) (by simp) ?_
                  refine AllReadyH.cons (o := ⟨some 159, _, _, _, _, _⟩) rfl (fun K hK => ?_) AllReadyH.nil
                  go_simp
                  (go_at_call 19; (with_reducible refine (HC2.out _ (field_is (HE.below hHeld).content _)).mono ?_); rintro e w3 ⟨rfl, hb3⟩)
                  refine hK.out _ _ ?_ (fun hHeld2 => ?_)
                  · (try dsimp only); exact hHeld.trans (hb3.mono hHeld.size)
                  clear hK K hHeld hb3
                  try simp only [Act.put, List.setIfInBounds_toArray, List.set_cons_zero, List.set_cons_succ]
                  refine wpAnyH_take (i := 6) (oi := ⟨some 153, _, _, _, _, _⟩) (v := ?_) rfl (by kernel_rfl) (by kernel_rfl) (by kernel_rfl) (fun _ _ _ h => h) (Or.inl ⟨by kernel_rfl, ?_⟩) (by assumption) ?_
                  rotate_left
                  · (intro w hSw; (try dsimp only at hSw); have := cell_below hSw hcn; go_simp; try with_reducible rfl)
                  try simp only [Act.put, List.setIfInBounds_toArray, List.set_cons_zero, List.set_cons_succ]
                  refine wpAnyH_take (i := 7) (oi := ⟨some 160, _, _, _, _, _⟩) (v := ?_) rfl (by kernel_rfl) (by kernel_rfl) (by kernel_rfl) (fun _ _ _ h => h) (Or.inl ⟨by kernel_rfl, ?_⟩) (by assumption) ?_
                  rotate_left
                  · (intro w hSw; (try dsimp only at hSw); have := cell_below hSw hcn; go_simp; try with_reducible rfl)
                  try simp only [Act.put, List.setIfInBounds_toArray, List.set_cons_zero, List.set_cons_succ]
                  refine wpAnyH_take (i := 8) (oi := ⟨some 161, _, _, _, _, _⟩) (v := ?_) rfl (by kernel_rfl) (by kernel_rfl) (by kernel_rfl) (fun _ _ _ h => h) (Or.inl ⟨by kernel_rfl, ?_⟩) (by assumption) ?_
                  rotate_left
                  · (intro w hSw; (try dsimp only at hSw); have := cell_below hSw hcn; go_simp; try with_reducible rfl)
                  try simp only [Act.put, List.setIfInBounds_toArray, List.set_cons_zero, List.set_cons_succ]
                  refine wpAnyH_take (i := 9) (oi := ⟨some 28, _, _, _, _, _⟩) (v := ?_) rfl (by kernel_rfl) (by kernel_rfl) (by kernel_rfl) (fun _ _ _ h => h) (Or.inl ⟨by kernel_rfl, ?_⟩) (by assumption) ?_
                  rotate_left
                  · (intro w hSw; (try dsimp only at hSw); have := cell_below hSw hcn; go_simp; try with_reducible rfl)
                  try simp only [Act.put, List.setIfInBounds_toArray, List.set_cons_zero, List.set_cons_succ]
                  refine wpAnyH_take (i := 10) (oi := ⟨some 29, _, _, _, _, _⟩) (v := ?_) rfl (by kernel_rfl) (by kernel_rfl) (by kernel_rfl) (fun _ _ _ h => h) (Or.inl ⟨by kernel_rfl, ?_⟩) (by assumption) ?_
                  rotate_left
                  · (intro w hSw; (try dsimp only at hSw); have := cell_below hSw hcn; go_simp; try with_reducible rfl)
                  try simp only [Act.put, List.setIfInBounds_toArray, List.set_cons_zero, List.set_cons_succ]
                  refine wpAnyH_done (by kernel_rfl) ?_ _
                  have hb := hHeld2
                  replace HB := HB.trans (hb.mono HB.size)
                  (try replace HO := HO.below hb)
                  (try replace HE := HE.below hb)
                  (try replace B3 := IBox.below B3 hb (IBox.lt B3))
                  (try replace B4 := IBox.below B4 hb (IBox.lt B4))
                  (try replace B16 := IBox.below B16 hb (IBox.lt B16))
                  (try replace B18 := IBox.below B18 hb (IBox.lt B18))
                  (try replace c3_3 := cell_below hb c3_3)
                  replace hcn := cell_below hb hcn
                  replace HBW := Lib.hid (HBW.out.trans (hb.mono HBW.out.size))
                  clear hb hHeld2
                  cases q
                  · obtain rfl : r = false := by rw [HFIN.out]; simp_all
                    have e2 : (x != y) = !(x == y) := rfl
                    try rw [hxy] at e2
                    have e3 : (n.toList != ex.sender.toList) = !(n.toList == ex.sender.toList) := rfl
                    try rw [ho] at e3
                    go_wp2
                    go_roundw
                    case rel => exact ⟨k + 1, by omega, by go_num, none_step HS.out HNN.out HR.out, HBW.out⟩
                    case measure => simp [intOf]; omega
                  · cases p
                    · by_cases h2 : level < y
                      · obtain rfl : r = true := by rw [HFIN.out]; simp_all
                        have e2 : (x != y) = !(x == y) := rfl
                        try rw [hxy] at e2
                        have e3 : (n.toList != ex.sender.toList) = !(n.toList == ex.sender.toList) := rfl
                        try rw [ho] at e3
                        go_wp2
                        have HZ : c47 old ex.content level = true := any_hit HNN.out HR.out
                        go_ret
                        exact ⟨ret_int (by unfold changesS; rw [if_neg (by rw [h44.out]; decide), if_neg (by rw [h45.out]; decide), if_neg (by rw [h46.out]; decide), if_pos HZ]), HB⟩
                      · obtain rfl : r = false := by rw [HFIN.out]; simp_all
                        have e2 : (x != y) = !(x == y) := rfl
                        try rw [hxy] at e2
                        have e3 : (n.toList != ex.sender.toList) = !(n.toList == ex.sender.toList) := rfl
                        try rw [ho] at e3
                        go_wp2
                        go_roundw
                        case rel => exact ⟨k + 1, by omega, by go_num, none_step HS.out HNN.out HR.out, HBW.out⟩
                        case measure => simp [intOf]; omega
                    · cases hxy : (x == y)
                      · by_cases h2 : level < y
                        · obtain rfl : r = true := by rw [HFIN.out]; simp_all
                          have e2 : (x != y) = !(x == y) := rfl
                          try rw [hxy] at e2
                          have e3 : (n.toList != ex.sender.toList) = !(n.toList == ex.sender.toList) := rfl
                          try rw [ho] at e3
                          go_wp2
                          have HZ : c47 old ex.content level = true := any_hit HNN.out HR.out
                          go_ret
                          exact ⟨ret_int (by unfold changesS; rw [if_neg (by rw [h44.out]; decide), if_neg (by rw [h45.out]; decide), if_neg (by rw [h46.out]; decide), if_pos HZ]), HB⟩
                        · obtain rfl : r = false := by rw [HFIN.out]; simp_all
                          have e2 : (x != y) = !(x == y) := rfl
                          try rw [hxy] at e2
                          have e3 : (n.toList != ex.sender.toList) = !(n.toList == ex.sender.toList) := rfl
                          try rw [ho] at e3
                          go_wp2
                          go_roundw
                          case rel => exact ⟨k + 1, by omega, by go_num, none_step HS.out HNN.out HR.out, HBW.out⟩
                          case measure => simp [intOf]; omega
                      · obtain rfl : r = false := by rw [HFIN.out]; simp_all
                        have e2 : (x != y) = !(x == y) := rfl
                        try rw [hxy] at e2
                        have e3 : (n.toList != ex.sender.toList) = !(n.toList == ex.sender.toList) := rfl
                        try rw [ho] at e3
                        go_wp2
                        go_roundw
                        case rel => exact ⟨k + 1, by omega, by go_num, none_step HS.out HNN.out HR.out, HBW.out⟩
                        case measure => simp [intOf]; omega
                · obtain rfl : k = (names2 (fieldD old ⟨#[117, 115, 101, 114, 115]⟩) (fieldD ex.content ⟨#[117, 115, 101, 114, 115]⟩)).length := by omega
                  have HZ : c47 old ex.content level = false := none_all HS.out
                  clear hk hb HS HBW hlt hN
                  go_wp2
                  go_ret
                  exact ⟨ret_int (by unfold changesS; rw [if_neg (by rw [h44.out]; decide), if_neg (by rw [h45.out]; decide), if_neg (by rw [h46.out]; decide), if_neg (by rw [HZ]; decide)]), HB⟩
end Go.Proofs.Ytpmdpfgaafaceaa
