/- Layer 16: the three statements, walked. -/
import Derived.Test.YtpmdpfgaafaceaaAuthZ
import Derived.Test.YtpmdpfgaafaceaaAuthW
namespace Go.Proofs.Ytpmdpfgaafaceaa
open Go.RowKit Go.PlainAid
set_option linter.unusedVariables false
set_option linter.unusedSimpArgs false

set_option maxRecDepth 100000 in
set_option maxHeartbeats 4000000 in
theorem lawLevels_any (user : ByteArray) (l : List Ev) (A : Option Addr) (n c : Nat) (w : World) (HM : HasMax w) (EV : IsEvs w A 0 l) (hn : n = l.length) (hnb : n ≤ 9223372036854775807) :
    Calls Try.prog 3 #[.string user, .slice A n c] w fun e w' => e = .returned (.bool true) ∧ Below w.heap.size w w' := by
  have HN := Lib.hid hn
  clear hn
  have HB := Below.refl w.heap.size w
  go_enter Try.func3, Try.ntmps3
  go_wp2_with (first
    | (go_at_call 6; (with_reducible refine (up_any _ HM).mono ?_); rintro e w1 ⟨rfl, hb⟩; replace HB := HB.trans (hb.mono HB.size); replace EV := EV.below hb; clear hb)
    | (go_at_call 7; (with_reducible refine (alev_any l A n c _ _ EV HN.out hnb).mono ?_); rintro e w1 ⟨rfl, hb⟩; replace HB := HB.trans (hb.mono HB.size); replace EV := EV.below hb; clear hb)
    | (go_at_call 8; (with_reducible refine (rlevel_any l A n c _ _ EV HN.out hnb).mono ?_); rintro e w1 ⟨rfl, hb⟩; replace HB := HB.trans (hb.mono HB.size); replace EV := EV.below hb; clear hb))
  go_ret
  exact ⟨ret_bool (by simp), HB⟩

set_option maxRecDepth 100000 in
set_option maxHeartbeats 4000000 in
theorem lawChecks_any (ex : Ev) (l : List Ev) (A : Option Addr) (n c : Nat) (w : World) (HE : IsEv w ex) (HM : HasMax w) (EV : IsEvs w A 0 l) (hn : n = l.length) (hnb : n ≤ 9223372036854775807) :
    Calls Try.prog 4 #[.agg ex.cells, .slice A n c] w fun e w' => e = .returned (.bool true) ∧ Below w.heap.size w w' := by
  have HN := Lib.hid hn
  clear hn
  have HB := Below.refl w.heap.size w
  go_enter Try.func4, Try.ntmps4
  go_wp2_with (first
      | (refine wpl_box_at rfl 32 (.tmp 0) rfl _ rfl ?_; intro w1 hw; have hb := hid_grow hw; have B2 := (hid_alloc hw).1; replace HB := HB.trans (hb.mono HB.size); replace HE := HE.below hb; replace EV := EV.below hb; replace HM := HM.below hb; clear hb hw)
      | (go_at_call 6; (with_reducible refine (up_any _ HM).mono ?_); rintro e w1 ⟨rfl, hb⟩; replace HB := HB.trans (hb.mono HB.size); replace HE := HE.below hb; replace EV := EV.below hb; replace HM := HM.below hb; replace B2 := IBox.below B2 hb (IBox.lt B2); clear hb))
  refine wp_region_below (by kernel_rfl) (fun w2 hHeld => ?_)
  refine wpAnyH_take (i := 0) (oi := ⟨some 7, _, _, _, _, _⟩) (v := ?_) rfl (by kernel_rfl) (by kernel_rfl) (by kernel_rfl) (fun _ _ _ h => h) (Or.inl ⟨by kernel_rfl, ?_⟩) (by assumption) ?_
  rotate_left
  · (intro w hSw; (try dsimp only at hSw); go_simp; try with_reducible rfl)
  try simp only [Act.put, List.setIfInBounds_toArray, List.set_cons_zero, List.set_cons_succ]
  refine wpAnyH_take (i := 1) (oi := ⟨some 8, _, _, _, _, _⟩) (v := ?_) rfl (by kernel_rfl) (by kernel_rfl) (by kernel_rfl) (fun _ _ _ h => h) (Or.inl ⟨by kernel_rfl, ?_⟩) (by assumption) ?_
  rotate_left
  · (intro w hSw; (try dsimp only at hSw); go_simp; try with_reducible rfl)
  try simp only [Act.put, List.setIfInBounds_toArray, List.set_cons_zero, List.set_cons_succ]
  refine wpAnyH_take (i := 2) (oi := ⟨some 9, _, _, _, _, _⟩) (v := _) rfl (by kernel_rfl) (by kernel_rfl) (by kernel_rfl) (fun _ _ _ h => h) (yields_box (by kernel_rfl) _ _ rfl _ rfl _ _ _ B2 Try.underlying32 rfl info_event) (by assumption) ?_
  try simp only [Act.put, List.setIfInBounds_toArray, List.set_cons_zero, List.set_cons_succ]
  refine wpAnyH_take (i := 3) (oi := ⟨some 10, _, _, _, _, _⟩) (v := ?_) rfl (by kernel_rfl) (by kernel_rfl) (by kernel_rfl) (fun _ _ _ h => h) (Or.inl ⟨by kernel_rfl, ?_⟩) (by assumption) ?_
  rotate_left
  · (intro w hSw; (try dsimp only at hSw); go_simp; try with_reducible rfl)
  try simp only [Act.put, List.setIfInBounds_toArray, List.set_cons_zero, List.set_cons_succ]
  refine wpAnyH_take (i := 5) (oi := ⟨some 12, _, _, _, _, _⟩) (v := _) rfl (by kernel_rfl) (by kernel_rfl) (by kernel_rfl) (fun _ _ _ h => h) (yields_box (by kernel_rfl) _ _ rfl _ rfl _ _ _ B2 Try.underlying32 rfl info_event) (by assumption) ?_
  try simp only [Act.put, List.setIfInBounds_toArray, List.set_cons_zero, List.set_cons_succ]
  refine wpAnyH_take (i := 6) (oi := ⟨some 13, _, _, _, _, _⟩) (v := ?_) rfl (by kernel_rfl) (by kernel_rfl) (by kernel_rfl) (fun _ _ _ h => h) (Or.inl ⟨by kernel_rfl, ?_⟩) (by assumption) ?_
  rotate_left
  · (intro w hSw; (try dsimp only at hSw); go_simp; try with_reducible rfl)
  try simp only [Act.put, List.setIfInBounds_toArray, List.set_cons_zero, List.set_cons_succ]
  refine wpAnyH_ready (rs := [4]) (by kernel_rfl) (by simp) ?_
  refine AllReadyH.cons (o := ⟨some 11, _, _, _, _, _⟩) rfl (fun K hK => ?_) AllReadyH.nil
  go_simp
  (go_at_call 9; (with_reducible refine (check_any ex l A n c _ (HE.below hHeld) (HM.below hHeld) (EV.below hHeld) HN.out hnb).mono ?_); rintro e w3 ⟨rfl, hb3⟩)
  refine hK.out _ _ ?_ (fun hH1 => ?_)
  · (try dsimp only); exact hHeld.trans (hb3.mono hHeld.size)
  clear hK K hb3
  try simp only [Act.put, List.setIfInBounds_toArray, List.set_cons_zero, List.set_cons_succ]
  refine wpAnyH_ready (rs := [7]) (by kernel_rfl) (by simp) ?_
  refine AllReadyH.cons (o := ⟨some 14, _, _, _, _, _⟩) rfl (fun K hK => ?_) AllReadyH.nil
  go_simp
  (go_at_call 10; (with_reducible refine (rcheck_any ex l A n c _ (HE.below hH1) (HM.below hH1) (EV.below hH1) HN.out hnb).mono ?_); rintro e w4 ⟨rfl, hb3⟩)
  refine hK.out _ _ ?_ (fun hH2 => ?_)
  · (try dsimp only); exact hH1.trans (hb3.mono hH1.size)
  clear hK K hb3
  try simp only [Act.put, List.setIfInBounds_toArray, List.set_cons_zero, List.set_cons_succ]
  refine wpAnyH_take (i := 8) (oi := ⟨some 15, _, _, _, _, _⟩) (v := ?_) rfl (by kernel_rfl) (by kernel_rfl) (by kernel_rfl) (fun _ _ _ h => h) (Or.inl ⟨by kernel_rfl, ?_⟩) (by assumption) ?_
  rotate_left
  · (intro w hSw; (try dsimp only at hSw); go_simp; try with_reducible rfl)
  try simp only [Act.put, List.setIfInBounds_toArray, List.set_cons_zero, List.set_cons_succ]
  refine wpAnyH_take (i := 9) (oi := ⟨some 16, _, _, _, _, _⟩) (v := ?_) rfl (by kernel_rfl) (by kernel_rfl) (by kernel_rfl) (fun _ _ _ h => h) (Or.inl ⟨by kernel_rfl, ?_⟩) (by assumption) ?_
  rotate_left
  · (intro w hSw; (try dsimp only at hSw); go_simp; try with_reducible rfl)
  try simp only [Act.put, List.setIfInBounds_toArray, List.set_cons_zero, List.set_cons_succ]
  refine wpAnyH_take (i := 10) (oi := ⟨some 4, _, _, _, _, _⟩) (v := ?_) rfl (by kernel_rfl) (by kernel_rfl) (by kernel_rfl) (fun _ _ _ h => h) (Or.inl ⟨by kernel_rfl, ?_⟩) (by assumption) ?_
  rotate_left
  · (intro w hSw; (try dsimp only at hSw); go_simp; try with_reducible rfl)
  try simp only [Act.put, List.setIfInBounds_toArray, List.set_cons_zero, List.set_cons_succ]
  refine wpAnyH_done (by kernel_rfl) ?_ _
  have hb := hH2
  replace HB := HB.trans (hb.mono HB.size)
  go_wp2
  go_ret
  exact ⟨ret_bool (by simp), HB⟩

theorem join_eq {ex : Ev} {l : List Ev} (h0 : checkS ex l = 0) (hj : ((memberS l ex.sender).toList == [106, 111, 105, 110]) = false) (hc : isCreateB ex = false) :
    (ex.ty.toList == [109, 46, 114, 111, 111, 109, 46, 109, 101, 109, 98, 101, 114]) = true ∧ (ex.key.toList == ex.sender.toList) = true ∧ (((kindOf ex).toList == [106, 111, 105, 110]) = true ∨ (((kindOf ex).toList == [106, 111, 105, 110]) = false ∧ ((kindOf ex).toList == [108, 101, 97, 118, 101]) = true ∧ ((memberS l ex.sender).toList == [105, 110, 118, 105, 116, 101]) = true)) := by
  unfold checkS at h0
  rw [hc, if_neg (by decide)] at h0
  by_cases hl : (listsS ex l == 0) = false
  · rw [if_pos hl] at h0
    rw [h0] at hl
    cases hl
  rw [if_neg hl] at h0
  cases hm : isMemB ex
  · rw [hm, if_neg (by decide)] at h0
    unfold ordS at h0
    rw [if_pos hj] at h0
    omega
  rw [hm, if_pos rfl] at h0
  refine ⟨hm, ?_⟩
  unfold memS at h0
  by_cases hu : (ex.hasKey && userB ex.key) = false
  · rw [if_pos hu] at h0; omega
  rw [if_neg hu] at h0
  cases hk1 : ((kindOf ex).toList == [106, 111, 105, 110])
  · rw [hk1, if_neg (by decide)] at h0
    cases hk2 : ((kindOf ex).toList == [105, 110, 118, 105, 116, 101])
    · rw [hk2, if_neg (by decide)] at h0
      cases hk3 : ((kindOf ex).toList == [108, 101, 97, 118, 101])
      · rw [hk3, if_neg (by decide)] at h0
        split at h0
        · unfold banS at h0
          rw [if_pos hj] at h0
          omega
        · omega
      · rw [hk3, if_pos rfl] at h0
        unfold leaveS at h0
        cases hs : (ex.sender.toList == ex.key.toList)
        · rw [hs, if_neg (by decide), if_pos hj] at h0
          omega
        · rw [hs, if_pos rfl, hj] at h0
          cases hi : ((memberS l ex.sender).toList == [105, 110, 118, 105, 116, 101])
          · rw [hi] at h0
            simp at h0
          · refine ⟨?_, .inr ⟨rfl, rfl, rfl⟩⟩
            rw [Bool.beq_comm]
            exact hs
    · rw [hk2, if_pos rfl] at h0
      unfold inviteS at h0
      rw [if_pos (by intro e; rw [e] at hj; simp at hj)] at h0
      omega
  · rw [hk1, if_pos rfl] at h0
    refine ⟨?_, .inl rfl⟩
    unfold joinS at h0
    cases hs : (ex.sender.toList == ex.key.toList)
    · rw [hs] at h0
      simp at h0
    · rw [Bool.beq_comm]
      exact hs

set_option maxRecDepth 100000 in
set_option maxHeartbeats 8000000 in
theorem lawJoined_any (ex : Ev) (l : List Ev) (A : Option Addr) (n c : Nat) (w : World) (HE : IsEv w ex) (HM : HasMax w) (EV : IsEvs w A 0 l) (hn : n = l.length) (hnb : n ≤ 9223372036854775807) :
    Calls Try.prog 5 #[.agg ex.cells, .slice A n c] w fun e w' => e = .returned (.bool true) ∧ Below w.heap.size w w' := by
  have HN := Lib.hid hn
  clear hn
  have HB := Below.refl w.heap.size w
  cases hz0 : (checkS ex l == 0)
  · have e0 : (checkS ex l != 0) = true := by unfold bne; rw [hz0]; rfl
    clear hz0
    go_enter Try.func5, Try.ntmps5
    go_wp2_with (first
          | (refine wpl_box_at rfl 32 (.tmp 0) rfl _ rfl ?_; intro w1 hw; have hb := hid_grow hw; have B2 := (hid_alloc hw).1; replace HB := HB.trans (hb.mono HB.size); (try replace HE := HE.below hb); (try replace EV := EV.below hb); (try replace HM := HM.below hb); (try replace B6 := IBox.below B6 hb (IBox.lt B6)); clear hb hw; have c2_1 : w1.cell? ⟨_, 1, none⟩ = some (.string ex.ty) := B2.cell 1; have c2_3 : w1.cell? ⟨_, 3, none⟩ = some (.string ex.sender) := B2.cell 3; have c2_5 : w1.cell? ⟨_, 5, none⟩ = some (.string ex.key) := B2.cell 5)
          | (go_at_call 6; (with_reducible refine (up_any _ HM).mono ?_); rintro e w1 ⟨rfl, hb⟩; replace HB := HB.trans (hb.mono HB.size); (try replace HE := HE.below hb); (try replace EV := EV.below hb); (try replace HM := HM.below hb); (try replace B2 := IBox.below B2 hb (IBox.lt B2)); (try replace B6 := IBox.below B6 hb (IBox.lt B6)); (try replace c2_1 := cell_below hb c2_1); (try replace c2_3 := cell_below hb c2_3); (try replace c2_5 := cell_below hb c2_5); clear hb)
          | (refine wpl_load_box rfl 32 (.tmp 2) rfl _ rfl _ _ _ B2 Try.underlying32 rfl info_event ?_)
          | (go_at_call 9; (with_reducible refine (check_any ex l A n c _ HE HM EV HN.out hnb).mono ?_); rintro e w1 ⟨rfl, hb⟩; replace HB := HB.trans (hb.mono HB.size); (try replace HE := HE.below hb); (try replace EV := EV.below hb); (try replace HM := HM.below hb); (try replace B2 := IBox.below B2 hb (IBox.lt B2)); (try replace B6 := IBox.below B6 hb (IBox.lt B6)); (try replace c2_1 := cell_below hb c2_1); (try replace c2_3 := cell_below hb c2_3); (try replace c2_5 := cell_below hb c2_5); clear hb)
          | (go_at_call 11; (with_reducible refine (standsB_any l A n c _ _ _ EV HN.out hnb).mono ?_); rintro e w1 ⟨rfl, hb⟩; replace HB := HB.trans (hb.mono HB.size); (try replace HE := HE.below hb); (try replace EV := EV.below hb); (try replace HM := HM.below hb); (try replace B2 := IBox.below B2 hb (IBox.lt B2)); (try replace B6 := IBox.below B6 hb (IBox.lt B6)); (try replace c2_1 := cell_below hb c2_1); (try replace c2_3 := cell_below hb c2_3); (try replace c2_5 := cell_below hb c2_5); clear hb)
          | (refine wpl_newbox 6 rfl rfl 32 rfl rfl (.tmp 24) rfl _ zeroE _ rfl rfl info_event rfl (ev_one _) ?_; intro w1 hw; have hb := hid_grow hw; have B6 := (hid_alloc hw).1; replace HB := HB.trans (hb.mono HB.size); (try replace HE := HE.below hb); (try replace EV := EV.below hb); (try replace HM := HM.below hb); (try replace B2 := IBox.below B2 hb (IBox.lt B2)); (try replace c2_1 := cell_below hb c2_1); (try replace c2_3 := cell_below hb c2_3); (try replace c2_5 := cell_below hb c2_5); clear hb hw)
          | (refine wpl_load_arr rfl 30 (.tmp 27) rfl _ 10 rfl _ _ (ev_content B6) Try.underlying30 rfl info_value ?_)
          | (go_at_call 12; (with_reducible refine (rword_any _ _ _ (stands_is EV _ _).content).mono ?_); rintro e w1 ⟨rfl, hb⟩; replace HB := HB.trans (hb.mono HB.size); (try replace HE := HE.below hb); (try replace EV := EV.below hb); (try replace HM := HM.below hb); (try replace B2 := IBox.below B2 hb (IBox.lt B2)); (try replace B6 := IBox.below B6 hb (IBox.lt B6)); (try replace c2_1 := cell_below hb c2_1); (try replace c2_3 := cell_below hb c2_3); (try replace c2_5 := cell_below hb c2_5); clear hb)
          | (go_at_call 13; (with_reducible refine (isCreate_any _ _ HE).mono ?_); rintro e w1 ⟨rfl, hb⟩; replace HB := HB.trans (hb.mono HB.size); (try replace HE := HE.below hb); (try replace EV := EV.below hb); (try replace HM := HM.below hb); (try replace B2 := IBox.below B2 hb (IBox.lt B2)); (try replace B6 := IBox.below B6 hb (IBox.lt B6)); (try replace c2_1 := cell_below hb c2_1); (try replace c2_3 := cell_below hb c2_3); (try replace c2_5 := cell_below hb c2_5); clear hb)
          | (refine wpl_load_arr rfl 30 (.tmp 46) rfl _ 10 rfl _ _ (ev_content B2) Try.underlying30 rfl info_value ?_)
          | (go_at_call 12; (with_reducible refine (rword_any _ _ _ HE.content).mono ?_); rintro e w1 ⟨rfl, hb⟩; replace HB := HB.trans (hb.mono HB.size); (try replace HE := HE.below hb); (try replace EV := EV.below hb); (try replace HM := HM.below hb); (try replace B2 := IBox.below B2 hb (IBox.lt B2)); (try replace B6 := IBox.below B6 hb (IBox.lt B6)); (try replace c2_1 := cell_below hb c2_1); (try replace c2_3 := cell_below hb c2_3); (try replace c2_5 := cell_below hb c2_5); clear hb))
    go_ret
    exact ⟨ret_bool (by first | rfl | simp), HB⟩
  · have hz : checkS ex l = 0 := by simpa using hz0
    have hzc := hz
    clear hz0
    cases hS : standsB l ⟨#[109, 46, 114, 111, 111, 109, 46, 109, 101, 109, 98, 101, 114]⟩ ex.sender
    · have hj : ((memberS l ex.sender).toList == [106, 111, 105, 110]) = false := by unfold memberS; rw [hS, Bool.false_and, if_neg (by decide), ba_toList]; rfl
      cases hC : isCreateB ex
      · obtain ⟨j1, j2, j3⟩ := join_eq hz hj hC
        clear hz hj
        unfold kindOf at j3
        rcases j3 with j3 | ⟨j3, j4, j5⟩
        · go_enter Try.func5, Try.ntmps5
          go_wp2_with (first
                | (refine wpl_box_at rfl 32 (.tmp 0) rfl _ rfl ?_; intro w1 hw; have hb := hid_grow hw; have B2 := (hid_alloc hw).1; replace HB := HB.trans (hb.mono HB.size); (try replace HE := HE.below hb); (try replace EV := EV.below hb); (try replace HM := HM.below hb); (try replace B6 := IBox.below B6 hb (IBox.lt B6)); clear hb hw; have c2_1 : w1.cell? ⟨_, 1, none⟩ = some (.string ex.ty) := B2.cell 1; have c2_3 : w1.cell? ⟨_, 3, none⟩ = some (.string ex.sender) := B2.cell 3; have c2_5 : w1.cell? ⟨_, 5, none⟩ = some (.string ex.key) := B2.cell 5)
                | (go_at_call 6; (with_reducible refine (up_any _ HM).mono ?_); rintro e w1 ⟨rfl, hb⟩; replace HB := HB.trans (hb.mono HB.size); (try replace HE := HE.below hb); (try replace EV := EV.below hb); (try replace HM := HM.below hb); (try replace B2 := IBox.below B2 hb (IBox.lt B2)); (try replace B6 := IBox.below B6 hb (IBox.lt B6)); (try replace c2_1 := cell_below hb c2_1); (try replace c2_3 := cell_below hb c2_3); (try replace c2_5 := cell_below hb c2_5); clear hb)
                | (refine wpl_load_box rfl 32 (.tmp 2) rfl _ rfl _ _ _ B2 Try.underlying32 rfl info_event ?_)
                | (go_at_call 9; (with_reducible refine (check_any ex l A n c _ HE HM EV HN.out hnb).mono ?_); rintro e w1 ⟨rfl, hb⟩; replace HB := HB.trans (hb.mono HB.size); (try replace HE := HE.below hb); (try replace EV := EV.below hb); (try replace HM := HM.below hb); (try replace B2 := IBox.below B2 hb (IBox.lt B2)); (try replace B6 := IBox.below B6 hb (IBox.lt B6)); (try replace c2_1 := cell_below hb c2_1); (try replace c2_3 := cell_below hb c2_3); (try replace c2_5 := cell_below hb c2_5); clear hb)
                | (go_at_call 11; (with_reducible refine (standsB_any l A n c _ _ _ EV HN.out hnb).mono ?_); rintro e w1 ⟨rfl, hb⟩; replace HB := HB.trans (hb.mono HB.size); (try replace HE := HE.below hb); (try replace EV := EV.below hb); (try replace HM := HM.below hb); (try replace B2 := IBox.below B2 hb (IBox.lt B2)); (try replace B6 := IBox.below B6 hb (IBox.lt B6)); (try replace c2_1 := cell_below hb c2_1); (try replace c2_3 := cell_below hb c2_3); (try replace c2_5 := cell_below hb c2_5); clear hb)
                | (refine wpl_newbox 6 rfl rfl 32 rfl rfl (.tmp 24) rfl _ zeroE _ rfl rfl info_event rfl (ev_one _) ?_; intro w1 hw; have hb := hid_grow hw; have B6 := (hid_alloc hw).1; replace HB := HB.trans (hb.mono HB.size); (try replace HE := HE.below hb); (try replace EV := EV.below hb); (try replace HM := HM.below hb); (try replace B2 := IBox.below B2 hb (IBox.lt B2)); (try replace c2_1 := cell_below hb c2_1); (try replace c2_3 := cell_below hb c2_3); (try replace c2_5 := cell_below hb c2_5); clear hb hw)
                | (refine wpl_load_arr rfl 30 (.tmp 27) rfl _ 10 rfl _ _ (ev_content B6) Try.underlying30 rfl info_value ?_)
                | (go_at_call 12; (with_reducible refine (rword_any _ _ _ (stands_is EV _ _).content).mono ?_); rintro e w1 ⟨rfl, hb⟩; replace HB := HB.trans (hb.mono HB.size); (try replace HE := HE.below hb); (try replace EV := EV.below hb); (try replace HM := HM.below hb); (try replace B2 := IBox.below B2 hb (IBox.lt B2)); (try replace B6 := IBox.below B6 hb (IBox.lt B6)); (try replace c2_1 := cell_below hb c2_1); (try replace c2_3 := cell_below hb c2_3); (try replace c2_5 := cell_below hb c2_5); clear hb)
                | (go_at_call 13; (with_reducible refine (isCreate_any _ _ HE).mono ?_); rintro e w1 ⟨rfl, hb⟩; replace HB := HB.trans (hb.mono HB.size); (try replace HE := HE.below hb); (try replace EV := EV.below hb); (try replace HM := HM.below hb); (try replace B2 := IBox.below B2 hb (IBox.lt B2)); (try replace B6 := IBox.below B6 hb (IBox.lt B6)); (try replace c2_1 := cell_below hb c2_1); (try replace c2_3 := cell_below hb c2_3); (try replace c2_5 := cell_below hb c2_5); clear hb)
                | (refine wpl_load_arr rfl 30 (.tmp 46) rfl _ 10 rfl _ _ (ev_content B2) Try.underlying30 rfl info_value ?_)
                | (go_at_call 12; (with_reducible refine (rword_any _ _ _ HE.content).mono ?_); rintro e w1 ⟨rfl, hb⟩; replace HB := HB.trans (hb.mono HB.size); (try replace HE := HE.below hb); (try replace EV := EV.below hb); (try replace HM := HM.below hb); (try replace B2 := IBox.below B2 hb (IBox.lt B2)); (try replace B6 := IBox.below B6 hb (IBox.lt B6)); (try replace c2_1 := cell_below hb c2_1); (try replace c2_3 := cell_below hb c2_3); (try replace c2_5 := cell_below hb c2_5); clear hb))
          go_ret
          exact ⟨ret_bool (by first | rfl | simp), HB⟩
        · exfalso; unfold memberS at j5; rw [hS, Bool.false_and, if_neg (by decide), ba_toList] at j5; cases j5
      · clear hz hj
        go_enter Try.func5, Try.ntmps5
        go_wp2_with (first
              | (refine wpl_box_at rfl 32 (.tmp 0) rfl _ rfl ?_; intro w1 hw; have hb := hid_grow hw; have B2 := (hid_alloc hw).1; replace HB := HB.trans (hb.mono HB.size); (try replace HE := HE.below hb); (try replace EV := EV.below hb); (try replace HM := HM.below hb); (try replace B6 := IBox.below B6 hb (IBox.lt B6)); clear hb hw; have c2_1 : w1.cell? ⟨_, 1, none⟩ = some (.string ex.ty) := B2.cell 1; have c2_3 : w1.cell? ⟨_, 3, none⟩ = some (.string ex.sender) := B2.cell 3; have c2_5 : w1.cell? ⟨_, 5, none⟩ = some (.string ex.key) := B2.cell 5)
              | (go_at_call 6; (with_reducible refine (up_any _ HM).mono ?_); rintro e w1 ⟨rfl, hb⟩; replace HB := HB.trans (hb.mono HB.size); (try replace HE := HE.below hb); (try replace EV := EV.below hb); (try replace HM := HM.below hb); (try replace B2 := IBox.below B2 hb (IBox.lt B2)); (try replace B6 := IBox.below B6 hb (IBox.lt B6)); (try replace c2_1 := cell_below hb c2_1); (try replace c2_3 := cell_below hb c2_3); (try replace c2_5 := cell_below hb c2_5); clear hb)
              | (refine wpl_load_box rfl 32 (.tmp 2) rfl _ rfl _ _ _ B2 Try.underlying32 rfl info_event ?_)
              | (go_at_call 9; (with_reducible refine (check_any ex l A n c _ HE HM EV HN.out hnb).mono ?_); rintro e w1 ⟨rfl, hb⟩; replace HB := HB.trans (hb.mono HB.size); (try replace HE := HE.below hb); (try replace EV := EV.below hb); (try replace HM := HM.below hb); (try replace B2 := IBox.below B2 hb (IBox.lt B2)); (try replace B6 := IBox.below B6 hb (IBox.lt B6)); (try replace c2_1 := cell_below hb c2_1); (try replace c2_3 := cell_below hb c2_3); (try replace c2_5 := cell_below hb c2_5); clear hb)
              | (go_at_call 11; (with_reducible refine (standsB_any l A n c _ _ _ EV HN.out hnb).mono ?_); rintro e w1 ⟨rfl, hb⟩; replace HB := HB.trans (hb.mono HB.size); (try replace HE := HE.below hb); (try replace EV := EV.below hb); (try replace HM := HM.below hb); (try replace B2 := IBox.below B2 hb (IBox.lt B2)); (try replace B6 := IBox.below B6 hb (IBox.lt B6)); (try replace c2_1 := cell_below hb c2_1); (try replace c2_3 := cell_below hb c2_3); (try replace c2_5 := cell_below hb c2_5); clear hb)
              | (refine wpl_newbox 6 rfl rfl 32 rfl rfl (.tmp 24) rfl _ zeroE _ rfl rfl info_event rfl (ev_one _) ?_; intro w1 hw; have hb := hid_grow hw; have B6 := (hid_alloc hw).1; replace HB := HB.trans (hb.mono HB.size); (try replace HE := HE.below hb); (try replace EV := EV.below hb); (try replace HM := HM.below hb); (try replace B2 := IBox.below B2 hb (IBox.lt B2)); (try replace c2_1 := cell_below hb c2_1); (try replace c2_3 := cell_below hb c2_3); (try replace c2_5 := cell_below hb c2_5); clear hb hw)
              | (refine wpl_load_arr rfl 30 (.tmp 27) rfl _ 10 rfl _ _ (ev_content B6) Try.underlying30 rfl info_value ?_)
              | (go_at_call 12; (with_reducible refine (rword_any _ _ _ (stands_is EV _ _).content).mono ?_); rintro e w1 ⟨rfl, hb⟩; replace HB := HB.trans (hb.mono HB.size); (try replace HE := HE.below hb); (try replace EV := EV.below hb); (try replace HM := HM.below hb); (try replace B2 := IBox.below B2 hb (IBox.lt B2)); (try replace B6 := IBox.below B6 hb (IBox.lt B6)); (try replace c2_1 := cell_below hb c2_1); (try replace c2_3 := cell_below hb c2_3); (try replace c2_5 := cell_below hb c2_5); clear hb)
              | (go_at_call 13; (with_reducible refine (isCreate_any _ _ HE).mono ?_); rintro e w1 ⟨rfl, hb⟩; replace HB := HB.trans (hb.mono HB.size); (try replace HE := HE.below hb); (try replace EV := EV.below hb); (try replace HM := HM.below hb); (try replace B2 := IBox.below B2 hb (IBox.lt B2)); (try replace B6 := IBox.below B6 hb (IBox.lt B6)); (try replace c2_1 := cell_below hb c2_1); (try replace c2_3 := cell_below hb c2_3); (try replace c2_5 := cell_below hb c2_5); clear hb)
              | (refine wpl_load_arr rfl 30 (.tmp 46) rfl _ 10 rfl _ _ (ev_content B2) Try.underlying30 rfl info_value ?_)
              | (go_at_call 12; (with_reducible refine (rword_any _ _ _ HE.content).mono ?_); rintro e w1 ⟨rfl, hb⟩; replace HB := HB.trans (hb.mono HB.size); (try replace HE := HE.below hb); (try replace EV := EV.below hb); (try replace HM := HM.below hb); (try replace B2 := IBox.below B2 hb (IBox.lt B2)); (try replace B6 := IBox.below B6 hb (IBox.lt B6)); (try replace c2_1 := cell_below hb c2_1); (try replace c2_3 := cell_below hb c2_3); (try replace c2_5 := cell_below hb c2_5); clear hb))
        go_ret
        exact ⟨ret_bool (by first | rfl | simp), HB⟩
    · cases hP : wordP (standsD l ⟨#[109, 46, 114, 111, 111, 109, 46, 109, 101, 109, 98, 101, 114]⟩ ex.sender).content ⟨#[109, 101, 109, 98, 101, 114, 115, 104, 105, 112]⟩
      · have hj : ((memberS l ex.sender).toList == [106, 111, 105, 110]) = false := by unfold memberS; rw [hS, hP, Bool.and_false, if_neg (by decide), ba_toList]; rfl
        cases hC : isCreateB ex
        · obtain ⟨j1, j2, j3⟩ := join_eq hz hj hC
          clear hz hj
          unfold kindOf at j3
          rcases j3 with j3 | ⟨j3, j4, j5⟩
          · go_enter Try.func5, Try.ntmps5
            go_wp2_with (first
                  | (refine wpl_box_at rfl 32 (.tmp 0) rfl _ rfl ?_; intro w1 hw; have hb := hid_grow hw; have B2 := (hid_alloc hw).1; replace HB := HB.trans (hb.mono HB.size); (try replace HE := HE.below hb); (try replace EV := EV.below hb); (try replace HM := HM.below hb); (try replace B6 := IBox.below B6 hb (IBox.lt B6)); clear hb hw; have c2_1 : w1.cell? ⟨_, 1, none⟩ = some (.string ex.ty) := B2.cell 1; have c2_3 : w1.cell? ⟨_, 3, none⟩ = some (.string ex.sender) := B2.cell 3; have c2_5 : w1.cell? ⟨_, 5, none⟩ = some (.string ex.key) := B2.cell 5)
                  | (go_at_call 6; (with_reducible refine (up_any _ HM).mono ?_); rintro e w1 ⟨rfl, hb⟩; replace HB := HB.trans (hb.mono HB.size); (try replace HE := HE.below hb); (try replace EV := EV.below hb); (try replace HM := HM.below hb); (try replace B2 := IBox.below B2 hb (IBox.lt B2)); (try replace B6 := IBox.below B6 hb (IBox.lt B6)); (try replace c2_1 := cell_below hb c2_1); (try replace c2_3 := cell_below hb c2_3); (try replace c2_5 := cell_below hb c2_5); clear hb)
                  | (refine wpl_load_box rfl 32 (.tmp 2) rfl _ rfl _ _ _ B2 Try.underlying32 rfl info_event ?_)
                  | (go_at_call 9; (with_reducible refine (check_any ex l A n c _ HE HM EV HN.out hnb).mono ?_); rintro e w1 ⟨rfl, hb⟩; replace HB := HB.trans (hb.mono HB.size); (try replace HE := HE.below hb); (try replace EV := EV.below hb); (try replace HM := HM.below hb); (try replace B2 := IBox.below B2 hb (IBox.lt B2)); (try replace B6 := IBox.below B6 hb (IBox.lt B6)); (try replace c2_1 := cell_below hb c2_1); (try replace c2_3 := cell_below hb c2_3); (try replace c2_5 := cell_below hb c2_5); clear hb)
                  | (go_at_call 11; (with_reducible refine (standsB_any l A n c _ _ _ EV HN.out hnb).mono ?_); rintro e w1 ⟨rfl, hb⟩; replace HB := HB.trans (hb.mono HB.size); (try replace HE := HE.below hb); (try replace EV := EV.below hb); (try replace HM := HM.below hb); (try replace B2 := IBox.below B2 hb (IBox.lt B2)); (try replace B6 := IBox.below B6 hb (IBox.lt B6)); (try replace c2_1 := cell_below hb c2_1); (try replace c2_3 := cell_below hb c2_3); (try replace c2_5 := cell_below hb c2_5); clear hb)
                  | (refine wpl_newbox 6 rfl rfl 32 rfl rfl (.tmp 24) rfl _ zeroE _ rfl rfl info_event rfl (ev_one _) ?_; intro w1 hw; have hb := hid_grow hw; have B6 := (hid_alloc hw).1; replace HB := HB.trans (hb.mono HB.size); (try replace HE := HE.below hb); (try replace EV := EV.below hb); (try replace HM := HM.below hb); (try replace B2 := IBox.below B2 hb (IBox.lt B2)); (try replace c2_1 := cell_below hb c2_1); (try replace c2_3 := cell_below hb c2_3); (try replace c2_5 := cell_below hb c2_5); clear hb hw)
                  | (refine wpl_load_arr rfl 30 (.tmp 27) rfl _ 10 rfl _ _ (ev_content B6) Try.underlying30 rfl info_value ?_)
                  | (go_at_call 12; (with_reducible refine (rword_any _ _ _ (stands_is EV _ _).content).mono ?_); rintro e w1 ⟨rfl, hb⟩; replace HB := HB.trans (hb.mono HB.size); (try replace HE := HE.below hb); (try replace EV := EV.below hb); (try replace HM := HM.below hb); (try replace B2 := IBox.below B2 hb (IBox.lt B2)); (try replace B6 := IBox.below B6 hb (IBox.lt B6)); (try replace c2_1 := cell_below hb c2_1); (try replace c2_3 := cell_below hb c2_3); (try replace c2_5 := cell_below hb c2_5); clear hb)
                  | (go_at_call 13; (with_reducible refine (isCreate_any _ _ HE).mono ?_); rintro e w1 ⟨rfl, hb⟩; replace HB := HB.trans (hb.mono HB.size); (try replace HE := HE.below hb); (try replace EV := EV.below hb); (try replace HM := HM.below hb); (try replace B2 := IBox.below B2 hb (IBox.lt B2)); (try replace B6 := IBox.below B6 hb (IBox.lt B6)); (try replace c2_1 := cell_below hb c2_1); (try replace c2_3 := cell_below hb c2_3); (try replace c2_5 := cell_below hb c2_5); clear hb)
                  | (refine wpl_load_arr rfl 30 (.tmp 46) rfl _ 10 rfl _ _ (ev_content B2) Try.underlying30 rfl info_value ?_)
                  | (go_at_call 12; (with_reducible refine (rword_any _ _ _ HE.content).mono ?_); rintro e w1 ⟨rfl, hb⟩; replace HB := HB.trans (hb.mono HB.size); (try replace HE := HE.below hb); (try replace EV := EV.below hb); (try replace HM := HM.below hb); (try replace B2 := IBox.below B2 hb (IBox.lt B2)); (try replace B6 := IBox.below B6 hb (IBox.lt B6)); (try replace c2_1 := cell_below hb c2_1); (try replace c2_3 := cell_below hb c2_3); (try replace c2_5 := cell_below hb c2_5); clear hb))
            go_ret
            exact ⟨ret_bool (by first | rfl | simp), HB⟩
          · exfalso; unfold memberS at j5; rw [hS, hP, Bool.and_false, if_neg (by decide), ba_toList] at j5; cases j5
        · clear hz hj
          go_enter Try.func5, Try.ntmps5
          go_wp2_with (first
                | (refine wpl_box_at rfl 32 (.tmp 0) rfl _ rfl ?_; intro w1 hw; have hb := hid_grow hw; have B2 := (hid_alloc hw).1; replace HB := HB.trans (hb.mono HB.size); (try replace HE := HE.below hb); (try replace EV := EV.below hb); (try replace HM := HM.below hb); (try replace B6 := IBox.below B6 hb (IBox.lt B6)); clear hb hw; have c2_1 : w1.cell? ⟨_, 1, none⟩ = some (.string ex.ty) := B2.cell 1; have c2_3 : w1.cell? ⟨_, 3, none⟩ = some (.string ex.sender) := B2.cell 3; have c2_5 : w1.cell? ⟨_, 5, none⟩ = some (.string ex.key) := B2.cell 5)
                | (go_at_call 6; (with_reducible refine (up_any _ HM).mono ?_); rintro e w1 ⟨rfl, hb⟩; replace HB := HB.trans (hb.mono HB.size); (try replace HE := HE.below hb); (try replace EV := EV.below hb); (try replace HM := HM.below hb); (try replace B2 := IBox.below B2 hb (IBox.lt B2)); (try replace B6 := IBox.below B6 hb (IBox.lt B6)); (try replace c2_1 := cell_below hb c2_1); (try replace c2_3 := cell_below hb c2_3); (try replace c2_5 := cell_below hb c2_5); clear hb)
                | (refine wpl_load_box rfl 32 (.tmp 2) rfl _ rfl _ _ _ B2 Try.underlying32 rfl info_event ?_)
                | (go_at_call 9; (with_reducible refine (check_any ex l A n c _ HE HM EV HN.out hnb).mono ?_); rintro e w1 ⟨rfl, hb⟩; replace HB := HB.trans (hb.mono HB.size); (try replace HE := HE.below hb); (try replace EV := EV.below hb); (try replace HM := HM.below hb); (try replace B2 := IBox.below B2 hb (IBox.lt B2)); (try replace B6 := IBox.below B6 hb (IBox.lt B6)); (try replace c2_1 := cell_below hb c2_1); (try replace c2_3 := cell_below hb c2_3); (try replace c2_5 := cell_below hb c2_5); clear hb)
                | (go_at_call 11; (with_reducible refine (standsB_any l A n c _ _ _ EV HN.out hnb).mono ?_); rintro e w1 ⟨rfl, hb⟩; replace HB := HB.trans (hb.mono HB.size); (try replace HE := HE.below hb); (try replace EV := EV.below hb); (try replace HM := HM.below hb); (try replace B2 := IBox.below B2 hb (IBox.lt B2)); (try replace B6 := IBox.below B6 hb (IBox.lt B6)); (try replace c2_1 := cell_below hb c2_1); (try replace c2_3 := cell_below hb c2_3); (try replace c2_5 := cell_below hb c2_5); clear hb)
                | (refine wpl_newbox 6 rfl rfl 32 rfl rfl (.tmp 24) rfl _ zeroE _ rfl rfl info_event rfl (ev_one _) ?_; intro w1 hw; have hb := hid_grow hw; have B6 := (hid_alloc hw).1; replace HB := HB.trans (hb.mono HB.size); (try replace HE := HE.below hb); (try replace EV := EV.below hb); (try replace HM := HM.below hb); (try replace B2 := IBox.below B2 hb (IBox.lt B2)); (try replace c2_1 := cell_below hb c2_1); (try replace c2_3 := cell_below hb c2_3); (try replace c2_5 := cell_below hb c2_5); clear hb hw)
                | (refine wpl_load_arr rfl 30 (.tmp 27) rfl _ 10 rfl _ _ (ev_content B6) Try.underlying30 rfl info_value ?_)
                | (go_at_call 12; (with_reducible refine (rword_any _ _ _ (stands_is EV _ _).content).mono ?_); rintro e w1 ⟨rfl, hb⟩; replace HB := HB.trans (hb.mono HB.size); (try replace HE := HE.below hb); (try replace EV := EV.below hb); (try replace HM := HM.below hb); (try replace B2 := IBox.below B2 hb (IBox.lt B2)); (try replace B6 := IBox.below B6 hb (IBox.lt B6)); (try replace c2_1 := cell_below hb c2_1); (try replace c2_3 := cell_below hb c2_3); (try replace c2_5 := cell_below hb c2_5); clear hb)
                | (go_at_call 13; (with_reducible refine (isCreate_any _ _ HE).mono ?_); rintro e w1 ⟨rfl, hb⟩; replace HB := HB.trans (hb.mono HB.size); (try replace HE := HE.below hb); (try replace EV := EV.below hb); (try replace HM := HM.below hb); (try replace B2 := IBox.below B2 hb (IBox.lt B2)); (try replace B6 := IBox.below B6 hb (IBox.lt B6)); (try replace c2_1 := cell_below hb c2_1); (try replace c2_3 := cell_below hb c2_3); (try replace c2_5 := cell_below hb c2_5); clear hb)
                | (refine wpl_load_arr rfl 30 (.tmp 46) rfl _ 10 rfl _ _ (ev_content B2) Try.underlying30 rfl info_value ?_)
                | (go_at_call 12; (with_reducible refine (rword_any _ _ _ HE.content).mono ?_); rintro e w1 ⟨rfl, hb⟩; replace HB := HB.trans (hb.mono HB.size); (try replace HE := HE.below hb); (try replace EV := EV.below hb); (try replace HM := HM.below hb); (try replace B2 := IBox.below B2 hb (IBox.lt B2)); (try replace B6 := IBox.below B6 hb (IBox.lt B6)); (try replace c2_1 := cell_below hb c2_1); (try replace c2_3 := cell_below hb c2_3); (try replace c2_5 := cell_below hb c2_5); clear hb))
          go_ret
          exact ⟨ret_bool (by first | rfl | simp), HB⟩
      · cases hJ : ((wordT (standsD l ⟨#[109, 46, 114, 111, 111, 109, 46, 109, 101, 109, 98, 101, 114]⟩ ex.sender).content ⟨#[109, 101, 109, 98, 101, 114, 115, 104, 105, 112]⟩).toList == [106, 111, 105, 110])
        · have hms : memberS l ex.sender = wordT (standsD l ⟨#[109, 46, 114, 111, 111, 109, 46, 109, 101, 109, 98, 101, 114]⟩ ex.sender).content ⟨#[109, 101, 109, 98, 101, 114, 115, 104, 105, 112]⟩ := by unfold memberS; rw [hS, hP]; rfl
          have hj : ((memberS l ex.sender).toList == [106, 111, 105, 110]) = false := by rw [hms]; exact hJ
          cases hC : isCreateB ex
          · obtain ⟨j1, j2, j3⟩ := join_eq hz hj hC
            clear hz hj
            unfold kindOf at j3
            rcases j3 with j3 | ⟨j3, j4, j5⟩
            · go_enter Try.func5, Try.ntmps5
              go_wp2_with (first
                    | (refine wpl_box_at rfl 32 (.tmp 0) rfl _ rfl ?_; intro w1 hw; have hb := hid_grow hw; have B2 := (hid_alloc hw).1; replace HB := HB.trans (hb.mono HB.size); (try replace HE := HE.below hb); (try replace EV := EV.below hb); (try replace HM := HM.below hb); (try replace B6 := IBox.below B6 hb (IBox.lt B6)); clear hb hw; have c2_1 : w1.cell? ⟨_, 1, none⟩ = some (.string ex.ty) := B2.cell 1; have c2_3 : w1.cell? ⟨_, 3, none⟩ = some (.string ex.sender) := B2.cell 3; have c2_5 : w1.cell? ⟨_, 5, none⟩ = some (.string ex.key) := B2.cell 5)
                    | (go_at_call 6; (with_reducible refine (up_any _ HM).mono ?_); rintro e w1 ⟨rfl, hb⟩; replace HB := HB.trans (hb.mono HB.size); (try replace HE := HE.below hb); (try replace EV := EV.below hb); (try replace HM := HM.below hb); (try replace B2 := IBox.below B2 hb (IBox.lt B2)); (try replace B6 := IBox.below B6 hb (IBox.lt B6)); (try replace c2_1 := cell_below hb c2_1); (try replace c2_3 := cell_below hb c2_3); (try replace c2_5 := cell_below hb c2_5); clear hb)
                    | (refine wpl_load_box rfl 32 (.tmp 2) rfl _ rfl _ _ _ B2 Try.underlying32 rfl info_event ?_)
                    | (go_at_call 9; (with_reducible refine (check_any ex l A n c _ HE HM EV HN.out hnb).mono ?_); rintro e w1 ⟨rfl, hb⟩; replace HB := HB.trans (hb.mono HB.size); (try replace HE := HE.below hb); (try replace EV := EV.below hb); (try replace HM := HM.below hb); (try replace B2 := IBox.below B2 hb (IBox.lt B2)); (try replace B6 := IBox.below B6 hb (IBox.lt B6)); (try replace c2_1 := cell_below hb c2_1); (try replace c2_3 := cell_below hb c2_3); (try replace c2_5 := cell_below hb c2_5); clear hb)
                    | (go_at_call 11; (with_reducible refine (standsB_any l A n c _ _ _ EV HN.out hnb).mono ?_); rintro e w1 ⟨rfl, hb⟩; replace HB := HB.trans (hb.mono HB.size); (try replace HE := HE.below hb); (try replace EV := EV.below hb); (try replace HM := HM.below hb); (try replace B2 := IBox.below B2 hb (IBox.lt B2)); (try replace B6 := IBox.below B6 hb (IBox.lt B6)); (try replace c2_1 := cell_below hb c2_1); (try replace c2_3 := cell_below hb c2_3); (try replace c2_5 := cell_below hb c2_5); clear hb)
                    | (refine wpl_newbox 6 rfl rfl 32 rfl rfl (.tmp 24) rfl _ zeroE _ rfl rfl info_event rfl (ev_one _) ?_; intro w1 hw; have hb := hid_grow hw; have B6 := (hid_alloc hw).1; replace HB := HB.trans (hb.mono HB.size); (try replace HE := HE.below hb); (try replace EV := EV.below hb); (try replace HM := HM.below hb); (try replace B2 := IBox.below B2 hb (IBox.lt B2)); (try replace c2_1 := cell_below hb c2_1); (try replace c2_3 := cell_below hb c2_3); (try replace c2_5 := cell_below hb c2_5); clear hb hw)
                    | (refine wpl_load_arr rfl 30 (.tmp 27) rfl _ 10 rfl _ _ (ev_content B6) Try.underlying30 rfl info_value ?_)
                    | (go_at_call 12; (with_reducible refine (rword_any _ _ _ (stands_is EV _ _).content).mono ?_); rintro e w1 ⟨rfl, hb⟩; replace HB := HB.trans (hb.mono HB.size); (try replace HE := HE.below hb); (try replace EV := EV.below hb); (try replace HM := HM.below hb); (try replace B2 := IBox.below B2 hb (IBox.lt B2)); (try replace B6 := IBox.below B6 hb (IBox.lt B6)); (try replace c2_1 := cell_below hb c2_1); (try replace c2_3 := cell_below hb c2_3); (try replace c2_5 := cell_below hb c2_5); clear hb)
                    | (go_at_call 13; (with_reducible refine (isCreate_any _ _ HE).mono ?_); rintro e w1 ⟨rfl, hb⟩; replace HB := HB.trans (hb.mono HB.size); (try replace HE := HE.below hb); (try replace EV := EV.below hb); (try replace HM := HM.below hb); (try replace B2 := IBox.below B2 hb (IBox.lt B2)); (try replace B6 := IBox.below B6 hb (IBox.lt B6)); (try replace c2_1 := cell_below hb c2_1); (try replace c2_3 := cell_below hb c2_3); (try replace c2_5 := cell_below hb c2_5); clear hb)
                    | (refine wpl_load_arr rfl 30 (.tmp 46) rfl _ 10 rfl _ _ (ev_content B2) Try.underlying30 rfl info_value ?_)
                    | (go_at_call 12; (with_reducible refine (rword_any _ _ _ HE.content).mono ?_); rintro e w1 ⟨rfl, hb⟩; replace HB := HB.trans (hb.mono HB.size); (try replace HE := HE.below hb); (try replace EV := EV.below hb); (try replace HM := HM.below hb); (try replace B2 := IBox.below B2 hb (IBox.lt B2)); (try replace B6 := IBox.below B6 hb (IBox.lt B6)); (try replace c2_1 := cell_below hb c2_1); (try replace c2_3 := cell_below hb c2_3); (try replace c2_5 := cell_below hb c2_5); clear hb))
              go_ret
              exact ⟨ret_bool (by first | rfl | simp), HB⟩
            · rw [hms] at j5
              clear hms
              go_enter Try.func5, Try.ntmps5
              go_wp2_with (first
                    | (refine wpl_box_at rfl 32 (.tmp 0) rfl _ rfl ?_; intro w1 hw; have hb := hid_grow hw; have B2 := (hid_alloc hw).1; replace HB := HB.trans (hb.mono HB.size); (try replace HE := HE.below hb); (try replace EV := EV.below hb); (try replace HM := HM.below hb); (try replace B6 := IBox.below B6 hb (IBox.lt B6)); clear hb hw; have c2_1 : w1.cell? ⟨_, 1, none⟩ = some (.string ex.ty) := B2.cell 1; have c2_3 : w1.cell? ⟨_, 3, none⟩ = some (.string ex.sender) := B2.cell 3; have c2_5 : w1.cell? ⟨_, 5, none⟩ = some (.string ex.key) := B2.cell 5)
                    | (go_at_call 6; (with_reducible refine (up_any _ HM).mono ?_); rintro e w1 ⟨rfl, hb⟩; replace HB := HB.trans (hb.mono HB.size); (try replace HE := HE.below hb); (try replace EV := EV.below hb); (try replace HM := HM.below hb); (try replace B2 := IBox.below B2 hb (IBox.lt B2)); (try replace B6 := IBox.below B6 hb (IBox.lt B6)); (try replace c2_1 := cell_below hb c2_1); (try replace c2_3 := cell_below hb c2_3); (try replace c2_5 := cell_below hb c2_5); clear hb)
                    | (refine wpl_load_box rfl 32 (.tmp 2) rfl _ rfl _ _ _ B2 Try.underlying32 rfl info_event ?_)
                    | (go_at_call 9; (with_reducible refine (check_any ex l A n c _ HE HM EV HN.out hnb).mono ?_); rintro e w1 ⟨rfl, hb⟩; replace HB := HB.trans (hb.mono HB.size); (try replace HE := HE.below hb); (try replace EV := EV.below hb); (try replace HM := HM.below hb); (try replace B2 := IBox.below B2 hb (IBox.lt B2)); (try replace B6 := IBox.below B6 hb (IBox.lt B6)); (try replace c2_1 := cell_below hb c2_1); (try replace c2_3 := cell_below hb c2_3); (try replace c2_5 := cell_below hb c2_5); clear hb)
                    | (go_at_call 11; (with_reducible refine (standsB_any l A n c _ _ _ EV HN.out hnb).mono ?_); rintro e w1 ⟨rfl, hb⟩; replace HB := HB.trans (hb.mono HB.size); (try replace HE := HE.below hb); (try replace EV := EV.below hb); (try replace HM := HM.below hb); (try replace B2 := IBox.below B2 hb (IBox.lt B2)); (try replace B6 := IBox.below B6 hb (IBox.lt B6)); (try replace c2_1 := cell_below hb c2_1); (try replace c2_3 := cell_below hb c2_3); (try replace c2_5 := cell_below hb c2_5); clear hb)
                    | (refine wpl_newbox 6 rfl rfl 32 rfl rfl (.tmp 24) rfl _ zeroE _ rfl rfl info_event rfl (ev_one _) ?_; intro w1 hw; have hb := hid_grow hw; have B6 := (hid_alloc hw).1; replace HB := HB.trans (hb.mono HB.size); (try replace HE := HE.below hb); (try replace EV := EV.below hb); (try replace HM := HM.below hb); (try replace B2 := IBox.below B2 hb (IBox.lt B2)); (try replace c2_1 := cell_below hb c2_1); (try replace c2_3 := cell_below hb c2_3); (try replace c2_5 := cell_below hb c2_5); clear hb hw)
                    | (refine wpl_load_arr rfl 30 (.tmp 27) rfl _ 10 rfl _ _ (ev_content B6) Try.underlying30 rfl info_value ?_)
                    | (go_at_call 12; (with_reducible refine (rword_any _ _ _ (stands_is EV _ _).content).mono ?_); rintro e w1 ⟨rfl, hb⟩; replace HB := HB.trans (hb.mono HB.size); (try replace HE := HE.below hb); (try replace EV := EV.below hb); (try replace HM := HM.below hb); (try replace B2 := IBox.below B2 hb (IBox.lt B2)); (try replace B6 := IBox.below B6 hb (IBox.lt B6)); (try replace c2_1 := cell_below hb c2_1); (try replace c2_3 := cell_below hb c2_3); (try replace c2_5 := cell_below hb c2_5); clear hb)
                    | (go_at_call 13; (with_reducible refine (isCreate_any _ _ HE).mono ?_); rintro e w1 ⟨rfl, hb⟩; replace HB := HB.trans (hb.mono HB.size); (try replace HE := HE.below hb); (try replace EV := EV.below hb); (try replace HM := HM.below hb); (try replace B2 := IBox.below B2 hb (IBox.lt B2)); (try replace B6 := IBox.below B6 hb (IBox.lt B6)); (try replace c2_1 := cell_below hb c2_1); (try replace c2_3 := cell_below hb c2_3); (try replace c2_5 := cell_below hb c2_5); clear hb)
                    | (refine wpl_load_arr rfl 30 (.tmp 46) rfl _ 10 rfl _ _ (ev_content B2) Try.underlying30 rfl info_value ?_)
                    | (go_at_call 12; (with_reducible refine (rword_any _ _ _ HE.content).mono ?_); rintro e w1 ⟨rfl, hb⟩; replace HB := HB.trans (hb.mono HB.size); (try replace HE := HE.below hb); (try replace EV := EV.below hb); (try replace HM := HM.below hb); (try replace B2 := IBox.below B2 hb (IBox.lt B2)); (try replace B6 := IBox.below B6 hb (IBox.lt B6)); (try replace c2_1 := cell_below hb c2_1); (try replace c2_3 := cell_below hb c2_3); (try replace c2_5 := cell_below hb c2_5); clear hb))
              go_ret
              exact ⟨ret_bool (by first | rfl | simp), HB⟩
          · clear hz hj
            go_enter Try.func5, Try.ntmps5
            go_wp2_with (first
                  | (refine wpl_box_at rfl 32 (.tmp 0) rfl _ rfl ?_; intro w1 hw; have hb := hid_grow hw; have B2 := (hid_alloc hw).1; replace HB := HB.trans (hb.mono HB.size); (try replace HE := HE.below hb); (try replace EV := EV.below hb); (try replace HM := HM.below hb); (try replace B6 := IBox.below B6 hb (IBox.lt B6)); clear hb hw; have c2_1 : w1.cell? ⟨_, 1, none⟩ = some (.string ex.ty) := B2.cell 1; have c2_3 : w1.cell? ⟨_, 3, none⟩ = some (.string ex.sender) := B2.cell 3; have c2_5 : w1.cell? ⟨_, 5, none⟩ = some (.string ex.key) := B2.cell 5)
                  | (go_at_call 6; (with_reducible refine (up_any _ HM).mono ?_); rintro e w1 ⟨rfl, hb⟩; replace HB := HB.trans (hb.mono HB.size); (try replace HE := HE.below hb); (try replace EV := EV.below hb); (try replace HM := HM.below hb); (try replace B2 := IBox.below B2 hb (IBox.lt B2)); (try replace B6 := IBox.below B6 hb (IBox.lt B6)); (try replace c2_1 := cell_below hb c2_1); (try replace c2_3 := cell_below hb c2_3); (try replace c2_5 := cell_below hb c2_5); clear hb)
                  | (refine wpl_load_box rfl 32 (.tmp 2) rfl _ rfl _ _ _ B2 Try.underlying32 rfl info_event ?_)
                  | (go_at_call 9; (with_reducible refine (check_any ex l A n c _ HE HM EV HN.out hnb).mono ?_); rintro e w1 ⟨rfl, hb⟩; replace HB := HB.trans (hb.mono HB.size); (try replace HE := HE.below hb); (try replace EV := EV.below hb); (try replace HM := HM.below hb); (try replace B2 := IBox.below B2 hb (IBox.lt B2)); (try replace B6 := IBox.below B6 hb (IBox.lt B6)); (try replace c2_1 := cell_below hb c2_1); (try replace c2_3 := cell_below hb c2_3); (try replace c2_5 := cell_below hb c2_5); clear hb)
                  | (go_at_call 11; (with_reducible refine (standsB_any l A n c _ _ _ EV HN.out hnb).mono ?_); rintro e w1 ⟨rfl, hb⟩; replace HB := HB.trans (hb.mono HB.size); (try replace HE := HE.below hb); (try replace EV := EV.below hb); (try replace HM := HM.below hb); (try replace B2 := IBox.below B2 hb (IBox.lt B2)); (try replace B6 := IBox.below B6 hb (IBox.lt B6)); (try replace c2_1 := cell_below hb c2_1); (try replace c2_3 := cell_below hb c2_3); (try replace c2_5 := cell_below hb c2_5); clear hb)
                  | (refine wpl_newbox 6 rfl rfl 32 rfl rfl (.tmp 24) rfl _ zeroE _ rfl rfl info_event rfl (ev_one _) ?_; intro w1 hw; have hb := hid_grow hw; have B6 := (hid_alloc hw).1; replace HB := HB.trans (hb.mono HB.size); (try replace HE := HE.below hb); (try replace EV := EV.below hb); (try replace HM := HM.below hb); (try replace B2 := IBox.below B2 hb (IBox.lt B2)); (try replace c2_1 := cell_below hb c2_1); (try replace c2_3 := cell_below hb c2_3); (try replace c2_5 := cell_below hb c2_5); clear hb hw)
                  | (refine wpl_load_arr rfl 30 (.tmp 27) rfl _ 10 rfl _ _ (ev_content B6) Try.underlying30 rfl info_value ?_)
                  | (go_at_call 12; (with_reducible refine (rword_any _ _ _ (stands_is EV _ _).content).mono ?_); rintro e w1 ⟨rfl, hb⟩; replace HB := HB.trans (hb.mono HB.size); (try replace HE := HE.below hb); (try replace EV := EV.below hb); (try replace HM := HM.below hb); (try replace B2 := IBox.below B2 hb (IBox.lt B2)); (try replace B6 := IBox.below B6 hb (IBox.lt B6)); (try replace c2_1 := cell_below hb c2_1); (try replace c2_3 := cell_below hb c2_3); (try replace c2_5 := cell_below hb c2_5); clear hb)
                  | (go_at_call 13; (with_reducible refine (isCreate_any _ _ HE).mono ?_); rintro e w1 ⟨rfl, hb⟩; replace HB := HB.trans (hb.mono HB.size); (try replace HE := HE.below hb); (try replace EV := EV.below hb); (try replace HM := HM.below hb); (try replace B2 := IBox.below B2 hb (IBox.lt B2)); (try replace B6 := IBox.below B6 hb (IBox.lt B6)); (try replace c2_1 := cell_below hb c2_1); (try replace c2_3 := cell_below hb c2_3); (try replace c2_5 := cell_below hb c2_5); clear hb)
                  | (refine wpl_load_arr rfl 30 (.tmp 46) rfl _ 10 rfl _ _ (ev_content B2) Try.underlying30 rfl info_value ?_)
                  | (go_at_call 12; (with_reducible refine (rword_any _ _ _ HE.content).mono ?_); rintro e w1 ⟨rfl, hb⟩; replace HB := HB.trans (hb.mono HB.size); (try replace HE := HE.below hb); (try replace EV := EV.below hb); (try replace HM := HM.below hb); (try replace B2 := IBox.below B2 hb (IBox.lt B2)); (try replace B6 := IBox.below B6 hb (IBox.lt B6)); (try replace c2_1 := cell_below hb c2_1); (try replace c2_3 := cell_below hb c2_3); (try replace c2_5 := cell_below hb c2_5); clear hb))
            go_ret
            exact ⟨ret_bool (by first | rfl | simp), HB⟩
        · clear hzc
          go_enter Try.func5, Try.ntmps5
          go_wp2_with (first
                | (refine wpl_box_at rfl 32 (.tmp 0) rfl _ rfl ?_; intro w1 hw; have hb := hid_grow hw; have B2 := (hid_alloc hw).1; replace HB := HB.trans (hb.mono HB.size); (try replace HE := HE.below hb); (try replace EV := EV.below hb); (try replace HM := HM.below hb); (try replace B6 := IBox.below B6 hb (IBox.lt B6)); clear hb hw; have c2_1 : w1.cell? ⟨_, 1, none⟩ = some (.string ex.ty) := B2.cell 1; have c2_3 : w1.cell? ⟨_, 3, none⟩ = some (.string ex.sender) := B2.cell 3; have c2_5 : w1.cell? ⟨_, 5, none⟩ = some (.string ex.key) := B2.cell 5)
                | (go_at_call 6; (with_reducible refine (up_any _ HM).mono ?_); rintro e w1 ⟨rfl, hb⟩; replace HB := HB.trans (hb.mono HB.size); (try replace HE := HE.below hb); (try replace EV := EV.below hb); (try replace HM := HM.below hb); (try replace B2 := IBox.below B2 hb (IBox.lt B2)); (try replace B6 := IBox.below B6 hb (IBox.lt B6)); (try replace c2_1 := cell_below hb c2_1); (try replace c2_3 := cell_below hb c2_3); (try replace c2_5 := cell_below hb c2_5); clear hb)
                | (refine wpl_load_box rfl 32 (.tmp 2) rfl _ rfl _ _ _ B2 Try.underlying32 rfl info_event ?_)
                | (go_at_call 9; (with_reducible refine (check_any ex l A n c _ HE HM EV HN.out hnb).mono ?_); rintro e w1 ⟨rfl, hb⟩; replace HB := HB.trans (hb.mono HB.size); (try replace HE := HE.below hb); (try replace EV := EV.below hb); (try replace HM := HM.below hb); (try replace B2 := IBox.below B2 hb (IBox.lt B2)); (try replace B6 := IBox.below B6 hb (IBox.lt B6)); (try replace c2_1 := cell_below hb c2_1); (try replace c2_3 := cell_below hb c2_3); (try replace c2_5 := cell_below hb c2_5); clear hb)
                | (go_at_call 11; (with_reducible refine (standsB_any l A n c _ _ _ EV HN.out hnb).mono ?_); rintro e w1 ⟨rfl, hb⟩; replace HB := HB.trans (hb.mono HB.size); (try replace HE := HE.below hb); (try replace EV := EV.below hb); (try replace HM := HM.below hb); (try replace B2 := IBox.below B2 hb (IBox.lt B2)); (try replace B6 := IBox.below B6 hb (IBox.lt B6)); (try replace c2_1 := cell_below hb c2_1); (try replace c2_3 := cell_below hb c2_3); (try replace c2_5 := cell_below hb c2_5); clear hb)
                | (refine wpl_newbox 6 rfl rfl 32 rfl rfl (.tmp 24) rfl _ zeroE _ rfl rfl info_event rfl (ev_one _) ?_; intro w1 hw; have hb := hid_grow hw; have B6 := (hid_alloc hw).1; replace HB := HB.trans (hb.mono HB.size); (try replace HE := HE.below hb); (try replace EV := EV.below hb); (try replace HM := HM.below hb); (try replace B2 := IBox.below B2 hb (IBox.lt B2)); (try replace c2_1 := cell_below hb c2_1); (try replace c2_3 := cell_below hb c2_3); (try replace c2_5 := cell_below hb c2_5); clear hb hw)
                | (refine wpl_load_arr rfl 30 (.tmp 27) rfl _ 10 rfl _ _ (ev_content B6) Try.underlying30 rfl info_value ?_)
                | (go_at_call 12; (with_reducible refine (rword_any _ _ _ (stands_is EV _ _).content).mono ?_); rintro e w1 ⟨rfl, hb⟩; replace HB := HB.trans (hb.mono HB.size); (try replace HE := HE.below hb); (try replace EV := EV.below hb); (try replace HM := HM.below hb); (try replace B2 := IBox.below B2 hb (IBox.lt B2)); (try replace B6 := IBox.below B6 hb (IBox.lt B6)); (try replace c2_1 := cell_below hb c2_1); (try replace c2_3 := cell_below hb c2_3); (try replace c2_5 := cell_below hb c2_5); clear hb)
                | (go_at_call 13; (with_reducible refine (isCreate_any _ _ HE).mono ?_); rintro e w1 ⟨rfl, hb⟩; replace HB := HB.trans (hb.mono HB.size); (try replace HE := HE.below hb); (try replace EV := EV.below hb); (try replace HM := HM.below hb); (try replace B2 := IBox.below B2 hb (IBox.lt B2)); (try replace B6 := IBox.below B6 hb (IBox.lt B6)); (try replace c2_1 := cell_below hb c2_1); (try replace c2_3 := cell_below hb c2_3); (try replace c2_5 := cell_below hb c2_5); clear hb)
                | (refine wpl_load_arr rfl 30 (.tmp 46) rfl _ 10 rfl _ _ (ev_content B2) Try.underlying30 rfl info_value ?_)
                | (go_at_call 12; (with_reducible refine (rword_any _ _ _ HE.content).mono ?_); rintro e w1 ⟨rfl, hb⟩; replace HB := HB.trans (hb.mono HB.size); (try replace HE := HE.below hb); (try replace EV := EV.below hb); (try replace HM := HM.below hb); (try replace B2 := IBox.below B2 hb (IBox.lt B2)); (try replace B6 := IBox.below B6 hb (IBox.lt B6)); (try replace c2_1 := cell_below hb c2_1); (try replace c2_3 := cell_below hb c2_3); (try replace c2_5 := cell_below hb c2_5); clear hb))
          go_ret
          exact ⟨ret_bool (by first | rfl | simp), HB⟩

theorem hasMax_of (W : World) (h : W.ShapedOpen Try.prog) : HasMax W := by
  obtain ⟨m, hm⟩ : ∃ m, W.cell? ⟨0, 0, none⟩ = some (.int .i64 m) := Try.laysM144.s1_3 W h
  refine ⟨⟨m, hm⟩, ?_⟩
  rcases Nat.lt_or_ge 0 W.heap.size with hlt | hge
  · exact hlt
  · exfalso
    have : W.heap[0]? = none := Array.getElem?_eq_none hge
    simp [World.cell?, this] at hm
end Go.Proofs.Ytpmdpfgaafaceaa
