/- Layer 16: a change of membership. -/
import Derived.Test.YtpmdpfgaafaceaaAuthG
namespace Go.Proofs.Ytpmdpfgaafaceaa
open Go.RowKit Go.PlainAid
set_option linter.unusedVariables false
set_option linter.unusedSimpArgs false

def banS (l : List Ev) (ex : Ev) : Int :=
  if ((memberS l ex.sender).toList == [106, 111, 105, 110]) = false then 31
  else if levelS l ex.sender < needS l ⟨#[98, 97, 110]⟩ ∨ levelS l ex.sender ≤ levelS l ex.key then 32 else 0
def kindOf (ex : Ev) : ByteArray := wordT ex.content ⟨#[109, 101, 109, 98, 101, 114, 115, 104, 105, 112]⟩
def memS (l : List Ev) (ex : Ev) : Int :=
  if (ex.hasKey && userB ex.key) = false then 20
  else if ((kindOf ex).toList == [106, 111, 105, 110]) = true then joinS l ex
  else if ((kindOf ex).toList == [105, 110, 118, 105, 116, 101]) = true then inviteS l ex
  else if ((kindOf ex).toList == [108, 101, 97, 118, 101]) = true then leaveS l ex
  else if ((kindOf ex).toList == [98, 97, 110]) = true then banS l ex else 20

set_option maxRecDepth 100000 in
set_option maxHeartbeats 8000000 in
theorem member_any (l : List Ev) (A : Option Addr) (n c : Nat) (ex : Ev) (w : World) (HE : IsEv w ex) (HM : HasMax w) (EV : IsEvs w A 0 l) (hn : n = l.length) (hnb : n ≤ 9223372036854775807) :
    Calls Try.prog 23 #[.agg ex.cells, .slice A n c] w fun e w' => e = .returned (.int .i64 (memS l ex)) ∧ Below w.heap.size w w' := by
  have HN := Lib.hid hn
  clear hn
  have HB := Below.refl w.heap.size w
  cases hk : ((kindOf ex).toList == [98, 97, 110])
  · have hk' : ((wordT ex.content ⟨#[109, 101, 109, 98, 101, 114, 115, 104, 105, 112]⟩).toList == [98, 97, 110]) = false := hk
    go_enter Try.func23, Try.ntmps23
    go_wp2_with (first
        | (refine wpl_box_at rfl 32 (.tmp 0) rfl _ rfl ?_; intro w1 hw; have hb := hid_grow hw; have B2 := (hid_alloc hw).1; replace HB := HB.trans (hb.mono HB.size); (try replace EV := EV.below hb); (try replace HE := HE.below hb); (try replace HM := HM.below hb); clear hb hw; have c2_3 : w1.cell? ⟨_, 3, none⟩ = some (.string ex.sender) := B2.cell 3; have c2_4 : w1.cell? ⟨_, 4, none⟩ = some (.bool ex.hasKey) := B2.cell 4; have c2_5 : w1.cell? ⟨_, 5, none⟩ = some (.string ex.key) := B2.cell 5)
        | (refine wpl_load_arr rfl 30 (.tmp 8) rfl _ 10 rfl _ _ (ev_content B2) Try.underlying30 rfl info_value ?_)
        | (go_at_call 33; (with_reducible refine (aword_any _ _ _ HE.content).mono ?_); rintro e w1 ⟨rfl, hb⟩; replace HB := HB.trans (hb.mono HB.size); (try replace EV := EV.below hb); (try replace HE := HE.below hb); (try replace HM := HM.below hb); (try replace B2 := IBox.below B2 hb (IBox.lt B2)); (try replace c2_4 := cell_below hb c2_4); (try replace c2_5 := cell_below hb c2_5); (try replace c2_3 := cell_below hb c2_3); clear hb)
        | (go_at_call 39; (with_reducible refine (userB_any _ _ HE.key HM).mono ?_); rintro e w1 ⟨rfl, hb⟩; replace HB := HB.trans (hb.mono HB.size); (try replace EV := EV.below hb); (try replace HE := HE.below hb); (try replace HM := HM.below hb); (try replace B2 := IBox.below B2 hb (IBox.lt B2)); (try replace c2_4 := cell_below hb c2_4); (try replace c2_5 := cell_below hb c2_5); (try replace c2_3 := cell_below hb c2_3); clear hb)
        | (refine wpl_load_box rfl 32 (.tmp 2) rfl _ rfl _ _ _ B2 Try.underlying32 rfl info_event ?_)
        | (go_at_call 41; (with_reducible refine (join_any l A n c _ _ HE EV HN.out hnb).mono ?_); rintro e w1 ⟨rfl, hb⟩; replace HB := HB.trans (hb.mono HB.size); (try replace EV := EV.below hb); (try replace HE := HE.below hb); (try replace HM := HM.below hb); (try replace B2 := IBox.below B2 hb (IBox.lt B2)); (try replace c2_4 := cell_below hb c2_4); (try replace c2_5 := cell_below hb c2_5); (try replace c2_3 := cell_below hb c2_3); clear hb)
        | (go_at_call 42; (with_reducible refine (invite_any l A n c _ _ HE EV HN.out hnb).mono ?_); rintro e w1 ⟨rfl, hb⟩; replace HB := HB.trans (hb.mono HB.size); (try replace EV := EV.below hb); (try replace HE := HE.below hb); (try replace HM := HM.below hb); (try replace B2 := IBox.below B2 hb (IBox.lt B2)); (try replace c2_4 := cell_below hb c2_4); (try replace c2_5 := cell_below hb c2_5); (try replace c2_3 := cell_below hb c2_3); clear hb)
        | (go_at_call 43; (with_reducible refine (leave_any l A n c _ _ HE EV HN.out hnb).mono ?_); rintro e w1 ⟨rfl, hb⟩; replace HB := HB.trans (hb.mono HB.size); (try replace EV := EV.below hb); (try replace HE := HE.below hb); (try replace HM := HM.below hb); (try replace B2 := IBox.below B2 hb (IBox.lt B2)); (try replace c2_4 := cell_below hb c2_4); (try replace c2_5 := cell_below hb c2_5); (try replace c2_3 := cell_below hb c2_3); clear hb)
        | (go_at_call 44; (with_reducible refine (amember_any l A n c _ _ EV HN.out hnb).mono ?_); rintro e w1 ⟨rfl, hb⟩; replace HB := HB.trans (hb.mono HB.size); (try replace EV := EV.below hb); (try replace HE := HE.below hb); (try replace HM := HM.below hb); (try replace B2 := IBox.below B2 hb (IBox.lt B2)); (try replace c2_4 := cell_below hb c2_4); (try replace c2_5 := cell_below hb c2_5); (try replace c2_3 := cell_below hb c2_3); clear hb)
        | (go_at_call 17; (with_reducible refine (level_any l A n c _ _ EV HN.out hnb).mono ?_); rintro e w1 ⟨rfl, hb⟩; replace HB := HB.trans (hb.mono HB.size); (try replace EV := EV.below hb); (try replace HE := HE.below hb); (try replace HM := HM.below hb); (try replace B2 := IBox.below B2 hb (IBox.lt B2)); (try replace c2_4 := cell_below hb c2_4); (try replace c2_5 := cell_below hb c2_5); (try replace c2_3 := cell_below hb c2_3); clear hb)
        | (go_at_call 45; (with_reducible refine (need_any l A n c _ _ EV HN.out hnb).mono ?_); rintro e w1 ⟨rfl, hb⟩; replace HB := HB.trans (hb.mono HB.size); (try replace EV := EV.below hb); (try replace HE := HE.below hb); (try replace HM := HM.below hb); (try replace B2 := IBox.below B2 hb (IBox.lt B2)); (try replace c2_4 := cell_below hb c2_4); (try replace c2_5 := cell_below hb c2_5); (try replace c2_3 := cell_below hb c2_3); clear hb))
    all_goals
      go_ret
      exact ⟨ret_int (by unfold memS; first | (simp_all [kindOf]; done) | (simp_all [kindOf]; rfl)), HB⟩
  · have hk' : ((wordT ex.content ⟨#[109, 101, 109, 98, 101, 114, 115, 104, 105, 112]⟩).toList == [98, 97, 110]) = true := hk
    have hkk : (wordT ex.content ⟨#[109, 101, 109, 98, 101, 114, 115, 104, 105, 112]⟩).toList = [98, 97, 110] := by simpa using hk'
    have hj' : ((wordT ex.content ⟨#[109, 101, 109, 98, 101, 114, 115, 104, 105, 112]⟩).toList == [106, 111, 105, 110]) = false := by rw [hkk]; rfl
    have hi' : ((wordT ex.content ⟨#[109, 101, 109, 98, 101, 114, 115, 104, 105, 112]⟩).toList == [105, 110, 118, 105, 116, 101]) = false := by rw [hkk]; rfl
    have hl' : ((wordT ex.content ⟨#[109, 101, 109, 98, 101, 114, 115, 104, 105, 112]⟩).toList == [108, 101, 97, 118, 101]) = false := by rw [hkk]; rfl
    have hms : (ex.hasKey && userB ex.key) = true → memS l ex = banS l ex := by
      intro h
      unfold memS kindOf
      rw [h, hj', hi', hl', hk']
      rfl
    have HMS := Lib.hid hms
    clear hms hkk hk
    by_cases hd : levelS l ex.sender < needS l ⟨#[98, 97, 110]⟩
    · have hd' : decide (levelS l ex.sender < needS l ⟨#[98, 97, 110]⟩) = true := decide_eq_true hd
      go_enter Try.func23, Try.ntmps23
      go_wp2_with (first
        | (refine wpl_box_at rfl 32 (.tmp 0) rfl _ rfl ?_; intro w1 hw; have hb := hid_grow hw; have B2 := (hid_alloc hw).1; replace HB := HB.trans (hb.mono HB.size); (try replace EV := EV.below hb); (try replace HE := HE.below hb); (try replace HM := HM.below hb); clear hb hw; have c2_3 : w1.cell? ⟨_, 3, none⟩ = some (.string ex.sender) := B2.cell 3; have c2_4 : w1.cell? ⟨_, 4, none⟩ = some (.bool ex.hasKey) := B2.cell 4; have c2_5 : w1.cell? ⟨_, 5, none⟩ = some (.string ex.key) := B2.cell 5)
        | (refine wpl_load_arr rfl 30 (.tmp 8) rfl _ 10 rfl _ _ (ev_content B2) Try.underlying30 rfl info_value ?_)
        | (go_at_call 33; (with_reducible refine (aword_any _ _ _ HE.content).mono ?_); rintro e w1 ⟨rfl, hb⟩; replace HB := HB.trans (hb.mono HB.size); (try replace EV := EV.below hb); (try replace HE := HE.below hb); (try replace HM := HM.below hb); (try replace B2 := IBox.below B2 hb (IBox.lt B2)); (try replace c2_4 := cell_below hb c2_4); (try replace c2_5 := cell_below hb c2_5); (try replace c2_3 := cell_below hb c2_3); clear hb)
        | (go_at_call 39; (with_reducible refine (userB_any _ _ HE.key HM).mono ?_); rintro e w1 ⟨rfl, hb⟩; replace HB := HB.trans (hb.mono HB.size); (try replace EV := EV.below hb); (try replace HE := HE.below hb); (try replace HM := HM.below hb); (try replace B2 := IBox.below B2 hb (IBox.lt B2)); (try replace c2_4 := cell_below hb c2_4); (try replace c2_5 := cell_below hb c2_5); (try replace c2_3 := cell_below hb c2_3); clear hb)
        | (refine wpl_load_box rfl 32 (.tmp 2) rfl _ rfl _ _ _ B2 Try.underlying32 rfl info_event ?_)
        | (go_at_call 41; (with_reducible refine (join_any l A n c _ _ HE EV HN.out hnb).mono ?_); rintro e w1 ⟨rfl, hb⟩; replace HB := HB.trans (hb.mono HB.size); (try replace EV := EV.below hb); (try replace HE := HE.below hb); (try replace HM := HM.below hb); (try replace B2 := IBox.below B2 hb (IBox.lt B2)); (try replace c2_4 := cell_below hb c2_4); (try replace c2_5 := cell_below hb c2_5); (try replace c2_3 := cell_below hb c2_3); clear hb)
        | (go_at_call 42; (with_reducible refine (invite_any l A n c _ _ HE EV HN.out hnb).mono ?_); rintro e w1 ⟨rfl, hb⟩; replace HB := HB.trans (hb.mono HB.size); (try replace EV := EV.below hb); (try replace HE := HE.below hb); (try replace HM := HM.below hb); (try replace B2 := IBox.below B2 hb (IBox.lt B2)); (try replace c2_4 := cell_below hb c2_4); (try replace c2_5 := cell_below hb c2_5); (try replace c2_3 := cell_below hb c2_3); clear hb)
        | (go_at_call 43; (with_reducible refine (leave_any l A n c _ _ HE EV HN.out hnb).mono ?_); rintro e w1 ⟨rfl, hb⟩; replace HB := HB.trans (hb.mono HB.size); (try replace EV := EV.below hb); (try replace HE := HE.below hb); (try replace HM := HM.below hb); (try replace B2 := IBox.below B2 hb (IBox.lt B2)); (try replace c2_4 := cell_below hb c2_4); (try replace c2_5 := cell_below hb c2_5); (try replace c2_3 := cell_below hb c2_3); clear hb)
        | (go_at_call 44; (with_reducible refine (amember_any l A n c _ _ EV HN.out hnb).mono ?_); rintro e w1 ⟨rfl, hb⟩; replace HB := HB.trans (hb.mono HB.size); (try replace EV := EV.below hb); (try replace HE := HE.below hb); (try replace HM := HM.below hb); (try replace B2 := IBox.below B2 hb (IBox.lt B2)); (try replace c2_4 := cell_below hb c2_4); (try replace c2_5 := cell_below hb c2_5); (try replace c2_3 := cell_below hb c2_3); clear hb)
        | (go_at_call 17; (with_reducible refine (level_any l A n c _ _ EV HN.out hnb).mono ?_); rintro e w1 ⟨rfl, hb⟩; replace HB := HB.trans (hb.mono HB.size); (try replace EV := EV.below hb); (try replace HE := HE.below hb); (try replace HM := HM.below hb); (try replace B2 := IBox.below B2 hb (IBox.lt B2)); (try replace c2_4 := cell_below hb c2_4); (try replace c2_5 := cell_below hb c2_5); (try replace c2_3 := cell_below hb c2_3); clear hb)
        | (go_at_call 45; (with_reducible refine (need_any l A n c _ _ EV HN.out hnb).mono ?_); rintro e w1 ⟨rfl, hb⟩; replace HB := HB.trans (hb.mono HB.size); (try replace EV := EV.below hb); (try replace HE := HE.below hb); (try replace HM := HM.below hb); (try replace B2 := IBox.below B2 hb (IBox.lt B2)); (try replace c2_4 := cell_below hb c2_4); (try replace c2_5 := cell_below hb c2_5); (try replace c2_3 := cell_below hb c2_3); clear hb))
      all_goals first
        | (go_ret; exact ⟨ret_int (by first | (unfold memS; simp_all; done) | (rw [HMS.out (by simp_all)]; unfold banS; simp_all; done)), HB⟩)
        | skip
      have hbun : Bun w l A ex w.heap.size w1 := ⟨HB, EV, HE, B2⟩
      clear HB EV HE B2 HM
      refine wp_region_held_drew (S := (fun w' => Bun w l A ex w.heap.size w' ∧ w'.cell? ⟨w.heap.size, 3, none⟩ = some (.string ex.sender) ∧ w'.cell? ⟨w.heap.size, 5, none⟩ = some (.string ex.key))) (by kernel_rfl) ?_ (fun hHeld => ?_)
      · (try dsimp only); (go_split_ands; refine ⟨?_, ?_, ?_⟩ <;> first | assumption | (exact Bun.drew (by assumption)) | (exact cell_drew (by assumption)) | (exact Bun.below (by assumption) (by assumption)) | (exact cell_below (by assumption) (by assumption)))
      refine wpAnyH_take (i := 0) (oi := ⟨some 47, _, _, _, _, _⟩) (v := ?_) rfl (by kernel_rfl) (by kernel_rfl) (by kernel_rfl) (fun _ _ _ h => h) (Or.inl ⟨by kernel_rfl, ?_⟩) (by assumption) ?_
      rotate_left
      · (intro w hSw; (try dsimp only at hSw); go_split_ands; go_simp; try with_reducible rfl)
      try simp only [Act.put, List.setIfInBounds_toArray, List.set_cons_zero, List.set_cons_succ]
      refine wpAnyH_take (i := 1) (oi := ⟨some 48, _, _, _, _, _⟩) (v := ?_) rfl (by kernel_rfl) (by kernel_rfl) (by kernel_rfl) (fun _ _ _ h => h) (Or.inl ⟨by kernel_rfl, ?_⟩) (by assumption) ?_
      rotate_left
      · (intro w hSw; (try dsimp only at hSw); go_split_ands; go_simp; try with_reducible rfl)
      try simp only [Act.put, List.setIfInBounds_toArray, List.set_cons_zero, List.set_cons_succ]
      refine wpAnyH_take (i := 2) (oi := ⟨some 49, _, _, _, _, _⟩) (v := ?_) rfl (by kernel_rfl) (by kernel_rfl) (by kernel_rfl) (fun _ _ _ h => h) (Or.inl ⟨by kernel_rfl, ?_⟩) (by assumption) ?_
      rotate_left
      · (intro w hSw; (try dsimp only at hSw); go_split_ands; go_simp; try with_reducible rfl)
      try simp only [Act.put, List.setIfInBounds_toArray, List.set_cons_zero, List.set_cons_succ]
      refine wpAnyH_take (i := 4) (oi := ⟨some 51, _, _, _, _, _⟩) (v := ?_) rfl (by kernel_rfl) (by kernel_rfl) (by kernel_rfl) (fun _ _ _ h => h) (Or.inl ⟨by kernel_rfl, ?_⟩) (by assumption) ?_
      rotate_left
      · (intro w hSw; (try dsimp only at hSw); go_split_ands; go_simp; try with_reducible rfl)
      try simp only [Act.put, List.setIfInBounds_toArray, List.set_cons_zero, List.set_cons_succ]
      refine wpAnyH_ready (rs := [3]) (by kernel_rfl) (by simp) ?_
      refine AllReadyH.cons (o := ⟨some 50, _, _, _, _, _⟩) rfl (fun K hK => ?_) AllReadyH.nil
      go_simp
      (go_at_call 17; go_split_ands; refine (level_any l A n c _ _ (Bun.ev (by assumption)) HN.out hnb).mono ?_; rintro e w' ⟨rfl, hb⟩)
      refine hK.out _ _ ?_ (fun hHeld => ?_)
      · (try dsimp only); (go_split_ands; refine ⟨?_, ?_, ?_⟩ <;> first | assumption | (exact Bun.drew (by assumption)) | (exact cell_drew (by assumption)) | (exact Bun.below (by assumption) (by assumption)) | (exact cell_below (by assumption) (by assumption)))
      clear hK K
      try simp only [Act.put, List.setIfInBounds_toArray, List.set_cons_zero, List.set_cons_succ]
      refine wpAnyH_ready (rs := [5]) (by kernel_rfl) (by simp) ?_
      refine AllReadyH.cons (o := ⟨some 52, _, _, _, _, _⟩) rfl (fun K hK => ?_) AllReadyH.nil
      go_simp
      (go_at_call 45; go_split_ands; refine (need_any l A n c _ _ (Bun.ev (by assumption)) HN.out hnb).mono ?_; rintro e w' ⟨rfl, hb⟩)
      refine hK.out _ _ ?_ (fun hHeld => ?_)
      · (try dsimp only); (go_split_ands; refine ⟨?_, ?_, ?_⟩ <;> first | assumption | (exact Bun.drew (by assumption)) | (exact cell_drew (by assumption)) | (exact Bun.below (by assumption) (by assumption)) | (exact cell_below (by assumption) (by assumption)))
      clear hK K
      try simp only [Act.put, List.setIfInBounds_toArray, List.set_cons_zero, List.set_cons_succ]
      refine wpAnyH_take (i := 6) (oi := ⟨some 53, _, _, _, _, _⟩) (v := ?_) rfl (by kernel_rfl) (by kernel_rfl) (by kernel_rfl) (fun _ _ _ h => h) (Or.inl ⟨by kernel_rfl, ?_⟩) (by assumption) ?_
      rotate_left
      · (intro w hSw; (try dsimp only at hSw); go_split_ands; go_simp; try with_reducible rfl)
      try simp only [Act.put, List.setIfInBounds_toArray, List.set_cons_zero, List.set_cons_succ]
      refine wpAnyH_take (i := 7) (oi := ⟨some 54, _, _, _, _, _⟩) (v := ?_) rfl (by kernel_rfl) (by kernel_rfl) (by kernel_rfl) (fun _ _ _ h => h) (Or.inl ⟨by kernel_rfl, ?_⟩) (by assumption) ?_
      rotate_left
      · (intro w hSw; (try dsimp only at hSw); go_split_ands; go_simp; try with_reducible rfl)
      try simp only [Act.put, List.setIfInBounds_toArray, List.set_cons_zero, List.set_cons_succ]
      refine wpAnyH_take (i := 8) (oi := ⟨some 55, _, _, _, _, _⟩) (v := undef) rfl (by kernel_rfl) (by kernel_rfl) (by kernel_rfl) (fun _ _ _ h => h) (Or.inr ⟨by kernel_rfl, rfl⟩) (by assumption) ?_
      try simp only [Act.put, List.setIfInBounds_toArray, List.set_cons_zero, List.set_cons_succ]
      refine wpAnyH_take (i := 9) (oi := ⟨some 56, _, _, _, _, _⟩) (v := undef) rfl (by kernel_rfl) (by kernel_rfl) (by kernel_rfl) (fun _ _ _ h => h) (Or.inr ⟨by kernel_rfl, rfl⟩) (by assumption) ?_
      try simp only [Act.put, List.setIfInBounds_toArray, List.set_cons_zero, List.set_cons_succ]
      refine wpAnyH_take (i := 10) (oi := ⟨some 57, _, _, _, _, _⟩) (v := undef) rfl (by kernel_rfl) (by kernel_rfl) (by kernel_rfl) (fun _ _ _ h => h) (Or.inr ⟨by kernel_rfl, rfl⟩) (by assumption) ?_
      try simp only [Act.put, List.setIfInBounds_toArray, List.set_cons_zero, List.set_cons_succ]
      refine wpAnyH_take (i := 11) (oi := ⟨some 58, _, _, _, _, _⟩) (v := undef) rfl (by kernel_rfl) (by kernel_rfl) (by kernel_rfl) (fun _ _ _ h => h) (Or.inr ⟨by kernel_rfl, rfl⟩) (by assumption) ?_
      try simp only [Act.put, List.setIfInBounds_toArray, List.set_cons_zero, List.set_cons_succ]
      refine wpAnyH_take (i := 12) (oi := ⟨some 59, _, _, _, _, _⟩) (v := undef) rfl (by kernel_rfl) (by kernel_rfl) (by kernel_rfl) (fun _ _ _ h => h) (Or.inr ⟨by kernel_rfl, rfl⟩) (by assumption) ?_
      try simp only [Act.put, List.setIfInBounds_toArray, List.set_cons_zero, List.set_cons_succ]
      refine wpAnyH_take (i := 13) (oi := ⟨some 60, _, _, _, _, _⟩) (v := undef) rfl (by kernel_rfl) (by kernel_rfl) (by kernel_rfl) (fun _ _ _ h => h) (Or.inr ⟨by kernel_rfl, rfl⟩) (by assumption) ?_
      try simp only [Act.put, List.setIfInBounds_toArray, List.set_cons_zero, List.set_cons_succ]
      refine wpAnyH_take (i := 14) (oi := ⟨some 61, _, _, _, _, _⟩) (v := undef) rfl (by kernel_rfl) (by kernel_rfl) (by kernel_rfl) (fun _ _ _ h => h) (Or.inr ⟨by kernel_rfl, rfl⟩) (by assumption) ?_
      try simp only [Act.put, List.setIfInBounds_toArray, List.set_cons_zero, List.set_cons_succ]
      refine wpAnyH_take (i := 15) (oi := ⟨some 62, _, _, _, _, _⟩) (v := undef) rfl (by kernel_rfl) (by kernel_rfl) (by kernel_rfl) (fun _ _ _ h => h) (Or.inr ⟨by kernel_rfl, rfl⟩) (by assumption) ?_
      try simp only [Act.put, List.setIfInBounds_toArray, List.set_cons_zero, List.set_cons_succ]
      refine wpAnyH_take (i := 16) (oi := ⟨some 63, _, _, _, _, _⟩) (v := undef) rfl (by kernel_rfl) (by kernel_rfl) (by kernel_rfl) (fun _ _ _ h => h) (Or.inr ⟨by kernel_rfl, rfl⟩) (by assumption) ?_
      try simp only [Act.put, List.setIfInBounds_toArray, List.set_cons_zero, List.set_cons_succ]
      refine wpAnyH_take (i := 17) (oi := ⟨some 64, _, _, _, _, _⟩) (v := ?_) rfl (by kernel_rfl) (by kernel_rfl) (by kernel_rfl) (fun _ _ _ h => h) (Or.inl ⟨by kernel_rfl, ?_⟩) (by assumption) ?_
      rotate_left
      · (intro w hSw; (try dsimp only at hSw); go_split_ands; go_simp; try with_reducible rfl)
      try simp only [Act.put, List.setIfInBounds_toArray, List.set_cons_zero, List.set_cons_succ]
      refine wpAnyH_take (i := 18) (oi := ⟨some 46, _, _, _, _, _⟩) (v := ?_) rfl (by kernel_rfl) (by kernel_rfl) (by kernel_rfl) (fun _ _ _ h => h) (Or.inl ⟨by kernel_rfl, ?_⟩) (by assumption) ?_
      rotate_left
      · (intro w hSw; (try dsimp only at hSw); go_split_ands; go_simp; try with_reducible rfl)
      try simp only [Act.put, List.setIfInBounds_toArray, List.set_cons_zero, List.set_cons_succ]
      refine wpAnyH_done (by kernel_rfl) ?_ _
      go_split_ands
      have hq : Bun w l A ex w.heap.size w' := by assumption
      have HB := hq.hb
      clear hbun hq
      go_wp2_with (first
        | (refine wpl_box_at rfl 32 (.tmp 0) rfl _ rfl ?_; intro w1 hw; have hb := hid_grow hw; have B2 := (hid_alloc hw).1; replace HB := HB.trans (hb.mono HB.size); (try replace EV := EV.below hb); (try replace HE := HE.below hb); (try replace HM := HM.below hb); clear hb hw; have c2_3 : w1.cell? ⟨_, 3, none⟩ = some (.string ex.sender) := B2.cell 3; have c2_4 : w1.cell? ⟨_, 4, none⟩ = some (.bool ex.hasKey) := B2.cell 4; have c2_5 : w1.cell? ⟨_, 5, none⟩ = some (.string ex.key) := B2.cell 5)
        | (refine wpl_load_arr rfl 30 (.tmp 8) rfl _ 10 rfl _ _ (ev_content B2) Try.underlying30 rfl info_value ?_)
        | (go_at_call 33; (with_reducible refine (aword_any _ _ _ HE.content).mono ?_); rintro e w1 ⟨rfl, hb⟩; replace HB := HB.trans (hb.mono HB.size); (try replace EV := EV.below hb); (try replace HE := HE.below hb); (try replace HM := HM.below hb); (try replace B2 := IBox.below B2 hb (IBox.lt B2)); (try replace c2_4 := cell_below hb c2_4); (try replace c2_5 := cell_below hb c2_5); (try replace c2_3 := cell_below hb c2_3); clear hb)
        | (go_at_call 39; (with_reducible refine (userB_any _ _ HE.key HM).mono ?_); rintro e w1 ⟨rfl, hb⟩; replace HB := HB.trans (hb.mono HB.size); (try replace EV := EV.below hb); (try replace HE := HE.below hb); (try replace HM := HM.below hb); (try replace B2 := IBox.below B2 hb (IBox.lt B2)); (try replace c2_4 := cell_below hb c2_4); (try replace c2_5 := cell_below hb c2_5); (try replace c2_3 := cell_below hb c2_3); clear hb)
        | (refine wpl_load_box rfl 32 (.tmp 2) rfl _ rfl _ _ _ B2 Try.underlying32 rfl info_event ?_)
        | (go_at_call 41; (with_reducible refine (join_any l A n c _ _ HE EV HN.out hnb).mono ?_); rintro e w1 ⟨rfl, hb⟩; replace HB := HB.trans (hb.mono HB.size); (try replace EV := EV.below hb); (try replace HE := HE.below hb); (try replace HM := HM.below hb); (try replace B2 := IBox.below B2 hb (IBox.lt B2)); (try replace c2_4 := cell_below hb c2_4); (try replace c2_5 := cell_below hb c2_5); (try replace c2_3 := cell_below hb c2_3); clear hb)
        | (go_at_call 42; (with_reducible refine (invite_any l A n c _ _ HE EV HN.out hnb).mono ?_); rintro e w1 ⟨rfl, hb⟩; replace HB := HB.trans (hb.mono HB.size); (try replace EV := EV.below hb); (try replace HE := HE.below hb); (try replace HM := HM.below hb); (try replace B2 := IBox.below B2 hb (IBox.lt B2)); (try replace c2_4 := cell_below hb c2_4); (try replace c2_5 := cell_below hb c2_5); (try replace c2_3 := cell_below hb c2_3); clear hb)
        | (go_at_call 43; (with_reducible refine (leave_any l A n c _ _ HE EV HN.out hnb).mono ?_); rintro e w1 ⟨rfl, hb⟩; replace HB := HB.trans (hb.mono HB.size); (try replace EV := EV.below hb); (try replace HE := HE.below hb); (try replace HM := HM.below hb); (try replace B2 := IBox.below B2 hb (IBox.lt B2)); (try replace c2_4 := cell_below hb c2_4); (try replace c2_5 := cell_below hb c2_5); (try replace c2_3 := cell_below hb c2_3); clear hb)
        | (go_at_call 44; (with_reducible refine (amember_any l A n c _ _ EV HN.out hnb).mono ?_); rintro e w1 ⟨rfl, hb⟩; replace HB := HB.trans (hb.mono HB.size); (try replace EV := EV.below hb); (try replace HE := HE.below hb); (try replace HM := HM.below hb); (try replace B2 := IBox.below B2 hb (IBox.lt B2)); (try replace c2_4 := cell_below hb c2_4); (try replace c2_5 := cell_below hb c2_5); (try replace c2_3 := cell_below hb c2_3); clear hb)
        | (go_at_call 17; (with_reducible refine (level_any l A n c _ _ EV HN.out hnb).mono ?_); rintro e w1 ⟨rfl, hb⟩; replace HB := HB.trans (hb.mono HB.size); (try replace EV := EV.below hb); (try replace HE := HE.below hb); (try replace HM := HM.below hb); (try replace B2 := IBox.below B2 hb (IBox.lt B2)); (try replace c2_4 := cell_below hb c2_4); (try replace c2_5 := cell_below hb c2_5); (try replace c2_3 := cell_below hb c2_3); clear hb)
        | (go_at_call 45; (with_reducible refine (need_any l A n c _ _ EV HN.out hnb).mono ?_); rintro e w1 ⟨rfl, hb⟩; replace HB := HB.trans (hb.mono HB.size); (try replace EV := EV.below hb); (try replace HE := HE.below hb); (try replace HM := HM.below hb); (try replace B2 := IBox.below B2 hb (IBox.lt B2)); (try replace c2_4 := cell_below hb c2_4); (try replace c2_5 := cell_below hb c2_5); (try replace c2_3 := cell_below hb c2_3); clear hb))
      all_goals
        go_ret
        exact ⟨ret_int (by rw [HMS.out (by simp_all)]; unfold banS; simp_all; done), HB⟩
    · have hd' : decide (levelS l ex.sender < needS l ⟨#[98, 97, 110]⟩) = false := decide_eq_false hd
      go_enter Try.func23, Try.ntmps23
      go_wp2_with (first
        | (refine wpl_box_at rfl 32 (.tmp 0) rfl _ rfl ?_; intro w1 hw; have hb := hid_grow hw; have B2 := (hid_alloc hw).1; replace HB := HB.trans (hb.mono HB.size); (try replace EV := EV.below hb); (try replace HE := HE.below hb); (try replace HM := HM.below hb); clear hb hw; have c2_3 : w1.cell? ⟨_, 3, none⟩ = some (.string ex.sender) := B2.cell 3; have c2_4 : w1.cell? ⟨_, 4, none⟩ = some (.bool ex.hasKey) := B2.cell 4; have c2_5 : w1.cell? ⟨_, 5, none⟩ = some (.string ex.key) := B2.cell 5)
        | (refine wpl_load_arr rfl 30 (.tmp 8) rfl _ 10 rfl _ _ (ev_content B2) Try.underlying30 rfl info_value ?_)
        | (go_at_call 33; (with_reducible refine (aword_any _ _ _ HE.content).mono ?_); rintro e w1 ⟨rfl, hb⟩; replace HB := HB.trans (hb.mono HB.size); (try replace EV := EV.below hb); (try replace HE := HE.below hb); (try replace HM := HM.below hb); (try replace B2 := IBox.below B2 hb (IBox.lt B2)); (try replace c2_4 := cell_below hb c2_4); (try replace c2_5 := cell_below hb c2_5); (try replace c2_3 := cell_below hb c2_3); clear hb)
        | (go_at_call 39; (with_reducible refine (userB_any _ _ HE.key HM).mono ?_); rintro e w1 ⟨rfl, hb⟩; replace HB := HB.trans (hb.mono HB.size); (try replace EV := EV.below hb); (try replace HE := HE.below hb); (try replace HM := HM.below hb); (try replace B2 := IBox.below B2 hb (IBox.lt B2)); (try replace c2_4 := cell_below hb c2_4); (try replace c2_5 := cell_below hb c2_5); (try replace c2_3 := cell_below hb c2_3); clear hb)
        | (refine wpl_load_box rfl 32 (.tmp 2) rfl _ rfl _ _ _ B2 Try.underlying32 rfl info_event ?_)
        | (go_at_call 41; (with_reducible refine (join_any l A n c _ _ HE EV HN.out hnb).mono ?_); rintro e w1 ⟨rfl, hb⟩; replace HB := HB.trans (hb.mono HB.size); (try replace EV := EV.below hb); (try replace HE := HE.below hb); (try replace HM := HM.below hb); (try replace B2 := IBox.below B2 hb (IBox.lt B2)); (try replace c2_4 := cell_below hb c2_4); (try replace c2_5 := cell_below hb c2_5); (try replace c2_3 := cell_below hb c2_3); clear hb)
        | (go_at_call 42; (with_reducible refine (invite_any l A n c _ _ HE EV HN.out hnb).mono ?_); rintro e w1 ⟨rfl, hb⟩; replace HB := HB.trans (hb.mono HB.size); (try replace EV := EV.below hb); (try replace HE := HE.below hb); (try replace HM := HM.below hb); (try replace B2 := IBox.below B2 hb (IBox.lt B2)); (try replace c2_4 := cell_below hb c2_4); (try replace c2_5 := cell_below hb c2_5); (try replace c2_3 := cell_below hb c2_3); clear hb)
        | (go_at_call 43; (with_reducible refine (leave_any l A n c _ _ HE EV HN.out hnb).mono ?_); rintro e w1 ⟨rfl, hb⟩; replace HB := HB.trans (hb.mono HB.size); (try replace EV := EV.below hb); (try replace HE := HE.below hb); (try replace HM := HM.below hb); (try replace B2 := IBox.below B2 hb (IBox.lt B2)); (try replace c2_4 := cell_below hb c2_4); (try replace c2_5 := cell_below hb c2_5); (try replace c2_3 := cell_below hb c2_3); clear hb)
        | (go_at_call 44; (with_reducible refine (amember_any l A n c _ _ EV HN.out hnb).mono ?_); rintro e w1 ⟨rfl, hb⟩; replace HB := HB.trans (hb.mono HB.size); (try replace EV := EV.below hb); (try replace HE := HE.below hb); (try replace HM := HM.below hb); (try replace B2 := IBox.below B2 hb (IBox.lt B2)); (try replace c2_4 := cell_below hb c2_4); (try replace c2_5 := cell_below hb c2_5); (try replace c2_3 := cell_below hb c2_3); clear hb)
        | (go_at_call 17; (with_reducible refine (level_any l A n c _ _ EV HN.out hnb).mono ?_); rintro e w1 ⟨rfl, hb⟩; replace HB := HB.trans (hb.mono HB.size); (try replace EV := EV.below hb); (try replace HE := HE.below hb); (try replace HM := HM.below hb); (try replace B2 := IBox.below B2 hb (IBox.lt B2)); (try replace c2_4 := cell_below hb c2_4); (try replace c2_5 := cell_below hb c2_5); (try replace c2_3 := cell_below hb c2_3); clear hb)
        | (go_at_call 45; (with_reducible refine (need_any l A n c _ _ EV HN.out hnb).mono ?_); rintro e w1 ⟨rfl, hb⟩; replace HB := HB.trans (hb.mono HB.size); (try replace EV := EV.below hb); (try replace HE := HE.below hb); (try replace HM := HM.below hb); (try replace B2 := IBox.below B2 hb (IBox.lt B2)); (try replace c2_4 := cell_below hb c2_4); (try replace c2_5 := cell_below hb c2_5); (try replace c2_3 := cell_below hb c2_3); clear hb))
      all_goals first
        | (go_ret; exact ⟨ret_int (by first | (unfold memS; simp_all; done) | (rw [HMS.out (by simp_all)]; unfold banS; simp_all; done)), HB⟩)
        | skip
      have hbun : Bun w l A ex w.heap.size w1 := ⟨HB, EV, HE, B2⟩
      clear HB EV HE B2 HM
      go_region_held3 (fun w' => Bun w l A ex w.heap.size w' ∧ w'.cell? ⟨w.heap.size, 3, none⟩ = some (.string ex.sender) ∧ w'.cell? ⟨w.heap.size, 5, none⟩ = some (.string ex.key)) ((go_split_ands; refine ⟨?_, ?_, ?_⟩ <;> first | assumption | (exact Bun.drew (by assumption)) | (exact cell_drew (by assumption)) | (exact Bun.below (by assumption) (by assumption)) | (exact cell_below (by assumption) (by assumption))))
        (first
          | (go_at_call 45; go_split_ands; refine (need_any l A n c _ _ (Bun.ev (by assumption)) HN.out hnb).mono ?_; rintro e w' ⟨rfl, hb⟩)
          | (go_at_call 17; go_split_ands; refine (level_any l A n c _ _ (Bun.ev (by assumption)) HN.out hnb).mono ?_; rintro e w' ⟨rfl, hb⟩))
      go_split_ands
      have hq : Bun w l A ex w.heap.size w' := by assumption
      have HB := hq.hb
      clear hbun hq
      go_wp2_with (first
        | (refine wpl_box_at rfl 32 (.tmp 0) rfl _ rfl ?_; intro w1 hw; have hb := hid_grow hw; have B2 := (hid_alloc hw).1; replace HB := HB.trans (hb.mono HB.size); (try replace EV := EV.below hb); (try replace HE := HE.below hb); (try replace HM := HM.below hb); clear hb hw; have c2_3 : w1.cell? ⟨_, 3, none⟩ = some (.string ex.sender) := B2.cell 3; have c2_4 : w1.cell? ⟨_, 4, none⟩ = some (.bool ex.hasKey) := B2.cell 4; have c2_5 : w1.cell? ⟨_, 5, none⟩ = some (.string ex.key) := B2.cell 5)
        | (refine wpl_load_arr rfl 30 (.tmp 8) rfl _ 10 rfl _ _ (ev_content B2) Try.underlying30 rfl info_value ?_)
        | (go_at_call 33; (with_reducible refine (aword_any _ _ _ HE.content).mono ?_); rintro e w1 ⟨rfl, hb⟩; replace HB := HB.trans (hb.mono HB.size); (try replace EV := EV.below hb); (try replace HE := HE.below hb); (try replace HM := HM.below hb); (try replace B2 := IBox.below B2 hb (IBox.lt B2)); (try replace c2_4 := cell_below hb c2_4); (try replace c2_5 := cell_below hb c2_5); (try replace c2_3 := cell_below hb c2_3); clear hb)
        | (go_at_call 39; (with_reducible refine (userB_any _ _ HE.key HM).mono ?_); rintro e w1 ⟨rfl, hb⟩; replace HB := HB.trans (hb.mono HB.size); (try replace EV := EV.below hb); (try replace HE := HE.below hb); (try replace HM := HM.below hb); (try replace B2 := IBox.below B2 hb (IBox.lt B2)); (try replace c2_4 := cell_below hb c2_4); (try replace c2_5 := cell_below hb c2_5); (try replace c2_3 := cell_below hb c2_3); clear hb)
        | (refine wpl_load_box rfl 32 (.tmp 2) rfl _ rfl _ _ _ B2 Try.underlying32 rfl info_event ?_)
        | (go_at_call 41; (with_reducible refine (join_any l A n c _ _ HE EV HN.out hnb).mono ?_); rintro e w1 ⟨rfl, hb⟩; replace HB := HB.trans (hb.mono HB.size); (try replace EV := EV.below hb); (try replace HE := HE.below hb); (try replace HM := HM.below hb); (try replace B2 := IBox.below B2 hb (IBox.lt B2)); (try replace c2_4 := cell_below hb c2_4); (try replace c2_5 := cell_below hb c2_5); (try replace c2_3 := cell_below hb c2_3); clear hb)
        | (go_at_call 42; (with_reducible refine (invite_any l A n c _ _ HE EV HN.out hnb).mono ?_); rintro e w1 ⟨rfl, hb⟩; replace HB := HB.trans (hb.mono HB.size); (try replace EV := EV.below hb); (try replace HE := HE.below hb); (try replace HM := HM.below hb); (try replace B2 := IBox.below B2 hb (IBox.lt B2)); (try replace c2_4 := cell_below hb c2_4); (try replace c2_5 := cell_below hb c2_5); (try replace c2_3 := cell_below hb c2_3); clear hb)
        | (go_at_call 43; (with_reducible refine (leave_any l A n c _ _ HE EV HN.out hnb).mono ?_); rintro e w1 ⟨rfl, hb⟩; replace HB := HB.trans (hb.mono HB.size); (try replace EV := EV.below hb); (try replace HE := HE.below hb); (try replace HM := HM.below hb); (try replace B2 := IBox.below B2 hb (IBox.lt B2)); (try replace c2_4 := cell_below hb c2_4); (try replace c2_5 := cell_below hb c2_5); (try replace c2_3 := cell_below hb c2_3); clear hb)
        | (go_at_call 44; (with_reducible refine (amember_any l A n c _ _ EV HN.out hnb).mono ?_); rintro e w1 ⟨rfl, hb⟩; replace HB := HB.trans (hb.mono HB.size); (try replace EV := EV.below hb); (try replace HE := HE.below hb); (try replace HM := HM.below hb); (try replace B2 := IBox.below B2 hb (IBox.lt B2)); (try replace c2_4 := cell_below hb c2_4); (try replace c2_5 := cell_below hb c2_5); (try replace c2_3 := cell_below hb c2_3); clear hb)
        | (go_at_call 17; (with_reducible refine (level_any l A n c _ _ EV HN.out hnb).mono ?_); rintro e w1 ⟨rfl, hb⟩; replace HB := HB.trans (hb.mono HB.size); (try replace EV := EV.below hb); (try replace HE := HE.below hb); (try replace HM := HM.below hb); (try replace B2 := IBox.below B2 hb (IBox.lt B2)); (try replace c2_4 := cell_below hb c2_4); (try replace c2_5 := cell_below hb c2_5); (try replace c2_3 := cell_below hb c2_3); clear hb)
        | (go_at_call 45; (with_reducible refine (need_any l A n c _ _ EV HN.out hnb).mono ?_); rintro e w1 ⟨rfl, hb⟩; replace HB := HB.trans (hb.mono HB.size); (try replace EV := EV.below hb); (try replace HE := HE.below hb); (try replace HM := HM.below hb); (try replace B2 := IBox.below B2 hb (IBox.lt B2)); (try replace c2_4 := cell_below hb c2_4); (try replace c2_5 := cell_below hb c2_5); (try replace c2_3 := cell_below hb c2_3); clear hb))
      all_goals
        go_ret
        exact ⟨ret_int (by rw [HMS.out (by simp_all)]; unfold banS; first | (simp_all; done) | (simp_all; omega)), HB⟩
end Go.Proofs.Ytpmdpfgaafaceaa
