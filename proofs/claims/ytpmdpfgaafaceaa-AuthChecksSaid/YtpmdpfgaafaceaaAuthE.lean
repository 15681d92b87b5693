/- Layer 16: what an event is; its first event; an invitation. -/
import Derived.Test.YtpmdpfgaafaceaaAuthD
import Derived.Test.YtpmdpfgaafaceaaAuthN
namespace Go.Proofs.Ytpmdpfgaafaceaa
open Go.RowKit Go.PlainAid
set_option linter.unusedVariables false

def isB (ex : Ev) (kind : ByteArray) : Bool := (ex.ty.toList == kind.toList) && ex.hasKey && (ex.key.toList == [])
def isCreateB (ex : Ev) : Bool := isB ex ⟨#[109, 46, 114, 111, 111, 109, 46, 99, 114, 101, 97, 116, 101]⟩
def isLevelsB (ex : Ev) : Bool := isB ex ⟨#[109, 46, 114, 111, 111, 109, 46, 112, 111, 119, 101, 114, 95, 108, 101, 118, 101, 108, 115]⟩

set_option maxRecDepth 100000 in
set_option maxHeartbeats 2000000 in
theorem is_any (ex : Ev) (kind : ByteArray) (w : World) (HE : IsEv w ex) :
    Calls Try.prog 20 #[.agg ex.cells, .string kind] w fun e w' => e = .returned (.bool (isB ex kind)) ∧ Below w.heap.size w w' := by
  have HB := Below.refl w.heap.size w
  go_enter Try.func20, Try.ntmps20
  go_wp2_with (first
    | (refine wpl_box_at rfl 32 (.tmp 0) rfl _ rfl ?_; intro w1 hw; have hb := hid_grow hw; have B2 := (hid_alloc hw).1; replace HB := HB.trans (hb.mono HB.size); (try replace HE := HE.below hb); clear hb hw; have c2_1 : w1.cell? ⟨_, 1, none⟩ = some (.string ex.ty) := B2.cell 1; have c2_4 : w1.cell? ⟨_, 4, none⟩ = some (.bool ex.hasKey) := B2.cell 4; have c2_5 : w1.cell? ⟨_, 5, none⟩ = some (.string ex.key) := B2.cell 5))
  all_goals
    go_ret
    exact ⟨ret_bool (by unfold isB; first | (simp_all; done) | (simp_all [numT_no]; done)), HB⟩

set_option maxRecDepth 100000 in
set_option maxHeartbeats 2000000 in
theorem isCreate_any (ex : Ev) (w : World) (HE : IsEv w ex) :
    Calls Try.prog 13 #[.agg ex.cells] w fun e w' => e = .returned (.bool (isCreateB ex)) ∧ Below w.heap.size w w' := by
  have HB := Below.refl w.heap.size w
  go_enter Try.func13, Try.ntmps13
  go_wp2_with (first
    | (refine wpl_box_at rfl 32 (.tmp 0) rfl _ rfl ?_; intro w1 hw; have hb := hid_grow hw; have B1 := (hid_alloc hw).1; replace HB := HB.trans (hb.mono HB.size); (try replace HE := HE.below hb); clear hb hw; have c1_1 : w1.cell? ⟨_, 1, none⟩ = some (.string ex.ty) := B1.cell 1; have c1_4 : w1.cell? ⟨_, 4, none⟩ = some (.bool ex.hasKey) := B1.cell 4; have c1_5 : w1.cell? ⟨_, 5, none⟩ = some (.string ex.key) := B1.cell 5))
  all_goals
    go_ret
    exact ⟨ret_bool (by unfold isCreateB isB; first | (simp_all; done) | (simp_all [numT_no]; done)), HB⟩

set_option maxRecDepth 100000 in
set_option maxHeartbeats 2000000 in
theorem isLevels_any (ex : Ev) (w : World) (HE : IsEv w ex) :
    Calls Try.prog 30 #[.agg ex.cells] w fun e w' => e = .returned (.bool (isLevelsB ex)) ∧ Below w.heap.size w w' := by
  have HB := Below.refl w.heap.size w
  go_enter Try.func30, Try.ntmps30
  go_wp2_with (first
    | (refine wpl_box_at rfl 32 (.tmp 0) rfl _ rfl ?_; intro w1 hw; have hb := hid_grow hw; have B1 := (hid_alloc hw).1; replace HB := HB.trans (hb.mono HB.size); (try replace HE := HE.below hb); clear hb hw; have c1_1 : w1.cell? ⟨_, 1, none⟩ = some (.string ex.ty) := B1.cell 1; have c1_4 : w1.cell? ⟨_, 4, none⟩ = some (.bool ex.hasKey) := B1.cell 4; have c1_5 : w1.cell? ⟨_, 5, none⟩ = some (.string ex.key) := B1.cell 5))
  all_goals
    go_ret
    exact ⟨ret_bool (by unfold isLevelsB isB; first | (simp_all; done) | (simp_all [numT_no]; done)), HB⟩

def inviteS (l : List Ev) (ex : Ev) : Int :=
  if (memberS l ex.sender).toList ≠ [106, 111, 105, 110] then 24
  else if (memberS l ex.key).toList = [106, 111, 105, 110] ∨ (memberS l ex.key).toList = [98, 97, 110] then 25
  else if levelS l ex.sender < needS l ⟨#[105, 110, 118, 105, 116, 101]⟩ then 26 else 0

set_option maxRecDepth 100000 in
set_option maxHeartbeats 2000000 in
theorem invite_any (l : List Ev) (A : Option Addr) (n c : Nat) (ex : Ev) (w : World) (HE : IsEv w ex) (EV : IsEvs w A 0 l) (hn : n = l.length) (hnb : n ≤ 9223372036854775807) :
    Calls Try.prog 42 #[.slice A n c, .agg ex.cells] w fun e w' => e = .returned (.int .i64 (inviteS l ex)) ∧ Below w.heap.size w w' := by
  have HN := Lib.hid hn
  clear hn
  have HB := Below.refl w.heap.size w
  go_enter Try.func42, Try.ntmps42
  go_wp2_with (first
    | (refine wpl_box_at rfl 32 (.tmp 1) rfl _ rfl ?_; intro w1 hw; have hb := hid_grow hw; have B3 := (hid_alloc hw).1; replace HB := HB.trans (hb.mono HB.size); (try replace EV := EV.below hb); (try replace HE := HE.below hb); clear hb hw; have c3_3 : w1.cell? ⟨_, 3, none⟩ = some (.string ex.sender) := B3.cell 3; have c3_5 : w1.cell? ⟨_, 5, none⟩ = some (.string ex.key) := B3.cell 5)
    | (go_at_call 44; (with_reducible refine (amember_any l A n c _ _ EV HN.out hnb).mono ?_); rintro e w1 ⟨rfl, hb⟩; replace HB := HB.trans (hb.mono HB.size); (try replace EV := EV.below hb); (try replace HE := HE.below hb); (try replace B3 := IBox.below B3 hb (IBox.lt B3)); (try replace c3_5 := cell_below hb c3_5); (try replace c3_3 := cell_below hb c3_3); clear hb)
    | (go_at_call 17; (with_reducible refine (level_any l A n c _ _ EV HN.out hnb).mono ?_); rintro e w1 ⟨rfl, hb⟩; replace HB := HB.trans (hb.mono HB.size); (try replace EV := EV.below hb); (try replace HE := HE.below hb); (try replace B3 := IBox.below B3 hb (IBox.lt B3)); (try replace c3_5 := cell_below hb c3_5); (try replace c3_3 := cell_below hb c3_3); clear hb)
    | (go_at_call 45; (with_reducible refine (need_any l A n c _ _ EV HN.out hnb).mono ?_); rintro e w1 ⟨rfl, hb⟩; replace HB := HB.trans (hb.mono HB.size); (try replace EV := EV.below hb); (try replace HE := HE.below hb); (try replace B3 := IBox.below B3 hb (IBox.lt B3)); (try replace c3_5 := cell_below hb c3_5); (try replace c3_3 := cell_below hb c3_3); clear hb))
  all_goals
    go_ret
    exact ⟨ret_int (by unfold inviteS; first | (simp_all; done) | (simp_all [numT_no]; done)), HB⟩

def createS (ex : Ev) : Int :=
  if 0 < ex.Pn then 1 else if 0 < ex.An then 2
  else if (namedR ex.room && namedR ex.sender && roomB ex.room && userB ex.sender && ((srvOf ex.room).toList == (srvOf ex.sender).toList)) = false then 3
  else if ((wordT ex.content ⟨#[114, 111, 111, 109, 95, 118, 101, 114, 115, 105, 111, 110]⟩).toList == [49, 49]) = true then 0 else 4

set_option maxRecDepth 100000 in
set_option maxHeartbeats 4000000 in
theorem create_any (ex : Ev) (w : World) (HE : IsEv w ex) (HM : HasMax w) :
    Calls Try.prog 21 #[.agg ex.cells] w fun e w' => e = .returned (.int .i64 (createS ex)) ∧ Below w.heap.size w w' := by
  have HB := Below.refl w.heap.size w
  cases hr : namedR ex.room <;> cases hs : namedR ex.sender
  all_goals
    have Hroom := Lib.hid hr
    have Hnder := Lib.hid hs
    clear hr hs
    go_enter Try.func21, Try.ntmps21
    go_wp2_with (first
      | (refine wpl_box_at rfl 32 (.tmp 0) rfl _ rfl ?_; intro w1 hw; have hb := hid_grow hw; have B1 := (hid_alloc hw).1; replace HB := HB.trans (hb.mono HB.size); (try replace HE := HE.below hb); (try replace HM := HM.below hb); clear hb hw; have c1_2 : w1.cell? ⟨_, 2, none⟩ = some (.string ex.room) := B1.cell 2; have c1_3 : w1.cell? ⟨_, 3, none⟩ = some (.string ex.sender) := B1.cell 3; have c1_6 : w1.cell? ⟨_, 6, none⟩ = some (.slice ex.PA ex.Pn ex.Pc) := B1.cell 6; have c1_7 : w1.cell? ⟨_, 7, none⟩ = some (.slice ex.AA ex.An ex.Ac) := B1.cell 7)
      | (go_at_call 37; (with_reducible refine (splitY _ _ HE.room HM Hroom.out).mono ?_); rintro e w1 ⟨rfl, hb⟩; replace HB := HB.trans (hb.mono HB.size); (try replace HE := HE.below hb); (try replace HM := HM.below hb); (try replace B1 := IBox.below B1 hb (IBox.lt B1)); (try replace c1_2 := cell_below hb c1_2); (try replace c1_3 := cell_below hb c1_3); (try replace c1_6 := cell_below hb c1_6); (try replace c1_7 := cell_below hb c1_7); clear hb)
      | (go_at_call 37; (with_reducible refine (splitN _ _ HE.room HM Hroom.out).mono ?_); rintro e w1 ⟨rfl, hb⟩; replace HB := HB.trans (hb.mono HB.size); (try replace HE := HE.below hb); (try replace HM := HM.below hb); (try replace B1 := IBox.below B1 hb (IBox.lt B1)); (try replace c1_2 := cell_below hb c1_2); (try replace c1_3 := cell_below hb c1_3); (try replace c1_6 := cell_below hb c1_6); (try replace c1_7 := cell_below hb c1_7); clear hb)
      | (go_at_call 37; (with_reducible refine (splitY _ _ HE.sender HM Hnder.out).mono ?_); rintro e w1 ⟨rfl, hb⟩; replace HB := HB.trans (hb.mono HB.size); (try replace HE := HE.below hb); (try replace HM := HM.below hb); (try replace B1 := IBox.below B1 hb (IBox.lt B1)); (try replace c1_2 := cell_below hb c1_2); (try replace c1_3 := cell_below hb c1_3); (try replace c1_6 := cell_below hb c1_6); (try replace c1_7 := cell_below hb c1_7); clear hb)
      | (go_at_call 37; (with_reducible refine (splitN _ _ HE.sender HM Hnder.out).mono ?_); rintro e w1 ⟨rfl, hb⟩; replace HB := HB.trans (hb.mono HB.size); (try replace HE := HE.below hb); (try replace HM := HM.below hb); (try replace B1 := IBox.below B1 hb (IBox.lt B1)); (try replace c1_2 := cell_below hb c1_2); (try replace c1_3 := cell_below hb c1_3); (try replace c1_6 := cell_below hb c1_6); (try replace c1_7 := cell_below hb c1_7); clear hb)
      | (refine wpl_load_arr rfl 30 (.tmp 26) rfl _ 10 rfl _ _ (ev_content B1) Try.underlying30 rfl info_value ?_)
      | (go_at_call 33; (with_reducible refine (aword_any _ _ _ HE.content).mono ?_); rintro e w1 ⟨rfl, hb⟩; replace HB := HB.trans (hb.mono HB.size); (try replace HE := HE.below hb); (try replace HM := HM.below hb); (try replace B1 := IBox.below B1 hb (IBox.lt B1)); (try replace c1_2 := cell_below hb c1_2); (try replace c1_3 := cell_below hb c1_3); (try replace c1_6 := cell_below hb c1_6); (try replace c1_7 := cell_below hb c1_7); clear hb)
      | (go_at_call 38; (with_reducible refine (roomB_any _ _ HE.room HM).mono ?_); rintro e w1 ⟨rfl, hb⟩; replace HB := HB.trans (hb.mono HB.size); (try replace HE := HE.below hb); (try replace HM := HM.below hb); (try replace B1 := IBox.below B1 hb (IBox.lt B1)); (try replace c1_2 := cell_below hb c1_2); (try replace c1_3 := cell_below hb c1_3); (try replace c1_6 := cell_below hb c1_6); (try replace c1_7 := cell_below hb c1_7); clear hb)
      | (go_at_call 39; (with_reducible refine (userB_any _ _ HE.sender HM).mono ?_); rintro e w1 ⟨rfl, hb⟩; replace HB := HB.trans (hb.mono HB.size); (try replace HE := HE.below hb); (try replace HM := HM.below hb); (try replace B1 := IBox.below B1 hb (IBox.lt B1)); (try replace c1_2 := cell_below hb c1_2); (try replace c1_3 := cell_below hb c1_3); (try replace c1_6 := cell_below hb c1_6); (try replace c1_7 := cell_below hb c1_7); clear hb))
    all_goals
      go_ret
      exact ⟨ret_int (by unfold createS; rw [Hroom.out, Hnder.out]; simp_all), HB⟩

set_option maxRecDepth 100000 in
set_option maxHeartbeats 4000000 in
theorem rcreate_any (ex : Ev) (w : World) (HE : IsEv w ex) (HM : HasMax w) :
    Calls Try.prog 25 #[.agg ex.cells] w fun e w' => e = .returned (.int .i64 (createS ex)) ∧ Below w.heap.size w w' := by
  have HB := Below.refl w.heap.size w
  cases hr : namedR ex.room <;> cases hs : namedR ex.sender
  all_goals
    have Hroom := Lib.hid hr
    have Hnder := Lib.hid hs
    clear hr hs
    go_enter Try.func25, Try.ntmps25
    go_wp2_with (first
      | (refine wpl_box_at rfl 32 (.tmp 0) rfl _ rfl ?_; intro w1 hw; have hb := hid_grow hw; have B1 := (hid_alloc hw).1; replace HB := HB.trans (hb.mono HB.size); (try replace HE := HE.below hb); (try replace HM := HM.below hb); clear hb hw; have c1_2 : w1.cell? ⟨_, 2, none⟩ = some (.string ex.room) := B1.cell 2; have c1_3 : w1.cell? ⟨_, 3, none⟩ = some (.string ex.sender) := B1.cell 3; have c1_6 : w1.cell? ⟨_, 6, none⟩ = some (.slice ex.PA ex.Pn ex.Pc) := B1.cell 6; have c1_7 : w1.cell? ⟨_, 7, none⟩ = some (.slice ex.AA ex.An ex.Ac) := B1.cell 7)
      | (go_at_call 50; (with_reducible refine (rsplitY _ _ HE.room Hroom.out).mono ?_); rintro e w1 ⟨rfl, hb⟩; replace HB := HB.trans (hb.mono HB.size); (try replace HE := HE.below hb); (try replace HM := HM.below hb); (try replace B1 := IBox.below B1 hb (IBox.lt B1)); (try replace c1_2 := cell_below hb c1_2); (try replace c1_3 := cell_below hb c1_3); (try replace c1_6 := cell_below hb c1_6); (try replace c1_7 := cell_below hb c1_7); clear hb)
      | (go_at_call 50; (with_reducible refine (rsplitN _ _ HE.room Hroom.out).mono ?_); rintro e w1 ⟨rfl, hb⟩; replace HB := HB.trans (hb.mono HB.size); (try replace HE := HE.below hb); (try replace HM := HM.below hb); (try replace B1 := IBox.below B1 hb (IBox.lt B1)); (try replace c1_2 := cell_below hb c1_2); (try replace c1_3 := cell_below hb c1_3); (try replace c1_6 := cell_below hb c1_6); (try replace c1_7 := cell_below hb c1_7); clear hb)
      | (go_at_call 50; (with_reducible refine (rsplitY _ _ HE.sender Hnder.out).mono ?_); rintro e w1 ⟨rfl, hb⟩; replace HB := HB.trans (hb.mono HB.size); (try replace HE := HE.below hb); (try replace HM := HM.below hb); (try replace B1 := IBox.below B1 hb (IBox.lt B1)); (try replace c1_2 := cell_below hb c1_2); (try replace c1_3 := cell_below hb c1_3); (try replace c1_6 := cell_below hb c1_6); (try replace c1_7 := cell_below hb c1_7); clear hb)
      | (go_at_call 50; (with_reducible refine (rsplitN _ _ HE.sender Hnder.out).mono ?_); rintro e w1 ⟨rfl, hb⟩; replace HB := HB.trans (hb.mono HB.size); (try replace HE := HE.below hb); (try replace HM := HM.below hb); (try replace B1 := IBox.below B1 hb (IBox.lt B1)); (try replace c1_2 := cell_below hb c1_2); (try replace c1_3 := cell_below hb c1_3); (try replace c1_6 := cell_below hb c1_6); (try replace c1_7 := cell_below hb c1_7); clear hb)
      | (go_at_call 51; (with_reducible refine (rroomB_any _ _ HE.room).mono ?_); rintro e w1 ⟨rfl, hb⟩; replace HB := HB.trans (hb.mono HB.size); (try replace HE := HE.below hb); (try replace HM := HM.below hb); (try replace B1 := IBox.below B1 hb (IBox.lt B1)); (try replace c1_2 := cell_below hb c1_2); (try replace c1_3 := cell_below hb c1_3); (try replace c1_6 := cell_below hb c1_6); (try replace c1_7 := cell_below hb c1_7); clear hb)
      | (go_at_call 52; (with_reducible refine (ruserB_any _ _ HE.sender).mono ?_); rintro e w1 ⟨rfl, hb⟩; replace HB := HB.trans (hb.mono HB.size); (try replace HE := HE.below hb); (try replace HM := HM.below hb); (try replace B1 := IBox.below B1 hb (IBox.lt B1)); (try replace c1_2 := cell_below hb c1_2); (try replace c1_3 := cell_below hb c1_3); (try replace c1_6 := cell_below hb c1_6); (try replace c1_7 := cell_below hb c1_7); clear hb)
      | (refine wpl_load_arr rfl 30 (.tmp 34) rfl _ 10 rfl _ _ (ev_content B1) Try.underlying30 rfl info_value ?_)
      | (go_at_call 12; (with_reducible refine (rword_any _ _ _ HE.content).mono ?_); rintro e w1 ⟨rfl, hb⟩; replace HB := HB.trans (hb.mono HB.size); (try replace HE := HE.below hb); (try replace HM := HM.below hb); (try replace B1 := IBox.below B1 hb (IBox.lt B1)); (try replace c1_2 := cell_below hb c1_2); (try replace c1_3 := cell_below hb c1_3); (try replace c1_6 := cell_below hb c1_6); (try replace c1_7 := cell_below hb c1_7); clear hb))
    all_goals
      go_ret
      exact ⟨ret_int (by unfold createS; rw [Hroom.out, Hnder.out]; simp_all), HB⟩
end Go.Proofs.Ytpmdpfgaafaceaa
