/- Layer 19: the document's create. -/
import Derived.Test.YtmpoejgclalmfaaGreatMkI
namespace Go.Proofs.YtmpoejgclalmfaaGreat
open Go.RowKit Go.PlainAid
set_option linter.unusedVariables false
set_option linter.unusedSimpArgs false

theorem stampB_of {n : Int} {a b : Bool} (h1 : decide (0 ≤ n) = a) (h2 : decide (n ≤ 9007199254740991) = b) : stampB n = (a && b) := by unfold stampB; rw [h1, h2]
set_option maxRecDepth 10000 in
set_option maxHeartbeats 4000000 in
theorem rcreate_any (room sender : ByteArray) (stamp : Int) (w : World) (hr : room.size ≤ reach) (hs : sender.size ≤ reach) :
    Calls Tryz.prog 6 #[.string room, .string sender, .int .i64 stamp] w fun e w' => Below w.heap.size w w' ∧
      (if (roomB room && userB sender && stampB stamp) = true then ∃ j, e = .returned (.tuple #[.agg j.cells, .int .i64 0]) ∧ IsJV w' j ∧ er j = crE room sender stamp
        else e = .returned (.tuple #[.agg JV.zero.cells, .int .i64 8])) := by
  have HB := Below.refl w.heap.size w
  obtain ⟨ie, z, h1, h2, h3, h4, h5⟩ := fld_slice0
  have HIE := Lib.hid h1
  have HZ := Lib.hid h2
  have HSZ := Lib.hid h3
  clear h1 h2 h3
  generalize hA : roomB room = RA
  generalize hU : userB sender = UB
  generalize hT : stampB stamp = TB
  have HA := Lib.hid hA
  have HU := Lib.hid hU
  have HT := Lib.hid hT
  clear hA hU hT
  cases RA <;> cases UB <;> cases q1 : decide (0 ≤ stamp) <;> cases q2 : decide (stamp ≤ 9007199254740991)
  all_goals
    obtain rfl : TB = _ := HT.out.symm.trans (stampB_of q1 q2)
    simp only [decide_eq_true_eq, decide_eq_false_iff_not] at q1 q2
  all_goals
    go_enter Tryz.func6, Tryz.ntmps6
    go_wp2_with (first
      | (go_at_call 16; (with_reducible refine (rroomB_any _ _ hr).mono ?_); rw [HA.out]; rintro e w9 ⟨rfl, hb⟩; replace HB := HB.trans (hb.mono HB.size); (try replace B6 := IBox.below B6 hb (IBox.lt B6)); (try replace B8 := IBox.below B8 hb (IBox.lt B8)); (try replace BS := IBox.below BS hb (IBox.lt BS)); clear hb)
      | (go_at_call 17; (with_reducible refine (ruserB_any _ _ hs).mono ?_); rw [HU.out]; rintro e w9 ⟨rfl, hb⟩; replace HB := HB.trans (hb.mono HB.size); (try replace B6 := IBox.below B6 hb (IBox.lt B6)); (try replace B8 := IBox.below B8 hb (IBox.lt B8)); (try replace BS := IBox.below BS hb (IBox.lt BS)); clear hb)
      | (go_at_call 18; (with_reducible refine (rtext_any _ _).mono ?_); rintro e w9 ⟨rfl, hb⟩; replace HB := HB.trans (hb.mono HB.size); (try replace B6 := IBox.below B6 hb (IBox.lt B6)); (try replace B8 := IBox.below B8 hb (IBox.lt B8)); (try replace BS := IBox.below BS hb (IBox.lt BS)); clear hb)
      | (go_at_call 19; (with_reducible refine (told_create _ _ _ _).mono ?_); rintro e w9 ⟨A1, c1, rfl, HO1, hb⟩; have GX := IBox.lt B6; replace HB := HB.trans (hb.mono HB.size); (try replace B6 := IBox.below B6 hb (IBox.lt B6)); (try replace B8 := IBox.below B8 hb (IBox.lt B8)); (try replace BS := IBox.below BS hb (IBox.lt BS)); clear hb)
      | ((with_reducible refine is_build ?_); refine wpl_build_at (fld_build rvN (exText rvV)) rfl _ rfl rfl ?_)
      | ((with_reducible refine is_build ?_); refine wpl_build_at (vc_build _ _ _) rfl _ rfl rfl ?_)
      | ((with_reducible refine is_build ?_); refine wpl_build_at (ev_build room sender stamp _) rfl _ rfl rfl ?_)
      | ((with_reducible refine is_slice ?_); refine wpl_slice_at 1 [(0, .agg (fldA (rvN, exText rvV)))] (fldA (rvN, exText rvV)) ie z (by rw [HSZ.out, h5]; exact fld_fill _) rfl 24 48 _ rfl rfl rfl HIE.out HZ.out (by rw [HSZ.out]; decide) (by rw [HSZ.out]; decide) ?_; intro w3 hw; have hb := hid_grow hw; have BS := (hid_alloc hw).1; have GS := IBox.lt B6; replace HB := HB.trans (hb.mono HB.size); replace B6 := IBox.below B6 hb (IBox.lt B6); clear hb hw)
      | ((with_reducible refine is_alloc ?_); refine wpl_newbox 10 rfl rfl 26 rfl rfl (.tmp 33) rfl _ zeroV (VC _) rfl rfl info_value rfl VC_one ?_; intro w4 hw; have hb := hid_grow hw; have B8 := (hid_alloc hw).1; replace HB := HB.trans (hb.mono HB.size); replace B6 := IBox.below B6 hb (IBox.lt B6); replace BS := IBox.below BS hb (IBox.lt BS); clear hb hw)
      | ((with_reducible refine is_alloc ?_); refine wpl_alloc_at rfl 26 rfl _ zeroV ?_; intro w2 hw; have hb := hid_grow hw; have B6 := hid_alloc0 hw; have G6 := HB.size; replace HB := HB.trans (hb.mono HB.size); clear hb hw)
      | ((with_reducible refine is_load ?_); refine wpl_load_box rfl 26 (.tmp 10) rfl _ rfl _ _ _ B8 Tryz.underlying26 rfl info_value ?_)
      | ((with_reducible refine is_store ?_); refine wpl_store_at rfl 26 (.tmp 6) (.tmp 29) rfl _ JV.zero.cells rfl rfl _ _ B6 info_value rfl (jv_one _) ?_; intro w5 hw; have hq := hid_row_below hw G6 HB; replace HB := hq.1; replace B6 := hid_row hw B6; clear hw hq)
      | ((with_reducible refine is_store ?_); refine wpl_store_at rfl 26 (.tmp 6) (.tmp 39) rfl _ (VC _) rfl rfl _ _ B6 info_value rfl VC_one ?_; intro w5 hw; have hbe := Bes.row (X := fun k => k = w.heap.size) hw rfl; have hq := hid_row_below hw G6 HB; replace HB := hq.1; replace B6 := hid_row hw B6; replace BS := hid_row_other hw (Nat.ne_of_gt GS) BS; clear hw hq))
  all_goals try (refine bodyPost_ret (results_box_tmp rfl _ _ w.heap.size 26 JV.zero.cells _ rfl B6 Tryz.underlying26 rfl info_value) rfl ⟨HB, rfl⟩)
  refine bodyPost_ret (results_box_tmp rfl _ _ w.heap.size 26 (VC _) _ rfl B6 Tryz.underlying26 rfl info_value) rfl ⟨HB, ?_⟩
  have HO3 := hbe.own HO1 (fun k e h => by have h1 := (own_in HO1 e).1; have h2 : k = w.heap.size := h; omega)
  have HO4 := own_start (base := 0) (n := 1) (size := 7) BS (Nat.zero_le _) rfl (by unfold maxLen; decide)
  exact ⟨_, rfl, cr_is HO3 HO4 hr hs (stamp_i64 HT.out), crE_any _ _ _ _ _ _ _⟩
end Go.Proofs.YtmpoejgclalmfaaGreat
