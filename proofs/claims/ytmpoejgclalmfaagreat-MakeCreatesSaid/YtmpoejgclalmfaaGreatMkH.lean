/- Layer 19: make.Create: a room's first event, or error 8. -/
import Derived.Test.YtmpoejgclalmfaaGreatMkG
namespace Go.Proofs.YtmpoejgclalmfaaGreat
open Go.RowKit Go.PlainAid
set_option linter.unusedVariables false
set_option linter.unusedSimpArgs false

theorem leaf_is (w : World) {k i : Int} {t : ByteArray} (hk : I64 k) (hi : I64 i) (ht : t.size ≤ reach) : IsJV w (.mk ⟨k, false, i, t, none, 0, 0, none, 0, 0⟩ [] [] []) := by
  unfold IsJV
  refine ⟨⟨hk, hi, ht, rfl, rfl, rfl, mz80, (by decide : 0 * 96 ≤ reach), ?_⟩, ?_, ?_⟩
  · unfold NamesAt; exact True.intro
  · unfold IsRow; exact True.intro
  · unfold IsRow; exact True.intro
theorem text_is (w : World) {s : ByteArray} (hs : s.size ≤ reach) : IsJV w (exText s) := leaf_is w (by unfold I64; decide) mi0 hs
theorem int_is (w : World) {n : Int} (hn : I64 n) : IsJV w (exInt n) := leaf_is w (by unfold I64; decide) hn mze
theorem none_is (w : World) : IsJV w exNone := leaf_is w (by unfold I64; decide) mi0 mze
/-- The tree of a room's first event. -/
def crE (room sender : ByteArray) (stamp : Int) : JT := er (objJ none 0 (crL room sender stamp none 0))
theorem crE_any (room sender : ByteArray) (stamp : Int) (A : Option Addr) (c : Nat) (A2 : Option Addr) (c2 : Nat) : er (objJ A c (crL room sender stamp A2 c2)) = crE room sender stamp := by
  unfold crE
  rw [er_obj, er_obj]
  simp only [crL, List.map_cons, List.map_nil, er_obj]
theorem stamp_i64 {n : Int} (h : stampB n = true) : I64 n := by
  unfold stampB at h; unfold I64
  simp at h
  omega
theorem cr_is {room sender : ByteArray} {stamp : Int} {w : World} {b1 b2 : Nat} {A A2 : Option Addr} {c c2 : Nat} {t1 t2 : TypeId} (h1 : w.ownsRow b1 t1 7 (.slice A 9 c) 9 (fldL (crL room sender stamp A2 c2)))
    (h2 : w.ownsRow b2 t2 7 (.slice A2 1 c2) 1 (fldL [(rvN, exText rvV)])) (hr : room.size ≤ reach) (hs : sender.size ≤ reach) (hst : I64 stamp) : IsJV w (objJ A c (crL room sender stamp A2 c2)) := by
  have k2 : IsJV w (objJ A2 c2 [(rvN, exText rvV)]) := by
    obtain ⟨A3, c3, e, h⟩ := own_obj h2 rfl (fun p hp => by
      simp only [List.mem_singleton] at hp
      subst hp
      exact ⟨by decide, text_is w (by decide)⟩) (by decide)
    injection e with e1 e2 e3
    subst e1 e3
    exact h
  obtain ⟨A3, c3, e, h⟩ := own_obj h1 rfl (fun p hp => by
    simp only [crL, List.mem_cons, List.not_mem_nil, or_false] at hp
    rcases hp with rfl | rfl | rfl | rfl | rfl | rfl | rfl | rfl | rfl
    · exact ⟨by dsimp only; decide, none_is w⟩
    · exact ⟨by dsimp only; decide, k2⟩
    · exact ⟨by dsimp only; decide, int_is w mi0⟩
    · exact ⟨by dsimp only; decide, int_is w hst⟩
    · exact ⟨by dsimp only; decide, none_is w⟩
    · exact ⟨by dsimp only; decide, text_is w hr⟩
    · exact ⟨by dsimp only; decide, text_is w hs⟩
    · exact ⟨by dsimp only; decide, text_is w mze⟩
    · exact ⟨by dsimp only; decide, text_is w (by decide)⟩) (by show 9 * 96 ≤ reach; decide)
  injection e with e1 e2 e3
  subst e1 e3
  exact h
theorem vc_build (A : Option Addr) (n c : Nat) (w : World) : (Instr.build 26 #[(0, .int .i64 5), (5, .slice A n c)]).run Tryz.prog w = .ok (.agg (VC (.slice A n c))) w := by kernel_rfl
theorem ev_build (room sender : ByteArray) (stamp : Int) (u : Value) (w : World) : (Instr.build 42 #[(1, .string crT), (2, .string room), (3, .string sender), (4, .bool true), (9, .int .i64 stamp), (10, .agg (VC u))]).run Tryz.prog w = .ok (.agg (evC room sender stamp u)) w := by kernel_rfl
set_option maxRecDepth 10000 in
set_option maxHeartbeats 4000000 in
theorem create_any (room sender : ByteArray) (stamp : Int) (w : World) (hr : room.size ≤ reach) (hs : sender.size ≤ reach) (HM : HasMax w) :
    Calls Tryz.prog 5 #[.string room, .string sender, .int .i64 stamp] w fun e w' => Below w.heap.size w w' ∧
      (if (roomB room && userB sender && stampB stamp) = true then ∃ j, e = .returned (.tuple #[.agg j.cells, .nilIface]) ∧ IsJV w' j ∧ er j = crE room sender stamp
        else e = .returned (.tuple #[.agg JV.zero.cells, .iface 43 (.int .i64 8)])) := by
  have HB := Below.refl w.heap.size w
  obtain ⟨ie, z, h1, h2, h3, h4, h5⟩ := fld_slice0
  have HIE := Lib.hid h1
  have HZ := Lib.hid h2
  have HSZ := Lib.hid h3
  clear h1 h2 h3
  generalize hA : roomB room = RA
  generalize hU : userB sender = UB
  generalize hT : stampB stamp = TB
  have HA := Lib.hid hA
  have HU := Lib.hid hU
  have HT := Lib.hid hT
  clear hA hU hT
  cases RA <;> cases UB <;> cases TB
  all_goals
    go_enter Tryz.func5, Tryz.ntmps5
    go_wp2_with (first
      | (go_at_call 11; (with_reducible refine (roomB_any _ _ hr HM).mono ?_); rw [HA.out]; rintro e w9 ⟨rfl, hb⟩; replace HB := HB.trans (hb.mono HB.size); (try replace HM := HM.below hb); (try replace B6 := IBox.below B6 hb (IBox.lt B6)); (try replace B8 := IBox.below B8 hb (IBox.lt B8)); (try replace BS := IBox.below BS hb (IBox.lt BS)); clear hb)
      | (go_at_call 12; (with_reducible refine (userB_any _ _ hs HM).mono ?_); rw [HU.out]; rintro e w9 ⟨rfl, hb⟩; replace HB := HB.trans (hb.mono HB.size); (try replace HM := HM.below hb); (try replace B6 := IBox.below B6 hb (IBox.lt B6)); (try replace B8 := IBox.below B8 hb (IBox.lt B8)); (try replace BS := IBox.below BS hb (IBox.lt BS)); clear hb)
      | (go_at_call 13; (with_reducible refine (stamped_any _ _).mono ?_); rw [HT.out]; rintro e w9 ⟨rfl, hb⟩; replace HB := HB.trans (hb.mono HB.size); (try replace HM := HM.below hb); (try replace B6 := IBox.below B6 hb (IBox.lt B6)); (try replace B8 := IBox.below B8 hb (IBox.lt B8)); (try replace BS := IBox.below BS hb (IBox.lt BS)); clear hb)
      | (go_at_call 14; (with_reducible refine (mtext_any _ _).mono ?_); rintro e w9 ⟨rfl, hb⟩; replace HB := HB.trans (hb.mono HB.size); (try replace HM := HM.below hb); (try replace B6 := IBox.below B6 hb (IBox.lt B6)); (try replace B8 := IBox.below B8 hb (IBox.lt B8)); (try replace BS := IBox.below BS hb (IBox.lt BS)); clear hb)
      | (go_at_call 15; (with_reducible refine (draft_create _ _ _ (box_range BS)).mono ?_); rintro e w9 ⟨A1, c1, A2, c2, rfl, HO1, HO2, hb⟩; have GX := IBox.lt B6; replace HB := HB.trans (hb.mono HB.size); (try replace B6 := IBox.below B6 hb (IBox.lt B6)); (try replace B8 := IBox.below B8 hb (IBox.lt B8)); (try replace BS := IBox.below BS hb (IBox.lt BS)); clear hb)
      | ((with_reducible refine is_build ?_); refine wpl_build_at (fld_build rvN (exText rvV)) rfl _ rfl rfl ?_)
      | ((with_reducible refine is_build ?_); refine wpl_build_at (vc_build _ _ _) rfl _ rfl rfl ?_)
      | ((with_reducible refine is_build ?_); refine wpl_build_at (ev_build room sender stamp _) rfl _ rfl rfl ?_)
      | ((with_reducible refine is_slice ?_); refine wpl_slice_at 1 [(0, .agg (fldA (rvN, exText rvV)))] (fldA (rvN, exText rvV)) ie z (by rw [HSZ.out, h5]; exact fld_fill _) rfl 24 48 _ rfl rfl rfl HIE.out HZ.out (by rw [HSZ.out]; decide) (by rw [HSZ.out]; decide) ?_; intro w3 hw; have hb := hid_grow hw; have BS := (hid_alloc hw).1; replace HB := HB.trans (hb.mono HB.size); replace B6 := IBox.below B6 hb (IBox.lt B6); clear hb hw)
      | ((with_reducible refine is_alloc ?_); refine wpl_newbox 8 rfl rfl 26 rfl rfl (.tmp 27) rfl _ zeroV (VC _) rfl rfl info_value rfl VC_one ?_; intro w4 hw; have hb := hid_grow hw; have B8 := (hid_alloc hw).1; replace HB := HB.trans (hb.mono HB.size); replace B6 := IBox.below B6 hb (IBox.lt B6); replace BS := IBox.below BS hb (IBox.lt BS); clear hb hw)
      | ((with_reducible refine is_alloc ?_); refine wpl_alloc_at rfl 26 rfl _ zeroV ?_; intro w2 hw; have hb := hid_grow hw; have B6 := hid_alloc0 hw; have G6 := HB.size; replace HB := HB.trans (hb.mono HB.size); replace HM := HM.below hb; clear hb hw)
      | ((with_reducible refine is_load ?_); refine wpl_load_box rfl 26 (.tmp 8) rfl _ rfl _ _ _ B8 Tryz.underlying26 rfl info_value ?_)
      | ((with_reducible refine is_store ?_); refine wpl_store_at rfl 26 (.tmp 6) (.tmp 22) rfl _ JV.zero.cells rfl rfl _ _ B6 info_value rfl (jv_one _) ?_; intro w5 hw; have hq := hid_row_below hw G6 HB; replace HB := hq.1; replace B6 := hid_row hw B6; clear hw hq)
      | ((with_reducible refine is_store ?_); refine wpl_store_at rfl 26 (.tmp 6) (.tmp 33) rfl _ (VC _) rfl rfl _ _ B6 info_value rfl VC_one ?_; intro w5 hw; have hbe := Bes.row (X := fun k => k = w.heap.size) hw rfl; have hq := hid_row_below hw G6 HB; replace HB := hq.1; replace B6 := hid_row hw B6; clear hw hq))
  all_goals try (refine bodyPost_ret (results_box_tmp rfl _ _ w.heap.size 26 JV.zero.cells _ rfl B6 Tryz.underlying26 rfl info_value) rfl ⟨HB, rfl⟩)
  refine bodyPost_ret (results_box_tmp rfl _ _ w.heap.size 26 (VC _) _ rfl B6 Tryz.underlying26 rfl info_value) rfl ⟨HB, ?_⟩
  have HO3 := hbe.own HO1 (fun k e h => by have h1 := (own_in HO1 e).1; have h2 : k = w.heap.size := h; omega)
  have HO4 := hbe.own HO2 (fun k e h => by have h1 := (own_in HO2 e).1; have h2 : k = w.heap.size := h; omega)
  exact ⟨_, rfl, cr_is HO3 HO4 hr hs (stamp_i64 HT.out), crE_any _ _ _ _ _ _ _⟩
end Go.Proofs.YtmpoejgclalmfaaGreat
