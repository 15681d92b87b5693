/- Layer 19: the law MakeCreates answers true. -/
import Derived.Test.YtmpoejgclalmfaaGreatMkK
import Derived.Test.YtmpoejgclalmfaaGreatNamesCd
namespace Go.Proofs.YtmpoejgclalmfaaGreat
open Go.RowKit Go.PlainAid
set_option linter.unusedVariables false
set_option linter.unusedSimpArgs false

theorem create_ok (room sender : ByteArray) (stamp : Int) (w : World) (hr : room.size ≤ reach) (hs : sender.size ≤ reach) (HM : HasMax w) (hc : (roomB room && userB sender && stampB stamp) = true) :
    Calls Tryz.prog 5 #[.string room, .string sender, .int .i64 stamp] w fun e w' => ∃ j, e = .returned (.tuple #[.agg j.cells, .nilIface]) ∧ IsJV w' j ∧ er j = crE room sender stamp ∧ Below w.heap.size w w' :=
  (create_any room sender stamp w hr hs HM).mono fun e w' ⟨hb, h⟩ => by
    rw [if_pos hc] at h
    obtain ⟨j, h1, h2, h3⟩ := h
    exact ⟨j, h1, h2, h3, hb⟩
theorem create_bad (room sender : ByteArray) (stamp : Int) (w : World) (hr : room.size ≤ reach) (hs : sender.size ≤ reach) (HM : HasMax w) (hc : (roomB room && userB sender && stampB stamp) = false) :
    Calls Tryz.prog 5 #[.string room, .string sender, .int .i64 stamp] w fun e w' => e = .returned (.tuple #[.agg JV.zero.cells, .iface 43 (.int .i64 8)]) ∧ Below w.heap.size w w' :=
  (create_any room sender stamp w hr hs HM).mono fun e w' ⟨hb, h⟩ => by
    rw [if_neg (by rw [hc]; decide)] at h
    exact ⟨h, hb⟩
theorem rcreate_ok (room sender : ByteArray) (stamp : Int) (w : World) (hr : room.size ≤ reach) (hs : sender.size ≤ reach) (hc : (roomB room && userB sender && stampB stamp) = true) :
    Calls Tryz.prog 6 #[.string room, .string sender, .int .i64 stamp] w fun e w' => ∃ j, e = .returned (.tuple #[.agg j.cells, .int .i64 0]) ∧ IsJV w' j ∧ er j = crE room sender stamp ∧ Below w.heap.size w w' :=
  (rcreate_any room sender stamp w hr hs).mono fun e w' ⟨hb, h⟩ => by
    rw [if_pos hc] at h
    obtain ⟨j, h1, h2, h3⟩ := h
    exact ⟨j, h1, h2, h3, hb⟩
theorem rcreate_bad (room sender : ByteArray) (stamp : Int) (w : World) (hr : room.size ≤ reach) (hs : sender.size ≤ reach) (hc : (roomB room && userB sender && stampB stamp) = false) :
    Calls Tryz.prog 6 #[.string room, .string sender, .int .i64 stamp] w fun e w' => e = .returned (.tuple #[.agg JV.zero.cells, .int .i64 8]) ∧ Below w.heap.size w w' :=
  (rcreate_any room sender stamp w hr hs).mono fun e w' ⟨hb, h⟩ => by
    rw [if_neg (by rw [hc]; decide)] at h
    exact ⟨h, hb⟩
theorem zero_is (w : World) : IsJV w JV.zero := leaf_is w mi0 mi0 mze
theorem ex_ok : (roomB exRoom && userB exUser && stampB 5) = true := by rw [exRoom_is, exUser_is]; decide
theorem nine {w : World} {j : JV} {room sender : ByteArray} {stamp : Int} (hj : IsJV w j) (he : er j = crE room sender stamp) : j.v.Fn = 9 := by
  have h1 := jv_lens hj
  have h2 := (er_parts (j := j) (k := objJ none 0 (crL room sender stamp none 0)) he).2.2.2.2.2.1
  have h3 : (objJ none 0 (crL room sender stamp none 0)).ns.length = 9 := rfl
  rw [← h2] at h3
  omega
theorem vc0_build (w : World) : (Instr.build 26 #[(0, .int .i64 5)]).run Tryz.prog w = .ok (.agg (VC (.slice none 0 0))) w := by kernel_rfl
theorem evm_build (w : World) : (Instr.build 42 #[(1, .string ⟨#[109, 46, 114, 111, 111, 109, 46, 109, 101, 115, 115, 97, 103, 101]⟩), (3, .string exUser), (10, .agg (VC (.slice none 0 0)))]).run Tryz.prog w = .ok (.agg evM) w := by kernel_rfl
set_option maxRecDepth 10000 in
set_option maxHeartbeats 4000000 in
theorem up_any (w : World) (HM : HasMax w) : Calls Tryz.prog 4 #[] w fun e w' => e = .returned (.bool true) ∧ Below w.heap.size w w' := by
  have HB := Below.refl w.heap.size w
  have he := eql_code
  go_enter Tryz.func4, Tryz.ntmps4
  go_wp2_with (first
    | (go_at_call 5; (refine (create_ok exRoom exUser 5 _ (by decide) (by decide) HM ex_ok).mono ?_); rintro e w9 ⟨j, rfl, HJ, HEJ, hb⟩; have HN := nine HJ HEJ; replace HB := HB.trans (hb.mono HB.size); replace HM := HM.below hb; clear hb)
    | ((with_reducible refine is_alloc ?_); refine wpl_newbox 1 rfl rfl 26 rfl rfl (.tmp 12) rfl _ zeroV j.cells rfl rfl info_value rfl (jv_one _) ?_; intro w1 hw; have hb := hid_grow hw; have B1 := (hid_alloc hw).1; clear hw; have c1_5 : w1.cell? ⟨_, 5, none⟩ = some (.slice j.v.FA j.v.Fn j.v.Fc) := B1.cell 5; rw [HN] at c1_5; replace HB := HB.trans (hb.mono HB.size); replace HM := HM.below hb; (try replace B3 := IBox.below B3 hb (IBox.lt B3)); (try replace BR := IBox.below BR hb (IBox.lt BR)); (try replace HJ := IsJV.below hb HJ); (try replace HK := IsJV.below hb HK); (try replace hm := map_below hb hm); clear hb)
    | (go_at_call 6; (refine (rcreate_ok exRoom exUser 5 _ (by decide) (by decide) ex_ok).mono ?_); rintro e w9 ⟨k, rfl, HK, HEK, hb⟩; replace HB := HB.trans (hb.mono HB.size); replace HM := HM.below hb; (try replace B1 := IBox.below B1 hb (IBox.lt B1)); (try replace B3 := IBox.below B3 hb (IBox.lt B3)); (try replace BR := IBox.below BR hb (IBox.lt BR)); (try replace HJ := IsJV.below hb HJ); (try replace hm := map_below hb hm); (try replace c1_5 := cell_below hb c1_5); clear hb)
    | ((with_reducible refine is_alloc ?_); refine wpl_newbox 3 rfl rfl 26 rfl rfl (.tmp 16) rfl _ zeroV k.cells rfl rfl info_value rfl (jv_one _) ?_; intro w1 hw; have hb := hid_grow hw; have B3 := (hid_alloc hw).1; clear hw; replace HB := HB.trans (hb.mono HB.size); replace HM := HM.below hb; (try replace B1 := IBox.below B1 hb (IBox.lt B1)); (try replace BR := IBox.below BR hb (IBox.lt BR)); (try replace HJ := IsJV.below hb HJ); (try replace HK := IsJV.below hb HK); (try replace hm := map_below hb hm); (try replace c1_5 := cell_below hb c1_5); clear hb)
    | (go_at_call 9; (refine (new_lit _ HM).mono ?_); rintro e w9 ⟨g, m1, m2, rfl, BR, hm, hb⟩; replace HB := HB.trans (hb.mono HB.size); replace HM := HM.below hb; (try replace B1 := IBox.below B1 hb (IBox.lt B1)); (try replace B3 := IBox.below B3 hb (IBox.lt B3)); (try replace HJ := IsJV.below hb HJ); (try replace HK := IsJV.below hb HK); (try replace c1_5 := cell_below hb c1_5); clear hb)
    | ((with_reducible refine is_build ?_); refine wpl_build_at vc0_build rfl _ rfl rfl ?_)
    | ((with_reducible refine is_build ?_); refine wpl_build_at evm_build rfl _ rfl rfl ?_)
    | (go_at_call 10; (refine (draft_empty BR hm HM).mono ?_); rintro e w9 ⟨rfl, hb⟩; replace HB := HB.trans (hb.mono HB.size); replace HM := HM.below hb; (try replace B1 := IBox.below B1 hb (IBox.lt B1)); (try replace B3 := IBox.below B3 hb (IBox.lt B3)); (try replace BR := IBox.below BR hb (IBox.lt BR)); (try replace HJ := IsJV.below hb HJ); (try replace HK := IsJV.below hb HK); (try replace hm := map_below hb hm); (try replace c1_5 := cell_below hb c1_5); clear hb)
    | ((with_reducible refine is_alloc ?_); refine wpl_newbox 7 rfl rfl 26 rfl rfl (.tmp 33) rfl _ zeroV JV.zero.cells rfl rfl info_value rfl (jv_one _) ?_; intro w1 hw; have hb := hid_grow hw; have B7 := (hid_alloc hw).1; clear hw; replace HB := HB.trans (hb.mono HB.size); replace HM := HM.below hb; (try replace B1 := IBox.below B1 hb (IBox.lt B1)); (try replace B3 := IBox.below B3 hb (IBox.lt B3)); (try replace BR := IBox.below BR hb (IBox.lt BR)); (try replace HJ := IsJV.below hb HJ); (try replace HK := IsJV.below hb HK); (try replace hm := map_below hb hm); (try replace c1_5 := cell_below hb c1_5); clear hb)
    | ((with_reducible refine is_load ?_); refine wpl_load_box rfl 26 (.tmp 1) rfl _ rfl _ _ _ B1 Tryz.underlying26 rfl info_value ?_)
    | ((with_reducible refine is_load ?_); refine wpl_load_box rfl 26 (.tmp 3) rfl _ rfl _ _ _ B3 Tryz.underlying26 rfl info_value ?_)
    | (go_at_call 7; (with_reducible refine (same_any HJ HK (HEJ.trans HEK.symm)).mono ?_); rintro e w9 ⟨rfl, hb⟩; replace HB := HB.trans (hb.mono HB.size); replace HM := HM.below hb; (try replace B1 := IBox.below B1 hb (IBox.lt B1)); (try replace B3 := IBox.below B3 hb (IBox.lt B3)); (try replace BR := IBox.below BR hb (IBox.lt BR)); (try replace HJ := IsJV.below hb HJ); (try replace HK := IsJV.below hb HK); (try replace hm := map_below hb hm); (try replace c1_5 := cell_below hb c1_5); clear hb))
  go_ret
  exact ⟨rfl, HB⟩
set_option maxRecDepth 10000 in
set_option maxHeartbeats 4000000 in
theorem law_good (room sender : ByteArray) (stamp : Int) (w : World) (hr : room.size ≤ reach) (hs : sender.size ≤ reach) (HM : HasMax w) (hc : Hid ((roomB room && userB sender && stampB stamp) = true)) :
    Calls Tryz.prog 3 #[.string room, .string sender, .int .i64 stamp] w fun e w' => e = .returned (.bool true) ∧ Below w.heap.size w w' := by
  have HB := Below.refl w.heap.size w
  go_enter Tryz.func3, Tryz.ntmps3
  go_wp2_with (first
    | (go_at_call 4; (with_reducible refine (up_any _ HM).mono ?_); rintro e w9 ⟨rfl, hb⟩; replace HB := HB.trans (hb.mono HB.size); replace HM := HM.below hb; clear hb)
    | (go_at_call 5; (with_reducible refine (create_ok room sender stamp _ hr hs HM hc.out).mono ?_); rintro e w9 ⟨j, rfl, HJ, HEJ, hb⟩; replace HB := HB.trans (hb.mono HB.size); replace HM := HM.below hb; clear hb)
    | ((with_reducible refine is_alloc ?_); refine wpl_newbox 8 rfl rfl 26 rfl rfl (.tmp 19) rfl _ zeroV j.cells rfl rfl info_value rfl (jv_one _) ?_; intro w1 hw; have hb := hid_grow hw; have B1 := (hid_alloc hw).1; clear hw; replace HB := HB.trans (hb.mono HB.size); replace HM := HM.below hb; (try replace B3 := IBox.below B3 hb (IBox.lt B3)); (try replace BR := IBox.below BR hb (IBox.lt BR)); (try replace HJ := IsJV.below hb HJ); (try replace HK := IsJV.below hb HK); (try replace hm := map_below hb hm); (try replace c1_5 := cell_below hb c1_5); clear hb)
    | (go_at_call 6; (with_reducible refine (rcreate_ok room sender stamp _ hr hs hc.out).mono ?_); rintro e w9 ⟨k, rfl, HK, HEK, hb⟩; replace HB := HB.trans (hb.mono HB.size); replace HM := HM.below hb; (try replace B1 := IBox.below B1 hb (IBox.lt B1)); (try replace B3 := IBox.below B3 hb (IBox.lt B3)); (try replace BR := IBox.below BR hb (IBox.lt BR)); (try replace HJ := IsJV.below hb HJ); (try replace hm := map_below hb hm); (try replace c1_5 := cell_below hb c1_5); clear hb)
    | ((with_reducible refine is_alloc ?_); refine wpl_newbox 10 rfl rfl 26 rfl rfl (.tmp 26) rfl _ zeroV k.cells rfl rfl info_value rfl (jv_one _) ?_; intro w1 hw; have hb := hid_grow hw; have B3 := (hid_alloc hw).1; clear hw; replace HB := HB.trans (hb.mono HB.size); replace HM := HM.below hb; (try replace B1 := IBox.below B1 hb (IBox.lt B1)); (try replace BR := IBox.below BR hb (IBox.lt BR)); (try replace HJ := IsJV.below hb HJ); (try replace HK := IsJV.below hb HK); (try replace hm := map_below hb hm); (try replace c1_5 := cell_below hb c1_5); clear hb)
    | ((with_reducible refine is_load ?_); refine wpl_load_box rfl 26 (.tmp 8) rfl _ rfl _ _ _ B1 Tryz.underlying26 rfl info_value ?_)
    | ((with_reducible refine is_load ?_); refine wpl_load_box rfl 26 (.tmp 10) rfl _ rfl _ _ _ B3 Tryz.underlying26 rfl info_value ?_)
    | (go_at_call 7; (with_reducible refine (same_any HJ HK (HEJ.trans HEK.symm)).mono ?_); rintro e w9 ⟨rfl, hb⟩; replace HB := HB.trans (hb.mono HB.size); replace HM := HM.below hb; (try replace B1 := IBox.below B1 hb (IBox.lt B1)); (try replace B3 := IBox.below B3 hb (IBox.lt B3)); (try replace BR := IBox.below BR hb (IBox.lt BR)); (try replace HJ := IsJV.below hb HJ); (try replace HK := IsJV.below hb HK); (try replace hm := map_below hb hm); (try replace c1_5 := cell_below hb c1_5); clear hb)
    | (go_at_call 8; (with_reducible refine (code_nil _).mono ?_); rintro e w4 ⟨rfl, rfl⟩))
  go_ret
  exact ⟨rfl, HB⟩
set_option maxRecDepth 10000 in
set_option maxHeartbeats 4000000 in
theorem law_bad (room sender : ByteArray) (stamp : Int) (w : World) (hr : room.size ≤ reach) (hs : sender.size ≤ reach) (HM : HasMax w) (hc : Hid ((roomB room && userB sender && stampB stamp) = false)) :
    Calls Tryz.prog 3 #[.string room, .string sender, .int .i64 stamp] w fun e w' => e = .returned (.bool true) ∧ Below w.heap.size w w' := by
  have HB := Below.refl w.heap.size w
  go_enter Tryz.func3, Tryz.ntmps3
  go_wp2_with (first
    | (go_at_call 4; (with_reducible refine (up_any _ HM).mono ?_); rintro e w9 ⟨rfl, hb⟩; replace HB := HB.trans (hb.mono HB.size); replace HM := HM.below hb; clear hb)
    | (go_at_call 5; (with_reducible refine (create_bad room sender stamp _ hr hs HM hc.out).mono ?_); rintro e w9 ⟨rfl, hb⟩; replace HB := HB.trans (hb.mono HB.size); replace HM := HM.below hb; clear hb)
    | ((with_reducible refine is_alloc ?_); refine wpl_newbox 8 rfl rfl 26 rfl rfl (.tmp 19) rfl _ zeroV JV.zero.cells rfl rfl info_value rfl (jv_one _) ?_; intro w1 hw; have hb := hid_grow hw; have B1 := (hid_alloc hw).1; clear hw; replace HB := HB.trans (hb.mono HB.size); replace HM := HM.below hb; (try replace B3 := IBox.below B3 hb (IBox.lt B3)); (try replace BR := IBox.below BR hb (IBox.lt BR)); (try replace HJ := IsJV.below hb HJ); (try replace HK := IsJV.below hb HK); (try replace hm := map_below hb hm); (try replace c1_5 := cell_below hb c1_5); clear hb)
    | (go_at_call 6; (with_reducible refine (rcreate_bad room sender stamp _ hr hs hc.out).mono ?_); rintro e w9 ⟨rfl, hb⟩; replace HB := HB.trans (hb.mono HB.size); replace HM := HM.below hb; (try replace B1 := IBox.below B1 hb (IBox.lt B1)); (try replace B3 := IBox.below B3 hb (IBox.lt B3)); (try replace BR := IBox.below BR hb (IBox.lt BR)); (try replace HJ := IsJV.below hb HJ); (try replace HK := IsJV.below hb HK); (try replace hm := map_below hb hm); (try replace c1_5 := cell_below hb c1_5); clear hb)
    | ((with_reducible refine is_alloc ?_); refine wpl_newbox 10 rfl rfl 26 rfl rfl (.tmp 26) rfl _ zeroV JV.zero.cells rfl rfl info_value rfl (jv_one _) ?_; intro w1 hw; have hb := hid_grow hw; have B3 := (hid_alloc hw).1; clear hw; replace HB := HB.trans (hb.mono HB.size); replace HM := HM.below hb; (try replace B1 := IBox.below B1 hb (IBox.lt B1)); (try replace BR := IBox.below BR hb (IBox.lt BR)); (try replace HJ := IsJV.below hb HJ); (try replace HK := IsJV.below hb HK); (try replace hm := map_below hb hm); (try replace c1_5 := cell_below hb c1_5); clear hb)
    | ((with_reducible refine is_load ?_); refine wpl_load_box rfl 26 (.tmp 8) rfl _ rfl _ _ _ B1 Tryz.underlying26 rfl info_value ?_)
    | ((with_reducible refine is_load ?_); refine wpl_load_box rfl 26 (.tmp 10) rfl _ rfl _ _ _ B3 Tryz.underlying26 rfl info_value ?_)
    | (go_at_call 7; (with_reducible refine (same_any (zero_is _) (zero_is _) rfl).mono ?_); rintro e w9 ⟨rfl, hb⟩; replace HB := HB.trans (hb.mono HB.size); replace HM := HM.below hb; (try replace B1 := IBox.below B1 hb (IBox.lt B1)); (try replace B3 := IBox.below B3 hb (IBox.lt B3)); (try replace BR := IBox.below BR hb (IBox.lt BR)); (try replace HJ := IsJV.below hb HJ); (try replace HK := IsJV.below hb HK); (try replace hm := map_below hb hm); (try replace c1_5 := cell_below hb c1_5); clear hb)
    | (go_at_call 8; (with_reducible refine (code_8 _).mono ?_); rintro e w4 ⟨rfl, rfl⟩))
  go_ret
  exact ⟨rfl, HB⟩
theorem law_any (room sender : ByteArray) (stamp : Int) (w : World) (hr : room.size ≤ reach) (hs : sender.size ≤ reach) (HM : HasMax w) :
    Calls Tryz.prog 3 #[.string room, .string sender, .int .i64 stamp] w fun e w' => e = .returned (.bool true) ∧ Below w.heap.size w w' := by
  cases hc : (roomB room && userB sender && stampB stamp)
  · exact law_bad room sender stamp w hr hs HM (Lib.hid hc)
  · exact law_good room sender stamp w hr hs HM (Lib.hid hc)
theorem hasMax_of (W : World) (h : W.ShapedOpen Tryz.prog) : HasMax W := by
  obtain ⟨m, hm⟩ : ∃ m, W.cell? ⟨0, 0, none⟩ = some (.int .i64 m) := Tryz.laysM144.s1_3 W h
  refine ⟨⟨m, hm⟩, ?_⟩
  rcases Nat.lt_or_ge 0 W.heap.size with hlt | hge
  · exact hlt
  · exfalso
    have : W.heap[0]? = none := Array.getElem?_eq_none hge
    simp [World.cell?, this] at hm
end Go.Proofs.YtmpoejgclalmfaaGreat
