/- Layer 2: coveylaw02.JsonSound is true. -/
import Derived.Test.YtjhncopbiblenaaDoorSnB
import Derived.Test.YtjhncopbiblenaaDoorJrQV
namespace Go.Proofs.YtjhncopbiblenaaDoor
open Go.RowKit Go.PlainAid
set_option linter.unusedVariables false
set_option linter.unusedSimpArgs false
theorem i64_32 : I64 32 := by unfold I64; decide
set_option maxRecDepth 10000 in
set_option maxHeartbeats 8000000 in
theorem jsound_any {w : World} (h : Wo w) {s : ByteArray} (hsr : s.size ≤ reach) : Calls Tryd.prog 4 #[.string s] w fun e w' => e = .returned (.bool true) ∧ Below w.heap.size w w' := by
  have HB := Below.refl w.heap.size w
  have HW := h
  by_cases hs : 65536 < s.size
  · have HSZ := Lib.hid hs
    clear hs
    go_enter Tryd.func4, Tryd.ntmps4
    go_wp2_with (first
      | (go_at_call 6; (with_reducible refine (shown_any HW).mono ?_); rintro e w1 ⟨rfl, hb⟩; (try replace hj := IsJV.below hb hj); (try replace B4 := IBox.below B4 hb (IBox.lt B4)); (try replace c0 := cell_below hb c0); (try replace c3 := cell_below hb c3); (try replace c4 := cell_below hb c4); (try replace c5 := cell_below hb c5); replace HB := HB.trans (hb.mono HB.size); replace HW := HW.below hb; clear hb)
      | (refine wpl_newbox 4 rfl rfl 25 rfl rfl (.tmp 11) rfl _ zeroV JV.zero.cells rfl rfl info_value rfl (jv_one _) ?_; intro w7 hw; have hb := hid_grow hw; have BX := (hid_alloc hw).1; clear hw; (try replace hj := IsJV.below hb hj); (try replace B4 := IBox.below B4 hb (IBox.lt B4)); (try replace c0 := cell_below hb c0); (try replace c3 := cell_below hb c3); (try replace c4 := cell_below hb c4); (try replace c5 := cell_below hb c5); replace HB := HB.trans (hb.mono HB.size); replace HW := HW.below hb; clear hb; have B4 := BX; clear BX; have c0 : w7.cell? ⟨_, 0, none⟩ = some (.int .i64 0) := B4.cell 0; have c3 : w7.cell? ⟨_, 3, none⟩ = some (.string ⟨#[]⟩) := B4.cell 3; have c4 : w7.cell? ⟨_, 4, none⟩ = some (.slice none 0 0) := B4.cell 4; have c5 : w7.cell? ⟨_, 5, none⟩ = some (.slice none 0 0) := B4.cell 5)
      | (go_at_call 10; (refine (parse_any HW.gl hsr).mono ?_); rintro e w2 ⟨hb, h2⟩; rw [if_pos HSZ.out] at h2; subst h2; (try replace hj := IsJV.below hb hj); (try replace B4 := IBox.below B4 hb (IBox.lt B4)); (try replace c0 := cell_below hb c0); (try replace c3 := cell_below hb c3); (try replace c4 := cell_below hb c4); (try replace c5 := cell_below hb c5); replace HB := HB.trans (hb.mono HB.size); replace HW := HW.below hb; clear hb))
    go_ret
    exact ⟨rfl, HB⟩
  · have HSZ := Lib.hid hs
    have HSZ2 : Hid (s.size ≤ 65536) := Lib.hid (by omega)
    clear hs
    cases hP : parseTo s with
    | bad c p =>
      have HP := Lib.hid hP
      clear hP
      go_enter Tryd.func4, Tryd.ntmps4
      go_wp2_with (first
        | (go_at_call 6; (with_reducible refine (shown_any HW).mono ?_); rintro e w1 ⟨rfl, hb⟩; (try replace hj := IsJV.below hb hj); (try replace B4 := IBox.below B4 hb (IBox.lt B4)); (try replace c0 := cell_below hb c0); (try replace c3 := cell_below hb c3); (try replace c4 := cell_below hb c4); (try replace c5 := cell_below hb c5); replace HB := HB.trans (hb.mono HB.size); replace HW := HW.below hb; clear hb)
        | (refine wpl_newbox 4 rfl rfl 25 rfl rfl (.tmp 11) rfl _ zeroV JV.zero.cells rfl rfl info_value rfl (jv_one _) ?_; intro w7 hw; have hb := hid_grow hw; have BX := (hid_alloc hw).1; clear hw; (try replace hj := IsJV.below hb hj); (try replace B4 := IBox.below B4 hb (IBox.lt B4)); (try replace c0 := cell_below hb c0); (try replace c3 := cell_below hb c3); (try replace c4 := cell_below hb c4); (try replace c5 := cell_below hb c5); replace HB := HB.trans (hb.mono HB.size); replace HW := HW.below hb; clear hb; have B4 := BX; clear BX; have c0 : w7.cell? ⟨_, 0, none⟩ = some (.int .i64 0) := B4.cell 0; have c3 : w7.cell? ⟨_, 3, none⟩ = some (.string ⟨#[]⟩) := B4.cell 3; have c4 : w7.cell? ⟨_, 4, none⟩ = some (.slice none 0 0) := B4.cell 4; have c5 : w7.cell? ⟨_, 5, none⟩ = some (.slice none 0 0) := B4.cell 5)
        | (go_at_call 10; (refine (parse_any HW.gl hsr).mono ?_); rintro e w2 ⟨hb, h2⟩; rw [if_neg HSZ.out, HP.out] at h2; obtain ⟨g, rfl, hg⟩ := h2; (try replace hj := IsJV.below hb hj); (try replace B4 := IBox.below B4 hb (IBox.lt B4)); (try replace c0 := cell_below hb c0); (try replace c3 := cell_below hb c3); (try replace c4 := cell_below hb c4); (try replace c5 := cell_below hb c5); replace HB := HB.trans (hb.mono HB.size); replace HW := HW.below hb; clear hb))
      go_ret
      exact ⟨rfl, HB⟩
    | ok t k =>
      have HG := Lib.hid (parse_good HSZ2.out hP)
      have HP := Lib.hid hP
      clear hP
      go_enter Tryd.func4, Tryd.ntmps4
      go_wp2_with (first
        | (go_at_call 6; (with_reducible refine (shown_any HW).mono ?_); rintro e w1 ⟨rfl, hb⟩; (try replace hj := IsJV.below hb hj); (try replace B4 := IBox.below B4 hb (IBox.lt B4)); (try replace c0 := cell_below hb c0); (try replace c3 := cell_below hb c3); (try replace c4 := cell_below hb c4); (try replace c5 := cell_below hb c5); replace HB := HB.trans (hb.mono HB.size); replace HW := HW.below hb; clear hb)
        | (refine wpl_newbox 4 rfl rfl 25 rfl rfl (.tmp 11) rfl _ zeroV j.cells rfl rfl info_value rfl (jv_one _) ?_; intro w7 hw; have hb := hid_grow hw; have BX := (hid_alloc hw).1; clear hw; (try replace hj := IsJV.below hb hj); (try replace B4 := IBox.below B4 hb (IBox.lt B4)); (try replace c0 := cell_below hb c0); (try replace c3 := cell_below hb c3); (try replace c4 := cell_below hb c4); (try replace c5 := cell_below hb c5); replace HB := HB.trans (hb.mono HB.size); replace HW := HW.below hb; clear hb; have B4 := BX; clear BX)
        | (go_at_call 10; (refine (parse_any HW.gl hsr).mono ?_); rintro e w2 ⟨hb, h2⟩; rw [if_neg HSZ.out, HP.out] at h2; obtain ⟨j, rfl, hj, hje, _⟩ := h2; have HSN : Hid (sndT (er j) 32 = true) := Lib.hid (by rw [hje]; exact HG.out.1); have HTX : Hid (TxtLe (er j)) := Lib.hid (by rw [hje]; exact HG.out.2); clear hje; (try replace hj := IsJV.below hb hj); (try replace B4 := IBox.below B4 hb (IBox.lt B4)); (try replace c0 := cell_below hb c0); (try replace c3 := cell_below hb c3); (try replace c4 := cell_below hb c4); (try replace c5 := cell_below hb c5); replace HB := HB.trans (hb.mono HB.size); replace HW := HW.below hb; clear hb)
        | ((with_reducible refine is_load ?_); refine wpl_load_box rfl 25 (.tmp 4) rfl _ rfl _ _ _ B4 Tryd.underlying25 rfl info_value ?_)
        | (go_at_call 11; (refine (sound_any hj HTX.out i64_32).mono ?_); rintro e w8 ⟨rfl, hb⟩; rw [HSN.out]; (try replace hj := IsJV.below hb hj); (try replace B4 := IBox.below B4 hb (IBox.lt B4)); (try replace c0 := cell_below hb c0); (try replace c3 := cell_below hb c3); (try replace c4 := cell_below hb c4); (try replace c5 := cell_below hb c5); replace HB := HB.trans (hb.mono HB.size); replace HW := HW.below hb; clear hb))
      go_ret
      exact ⟨rfl, HB⟩
end Go.Proofs.YtjhncopbiblenaaDoor
