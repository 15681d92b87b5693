/- Layer 2: coveylaw02.JsonGets is true. -/
import Derived.Test.YtjhncopbiblenaaDoorJrV
import Derived.Test.YtjhncopbiblenaaDoorJrT
namespace Go.Proofs.YtjhncopbiblenaaDoor
open Go.RowKit Go.PlainAid
set_option linter.unusedVariables false
set_option linter.unusedSimpArgs false
set_option maxRecDepth 10000 in
set_option maxHeartbeats 8000000 in
theorem gets_any {w : World} (h : Wo w) {j : JV} (hj : IsJV w j) (nm : ByteArray) : Calls Tryd.prog 3 #[.agg j.cells, .string nm] w fun e w' => e = .returned (.bool true) ∧ Below w.heap.size w w' := by
  have HB := Below.refl w.heap.size w
  have HW := h
  generalize hS : (fieldS j nm).isSome = S
  have HS := Lib.hid hS
  clear hS
  cases S <;>
  · go_enter Tryd.func3, Tryd.ntmps3
    go_wp2_with (first
      | (refine wpl_box_at rfl 25 (.tmp 0) rfl _ rfl ?_; intro w7 hw; have hb := hid_grow hw; have BX := (hid_alloc hw).1; clear hw; (try replace hj := IsJV.below hb hj); (try replace hx := IsJV.below hb hx); (try replace B2 := IBox.below B2 hb (IBox.lt B2)); (try replace B6 := IBox.below B6 hb (IBox.lt B6)); (try replace B8 := IBox.below B8 hb (IBox.lt B8)); replace HB := HB.trans (hb.mono HB.size); replace HW := HW.below hb; clear hb; have B2 := BX; clear BX)
      | (go_at_call 6; (with_reducible refine (shown_any HW).mono ?_); rintro e w1 ⟨rfl, hb⟩; (try replace hj := IsJV.below hb hj); (try replace hx := IsJV.below hb hx); (try replace B2 := IBox.below B2 hb (IBox.lt B2)); (try replace B6 := IBox.below B6 hb (IBox.lt B6)); (try replace B8 := IBox.below B8 hb (IBox.lt B8)); replace HB := HB.trans (hb.mono HB.size); replace HW := HW.below hb; clear hb)
      | ((with_reducible refine is_load ?_); refine wpl_load_box rfl 25 (.tmp 2) rfl _ rfl _ _ _ B2 Tryd.underlying25 rfl info_value ?_)
      | ((with_reducible refine is_load ?_); refine wpl_load_box rfl 25 (.tmp 6) rfl _ rfl _ _ _ B6 Tryd.underlying25 rfl info_value ?_)
      | ((with_reducible refine is_load ?_); refine wpl_load_box rfl 25 (.tmp 8) rfl _ rfl _ _ _ B8 Tryd.underlying25 rfl info_value ?_)
      | (go_at_call 7; (with_reducible refine (get_any j _ _ hj).mono ?_); rintro e w2 ⟨rfl, hb⟩; rw [HS.out]; (try replace hj := IsJV.below hb hj); (try replace hx := IsJV.below hb hx); (try replace B2 := IBox.below B2 hb (IBox.lt B2)); (try replace B6 := IBox.below B6 hb (IBox.lt B6)); (try replace B8 := IBox.below B8 hb (IBox.lt B8)); replace HB := HB.trans (hb.mono HB.size); replace HW := HW.below hb; clear hb)
      | (go_at_call 8; (with_reducible refine (rget_any j _ _ hj).mono ?_); rintro e w3 ⟨rfl, hb⟩; rw [HS.out]; (try replace hj := IsJV.below hb hj); (try replace hx := IsJV.below hb hx); (try replace B2 := IBox.below B2 hb (IBox.lt B2)); (try replace B6 := IBox.below B6 hb (IBox.lt B6)); (try replace B8 := IBox.below B8 hb (IBox.lt B8)); replace HB := HB.trans (hb.mono HB.size); replace HW := HW.below hb; clear hb)
      | (refine wpl_newbox 6 rfl rfl 25 rfl rfl (.tmp 16) rfl _ zeroV (fieldD j nm).cells rfl rfl info_value rfl (jv_one _) ?_; intro w7 hw; have hb := hid_grow hw; have BX := (hid_alloc hw).1; clear hw; (try replace hj := IsJV.below hb hj); (try replace hx := IsJV.below hb hx); (try replace B2 := IBox.below B2 hb (IBox.lt B2)); (try replace B6 := IBox.below B6 hb (IBox.lt B6)); (try replace B8 := IBox.below B8 hb (IBox.lt B8)); replace HB := HB.trans (hb.mono HB.size); replace HW := HW.below hb; clear hb; have B6 := BX; clear BX)
      | (refine wpl_newbox 8 rfl rfl 25 rfl rfl (.tmp 22) rfl _ zeroV (fieldD j nm).cells rfl rfl info_value rfl (jv_one _) ?_; intro w7 hw; have hb := hid_grow hw; have BX := (hid_alloc hw).1; clear hw; (try replace hj := IsJV.below hb hj); (try replace hx := IsJV.below hb hx); (try replace B2 := IBox.below B2 hb (IBox.lt B2)); (try replace B6 := IBox.below B6 hb (IBox.lt B6)); (try replace B8 := IBox.below B8 hb (IBox.lt B8)); replace HB := HB.trans (hb.mono HB.size); replace HW := HW.below hb; clear hb; have B8 := BX; clear BX)
      | (go_at_call 9; (with_reducible refine (same_any (field_is hj nm) (field_is hj nm) rfl).mono ?_); rintro e w4 ⟨rfl, hb⟩; (try replace hj := IsJV.below hb hj); (try replace hx := IsJV.below hb hx); (try replace B2 := IBox.below B2 hb (IBox.lt B2)); (try replace B6 := IBox.below B6 hb (IBox.lt B6)); (try replace B8 := IBox.below B8 hb (IBox.lt B8)); replace HB := HB.trans (hb.mono HB.size); replace HW := HW.below hb; clear hb))
    go_ret
    exact ⟨rfl, HB⟩
end Go.Proofs.YtjhncopbiblenaaDoor
