/- Layer 19: the number of an error; lists of nothing; a text's value copied. -/
import Derived.Test.YtmpoejgclalmfaaGreatMkB
import Derived.Test.YtmpoejgclalmfaaGreatNamesCd
namespace Go.Proofs.YtmpoejgclalmfaaGreat
open Go.RowKit Go.PlainAid
set_option linter.unusedVariables false
set_option linter.unusedSimpArgs false

theorem code_8 (w : World) : Calls Tryz.prog 8 #[.iface 43 (.int .i64 8)] w fun e w' => e = .returned (.int .i64 8) ∧ w = w' := by
  have he := eql_code
  go_enter Tryz.func8, Tryz.ntmps8
  go_wp2
  go_ret
  exact ⟨rfl, rfl⟩
set_option maxRecDepth 10000 in
theorem rlist_any (w : World) : Calls Tryz.prog 40 #[.slice none 0 0] w fun e w' => e = .returned (.agg exNone.cells) ∧ Below w.heap.size w w' := by
  have HB := Below.refl w.heap.size w
  go_enter Tryz.func40, Tryz.ntmps40
  go_wp2_with (first
    | ((with_reducible refine is_alloc ?_); refine wpl_newbox 3 rfl rfl 26 rfl rfl (.tmp 5) rfl _ zeroV exNone.cells rfl rfl info_value rfl (jv_one _) ?_; intro w2 hw; have hb := hid_grow hw; have B3 := (hid_alloc hw).1; have L3 := IBox.lt B2; replace HB := HB.trans (hb.mono HB.size); replace B2 := IBox.below B2 hb (IBox.lt B2); clear hb hw)
    | ((with_reducible refine is_alloc ?_); refine wpl_alloc_at rfl 26 rfl _ zeroV ?_; intro w1 hw; have B2 := hid_alloc0 hw; have hb := hid_grow hw; have G2 := HB.size; replace HB := HB.trans (hb.mono HB.size); clear hw hb))
  go_loopw [4] (fun i wr => i = .int .i64 0 ∧ wr = w2) (fun _ _ => 0)
  case atStart => exact ⟨rfl, rfl⟩
  case round =>
    obtain ⟨rfl, rfl⟩ := hrel
    go_wp2_with (first
      | ((with_reducible refine is_load ?_); refine wpl_load_box rfl 26 (.tmp 3) rfl _ rfl _ _ _ B3 Tryz.underlying26 rfl info_value ?_)
      | ((with_reducible refine is_store ?_); refine wpl_store_at rfl 26 (.tmp 2) (.tmp 22) rfl _ exNone.cells rfl rfl _ _ B2 info_value rfl (jv_one _) ?_; intro w3 hw; have hq := hid_row_below hw G2 HB; replace HB := hq.1; replace B2 := hid_row hw B2; clear hw hq))
    exact bodyPost_ret (results_box rfl _ _ w.heap.size 26 exNone.cells _ rfl B2 Tryz.underlying26 rfl info_value) rfl ⟨rfl, HB⟩
theorem own_set4 (s : ByteArray) : (exText s).cells.setIfInBounds 4 (.slice none 0 0) = (exText s).cells := by kernel_rfl
theorem own_set5 (s : ByteArray) : (exText s).cells.setIfInBounds 5 (.slice none 0 0) = (exText s).cells := by kernel_rfl
theorem szT (s : ByteArray) : (exText s).cells.size = 6 := rfl
theorem lt4 {a : Array Value} (h : a.size = 6) : 4 < a.size := by omega
theorem lt5' {a : Array Value} (h : a.size = 6) : 5 < a.size := by omega
theorem info_sl1 : (Tryz.prog.info? 23).map (·.size) = some 1 := by kernel_rfl
theorem info_sl2 : (Tryz.prog.info? 24).map (·.size) = some 1 := by kernel_rfl
set_option maxRecDepth 10000 in
set_option maxHeartbeats 2000000 in
theorem own_text (s : ByteArray) (w : World) : Calls Tryz.prog 34 #[.agg (exText s).cells] w fun e w' => e = .returned (.agg (exText s).cells) ∧ Below w.heap.size w w' := by
  have HB := Below.refl w.heap.size w
  go_enter Tryz.func34, Tryz.ntmps34
  go_wp2_with (first
    | (refine wpl_box_at rfl 26 (.tmp 0) rfl _ rfl ?_; intro w1 hw; have hb := hid_grow hw; have B1 := (hid_alloc hw).1; have G1 := HB.size; replace HB := HB.trans (hb.mono HB.size); clear hb hw; have c1_4 : w1.cell? ⟨_, 4, none⟩ = some (.slice none 0 0) := B1.cell 4; have c1_5 : w1.cell? ⟨_, 5, none⟩ = some (.slice none 0 0) := B1.cell 5)
    | ((with_reducible refine is_alloc ?_); refine wpl_alloc_at rfl 26 rfl _ zeroV ?_; intro w2 hw; have B2 := hid_alloc0 hw; have hb := hid_grow hw; have G2 := HB.size; have L1 := IBox.lt B1; replace HB := HB.trans (hb.mono HB.size); replace B1 := IBox.below B1 hb (IBox.lt B1); replace c1_4 := cell_below hb c1_4; replace c1_5 := cell_below hb c1_5; clear hw hb))
  go_loopw [3, 12] (fun v i wr => v = .slice none 0 0 ∧ i = .int .i64 0 ∧ wr = w2) (fun _ _ _ => 0)
  case atStart => exact ⟨rfl, rfl, rfl⟩
  case round =>
    obtain ⟨rfl, rfl, rfl⟩ := hrel
    go_wp2_with ((with_reducible refine is_store ?_); refine wpl_store_cell rfl 23 (.tmp 23) _ rfl _ 4 rfl (.slice none 0 0) rfl _ _ B1 (lt4 (szT _)) info_sl1 rfl ?_; intro w3 hw; have hq := hid_row_below hw G1 HB; replace HB := hq.1; replace B2 := hid_row_other hw (Nat.ne_of_gt L1) B2; replace B1 := hid_row hw B1; rw [own_set4] at B1; have c1_5 : w3.cell? ⟨_, 5, none⟩ = some (.slice none 0 0) := B1.cell 5; clear hw hq)
    go_loopw [6, 27] (fun v i wr => v = .slice none 0 0 ∧ i = .int .i64 0 ∧ wr = w3) (fun _ _ _ => 0)
    case atStart => exact ⟨rfl, rfl, rfl⟩
    case round =>
      obtain ⟨rfl, rfl, rfl⟩ := hrel
      go_wp2_with (first
        | ((with_reducible refine is_load ?_); refine wpl_load_box rfl 26 (.tmp 1) rfl _ rfl _ _ _ B1 Tryz.underlying26 rfl info_value ?_)
        | ((with_reducible refine is_store ?_); refine wpl_store_cell rfl 24 (.tmp 42) _ rfl _ 5 rfl (.slice none 0 0) rfl _ _ B1 (lt5' (szT _)) info_sl2 rfl ?_; intro w4 hw; have hq := hid_row_below hw G1 HB; replace HB := hq.1; replace B2 := hid_row_other hw (Nat.ne_of_gt L1) B2; replace B1 := hid_row hw B1; rw [own_set5] at B1; clear hw hq)
        | ((with_reducible refine is_store ?_); refine wpl_store_at rfl 26 (.tmp 2) (.tmp 43) rfl _ (exText s).cells rfl rfl _ _ B2 info_value rfl (jv_one _) ?_; intro w5 hw; have hq := hid_row_below hw G2 HB; replace HB := hq.1; replace B2 := hid_row hw B2; clear hw hq))
      exact bodyPost_ret (results_box rfl _ _ w1.heap.size 26 (exText s).cells _ rfl B2 Tryz.underlying26 rfl info_value) rfl ⟨rfl, HB⟩
end Go.Proofs.YtmpoejgclalmfaaGreat
