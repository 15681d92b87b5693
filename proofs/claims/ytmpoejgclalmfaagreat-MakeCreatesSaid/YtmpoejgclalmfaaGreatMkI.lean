/- Layer 19: the document's value of a room's first event. -/
import Derived.Test.YtmpoejgclalmfaaGreatMkH
import Derived.Test.YtmpoejgclalmfaaGreatRegB
namespace Go.Proofs.YtmpoejgclalmfaaGreat
open Go.RowKit Go.PlainAid
set_option linter.unusedVariables false
set_option linter.unusedSimpArgs false

theorem own_start {w : World} {base g n : Nat} {e : TypeId} {cells : Array Value} {size : Nat} (hI : IBox w g e cells) (hb : base ≤ g) (hc : cells.size = n * size) (hm : n ≤ maxLen) : w.ownsRow base e size (.slice (some ⟨g, 0, none⟩) n n) n cells.toList := by
  refine ⟨by simpa using hc, .inr ⟨g, n, cells, rfl, hb, hI, Nat.le_refl _, hm, hc, ?_⟩⟩
  rw [List.take_of_length_le (by simp [hc])]
theorem own_list {w : World} {base g n : Nat} {e : TypeId} {L : List Value} {size : Nat} (hI : IBox w g e L.toArray) (hb : base ≤ g) (hc : L.length = n * size) (hm : n ≤ maxLen) : w.ownsRow base e size (.slice (some ⟨g, 0, none⟩) n n) n L := by
  have := own_start hI hb (by simpa using hc) hm
  simpa using this
theorem int_build (n : Int) (w : World) : (Instr.build 26 #[(0, .int .i64 2), (2, .int .i64 n)]).run Tryz.prog w = .ok (.agg (exInt n).cells) w := by kernel_rfl
theorem fld_fill7 (p0 p1 p2 p3 p4 p5 p6 : ByteArray × JV) : Instr.fill (fun i => some (i * 7, 7)) ((Array.range (7 * 7)).map ((Value.agg (fldA (⟨#[]⟩, JV.zero))).cells[· % (Value.agg (fldA (⟨#[]⟩, JV.zero))).cells.size]!))
    [(0, .agg (fldA p0)), (1, .agg (fldA p1)), (2, .agg (fldA p2)), (3, .agg (fldA p3)), (4, .agg (fldA p4)), (5, .agg (fldA p5)), (6, .agg (fldA p6))] = some (fldL [p0, p1, p2, p3, p4, p5, p6]).toArray := by kernel_rfl
/-- The seven fields that each event has. -/
def crL7 (room sender : ByteArray) (stamp : Int) (b off c : Nat) : List (ByteArray × JV) := [(⟨#[97, 117, 116, 104, 95, 101, 118, 101, 110, 116, 115]⟩, exNone), (⟨#[99, 111, 110, 116, 101, 110, 116]⟩, objJ (some ⟨b, off, none⟩) c [(rvN, exText rvV)]), (⟨#[100, 101, 112, 116, 104]⟩, exInt 0), (⟨#[111, 114, 105, 103, 105, 110, 95, 115, 101, 114, 118, 101, 114, 95, 116, 115]⟩, exInt stamp), (⟨#[112, 114, 101, 118, 95, 101, 118, 101, 110, 116, 115]⟩, exNone), (⟨#[114, 111, 111, 109, 95, 105, 100]⟩, exText room), (⟨#[115, 101, 110, 100, 101, 114]⟩, exText sender)]
theorem crL_of (room sender : ByteArray) (stamp : Int) (b off c : Nat) : fldL (crL7 room sender stamp b off c) ++ (fldA (⟨#[115, 116, 97, 116, 101, 95, 107, 101, 121]⟩, exText ⟨#[]⟩)).toList ++ (fldA (⟨#[116, 121, 112, 101]⟩, exText crT)).toList = fldL (crL room sender stamp (some ⟨b, off, none⟩) c) := by
  rw [← fldL_one, ← fldL_one, ← fldL_app, ← fldL_app]
  rfl
set_option maxRecDepth 10000 in
set_option maxHeartbeats 4000000 in
theorem told_create (room sender : ByteArray) (stamp : Int) {b off c : Nat} (w : World) :
    Calls Tryz.prog 19 #[.agg (evC room sender stamp (.slice (some ⟨b, off, none⟩) 1 c))] w fun e w' => ∃ A' c', e = .returned (.agg (VC (.slice A' 9 c'))) ∧
      w'.ownsRow w.heap.size 48 7 (.slice A' 9 c') 9 (fldL (crL room sender stamp (some ⟨b, off, none⟩) c)) ∧ Below w.heap.size w w' := by
  obtain ⟨ie, z, hie1, hie2, hie3, hie4, hz⟩ := fld_slice0
  subst hz
  have HB := Below.refl w.heap.size w
  go_enter Tryz.func19, Tryz.ntmps19
  go_wp2_with (first
    | (refine wpl_box_at rfl 42 (.tmp 0) rfl _ rfl ?_; intro w1 hw; have hb := hid_grow hw; have B1 := (hid_alloc hw).1; replace HB := HB.trans (hb.mono HB.size); clear hb hw; have c1_7 : w1.cell? ⟨_, 7, none⟩ = some (.slice none 0 0) := B1.cell 7; have c1_8 : w1.cell? ⟨_, 8, none⟩ = some (.int .i64 0) := B1.cell 8; have c1_9 : w1.cell? ⟨_, 9, none⟩ = some (.int .i64 stamp) := B1.cell 9; have c1_6 : w1.cell? ⟨_, 6, none⟩ = some (.slice none 0 0) := B1.cell 6; have c1_2 : w1.cell? ⟨_, 2, none⟩ = some (.string room) := B1.cell 2; have c1_3 : w1.cell? ⟨_, 3, none⟩ = some (.string sender) := B1.cell 3; have c1_4 : w1.cell? ⟨_, 4, none⟩ = some (.bool true) := B1.cell 4; have c1_5 : w1.cell? ⟨_, 5, none⟩ = some (.string ⟨#[]⟩) := B1.cell 5; have c1_1 : w1.cell? ⟨_, 1, none⟩ = some (.string crT) := B1.cell 1)
    | ((with_reducible refine is_alloc ?_); refine wpl_alloc_at rfl 26 rfl _ zeroV ?_; intro w2 hw; have hb := hid_grow hw; have B2 := hid_alloc0 hw; have HG2 := HB.size; replace HB := HB.trans (hb.mono HB.size); replace B1 := IBox.below B1 hb (IBox.lt B1); replace c1_7 := cell_below hb c1_7; replace c1_8 := cell_below hb c1_8; replace c1_9 := cell_below hb c1_9; replace c1_6 := cell_below hb c1_6; replace c1_2 := cell_below hb c1_2; replace c1_3 := cell_below hb c1_3; replace c1_4 := cell_below hb c1_4; replace c1_5 := cell_below hb c1_5; replace c1_1 := cell_below hb c1_1; have G1 := IBox.lt B1; have G2 := IBox.lt B2; have G0 := HB.size; clear hb hw))
  refine wp_region_below (by kernel_rfl) (fun w3 hHeld => ?_)
  refine wpAnyH_take (i := 0) (oi := ⟨some 4, _, _, _, _, _⟩) (v := ?_) rfl (by kernel_rfl) (by kernel_rfl) (by kernel_rfl) (fun _ _ _ h => h) (Or.inl ⟨by kernel_rfl, ?_⟩) (by assumption) ?_
  rotate_left
  · (intro w hSw; (try dsimp only at hSw); go_simp; try with_reducible rfl)
  try simp only [Act.put, List.setIfInBounds_toArray, List.set_cons_zero, List.set_cons_succ]
  refine wpAnyH_take (i := 1) (oi := ⟨some 5, _, _, _, _, _⟩) (v := ?_) rfl (by kernel_rfl) (by kernel_rfl) (by kernel_rfl) (fun _ _ _ h => h) (Or.inl ⟨by kernel_rfl, ?_⟩) (by assumption) ?_
  rotate_left
  · (intro w hSw; (try dsimp only at hSw); have := cell_below hSw c1_7; go_simp; try with_reducible rfl)
  try simp only [Act.put, List.setIfInBounds_toArray, List.set_cons_zero, List.set_cons_succ]
  refine wpAnyH_take (i := 4) (oi := ⟨some 8, _, _, _, _, _⟩) (v := ?_) rfl (by kernel_rfl) (by kernel_rfl) (by kernel_rfl) (fun _ _ _ h => h) (Or.inl ⟨by kernel_rfl, ?_⟩) (by assumption) ?_
  rotate_left
  · (intro w hSw; (try dsimp only at hSw); go_simp; try with_reducible rfl)
  try simp only [Act.put, List.setIfInBounds_toArray, List.set_cons_zero, List.set_cons_succ]
  refine wpAnyH_take (i := 5) (oi := ⟨some 9, _, _, _, _, _⟩) (v := _) rfl (by kernel_rfl) (by kernel_rfl) (by kernel_rfl) (fun _ _ _ h => h) (yields_arr (by kernel_rfl) _ _ rfl _ 10 rfl _ _ (ev_range B1) Tryz.underlying26 rfl info_value) (by assumption) ?_
  try simp only [Act.put, List.setIfInBounds_toArray, List.set_cons_zero, List.set_cons_succ]
  refine wpAnyH_take (i := 6) (oi := ⟨some 10, _, _, _, _, _⟩) (v := _) rfl (by kernel_rfl) (by kernel_rfl) (by kernel_rfl) (fun _ _ _ h => h) (yields_build (by kernel_rfl) (fld_build ⟨#[99, 111, 110, 116, 101, 110, 116]⟩ (objJ (some ⟨b, off, none⟩) c [(rvN, exText rvV)])) _ rfl rfl) (by assumption) ?_
  try simp only [Act.put, List.setIfInBounds_toArray, List.set_cons_zero, List.set_cons_succ]
  refine wpAnyH_take (i := 7) (oi := ⟨some 11, _, _, _, _, _⟩) (v := ?_) rfl (by kernel_rfl) (by kernel_rfl) (by kernel_rfl) (fun _ _ _ h => h) (Or.inl ⟨by kernel_rfl, ?_⟩) (by assumption) ?_
  rotate_left
  · (intro w hSw; (try dsimp only at hSw); go_simp; try with_reducible rfl)
  try simp only [Act.put, List.setIfInBounds_toArray, List.set_cons_zero, List.set_cons_succ]
  refine wpAnyH_take (i := 8) (oi := ⟨some 12, _, _, _, _, _⟩) (v := ?_) rfl (by kernel_rfl) (by kernel_rfl) (by kernel_rfl) (fun _ _ _ h => h) (Or.inl ⟨by kernel_rfl, ?_⟩) (by assumption) ?_
  rotate_left
  · (intro w hSw; (try dsimp only at hSw); have := cell_below hSw c1_8; go_simp; try with_reducible rfl)
  try simp only [Act.put, List.setIfInBounds_toArray, List.set_cons_zero, List.set_cons_succ]
  refine wpAnyH_take (i := 9) (oi := ⟨some 13, _, _, _, _, _⟩) (v := _) rfl (by kernel_rfl) (by kernel_rfl) (by kernel_rfl) (fun _ _ _ h => h) (yields_build (by kernel_rfl) (int_build 0) _ rfl rfl) (by assumption) ?_
  try simp only [Act.put, List.setIfInBounds_toArray, List.set_cons_zero, List.set_cons_succ]
  refine wpAnyH_take (i := 10) (oi := ⟨some 14, _, _, _, _, _⟩) (v := _) rfl (by kernel_rfl) (by kernel_rfl) (by kernel_rfl) (fun _ _ _ h => h) (yields_build (by kernel_rfl) (fld_build ⟨#[100, 101, 112, 116, 104]⟩ (exInt 0)) _ rfl rfl) (by assumption) ?_
  try simp only [Act.put, List.setIfInBounds_toArray, List.set_cons_zero, List.set_cons_succ]
  refine wpAnyH_take (i := 11) (oi := ⟨some 15, _, _, _, _, _⟩) (v := ?_) rfl (by kernel_rfl) (by kernel_rfl) (by kernel_rfl) (fun _ _ _ h => h) (Or.inl ⟨by kernel_rfl, ?_⟩) (by assumption) ?_
  rotate_left
  · (intro w hSw; (try dsimp only at hSw); go_simp; try with_reducible rfl)
  try simp only [Act.put, List.setIfInBounds_toArray, List.set_cons_zero, List.set_cons_succ]
  refine wpAnyH_take (i := 12) (oi := ⟨some 16, _, _, _, _, _⟩) (v := ?_) rfl (by kernel_rfl) (by kernel_rfl) (by kernel_rfl) (fun _ _ _ h => h) (Or.inl ⟨by kernel_rfl, ?_⟩) (by assumption) ?_
  rotate_left
  · (intro w hSw; (try dsimp only at hSw); have := cell_below hSw c1_9; go_simp; try with_reducible rfl)
  try simp only [Act.put, List.setIfInBounds_toArray, List.set_cons_zero, List.set_cons_succ]
  refine wpAnyH_take (i := 13) (oi := ⟨some 17, _, _, _, _, _⟩) (v := _) rfl (by kernel_rfl) (by kernel_rfl) (by kernel_rfl) (fun _ _ _ h => h) (yields_build (by kernel_rfl) (int_build stamp) _ rfl rfl) (by assumption) ?_
  try simp only [Act.put, List.setIfInBounds_toArray, List.set_cons_zero, List.set_cons_succ]
  refine wpAnyH_take (i := 14) (oi := ⟨some 18, _, _, _, _, _⟩) (v := _) rfl (by kernel_rfl) (by kernel_rfl) (by kernel_rfl) (fun _ _ _ h => h) (yields_build (by kernel_rfl) (fld_build ⟨#[111, 114, 105, 103, 105, 110, 95, 115, 101, 114, 118, 101, 114, 95, 116, 115]⟩ (exInt stamp)) _ rfl rfl) (by assumption) ?_
  try simp only [Act.put, List.setIfInBounds_toArray, List.set_cons_zero, List.set_cons_succ]
  refine wpAnyH_take (i := 15) (oi := ⟨some 19, _, _, _, _, _⟩) (v := ?_) rfl (by kernel_rfl) (by kernel_rfl) (by kernel_rfl) (fun _ _ _ h => h) (Or.inl ⟨by kernel_rfl, ?_⟩) (by assumption) ?_
  rotate_left
  · (intro w hSw; (try dsimp only at hSw); go_simp; try with_reducible rfl)
  try simp only [Act.put, List.setIfInBounds_toArray, List.set_cons_zero, List.set_cons_succ]
  refine wpAnyH_take (i := 16) (oi := ⟨some 20, _, _, _, _, _⟩) (v := ?_) rfl (by kernel_rfl) (by kernel_rfl) (by kernel_rfl) (fun _ _ _ h => h) (Or.inl ⟨by kernel_rfl, ?_⟩) (by assumption) ?_
  rotate_left
  · (intro w hSw; (try dsimp only at hSw); have := cell_below hSw c1_6; go_simp; try with_reducible rfl)
  try simp only [Act.put, List.setIfInBounds_toArray, List.set_cons_zero, List.set_cons_succ]
  refine wpAnyH_take (i := 19) (oi := ⟨some 23, _, _, _, _, _⟩) (v := ?_) rfl (by kernel_rfl) (by kernel_rfl) (by kernel_rfl) (fun _ _ _ h => h) (Or.inl ⟨by kernel_rfl, ?_⟩) (by assumption) ?_
  rotate_left
  · (intro w hSw; (try dsimp only at hSw); go_simp; try with_reducible rfl)
  try simp only [Act.put, List.setIfInBounds_toArray, List.set_cons_zero, List.set_cons_succ]
  refine wpAnyH_take (i := 20) (oi := ⟨some 24, _, _, _, _, _⟩) (v := ?_) rfl (by kernel_rfl) (by kernel_rfl) (by kernel_rfl) (fun _ _ _ h => h) (Or.inl ⟨by kernel_rfl, ?_⟩) (by assumption) ?_
  rotate_left
  · (intro w hSw; (try dsimp only at hSw); have := cell_below hSw c1_2; go_simp; try with_reducible rfl)
  try simp only [Act.put, List.setIfInBounds_toArray, List.set_cons_zero, List.set_cons_succ]
  refine wpAnyH_take (i := 23) (oi := ⟨some 27, _, _, _, _, _⟩) (v := ?_) rfl (by kernel_rfl) (by kernel_rfl) (by kernel_rfl) (fun _ _ _ h => h) (Or.inl ⟨by kernel_rfl, ?_⟩) (by assumption) ?_
  rotate_left
  · (intro w hSw; (try dsimp only at hSw); go_simp; try with_reducible rfl)
  try simp only [Act.put, List.setIfInBounds_toArray, List.set_cons_zero, List.set_cons_succ]
  refine wpAnyH_take (i := 24) (oi := ⟨some 28, _, _, _, _, _⟩) (v := ?_) rfl (by kernel_rfl) (by kernel_rfl) (by kernel_rfl) (fun _ _ _ h => h) (Or.inl ⟨by kernel_rfl, ?_⟩) (by assumption) ?_
  rotate_left
  · (intro w hSw; (try dsimp only at hSw); have := cell_below hSw c1_3; go_simp; try with_reducible rfl)
  try simp only [Act.put, List.setIfInBounds_toArray, List.set_cons_zero, List.set_cons_succ]
  refine wpAnyH_ready (rs := [2]) (by kernel_rfl) (by simp) ?_
  refine AllReadyH.cons (o := ⟨some 6, _, _, _, _, _⟩) rfl (fun K hK => ?_) AllReadyH.nil
  go_simp
  (go_at_call 40; (with_reducible refine (rlist_any _).mono ?_); rintro e w9 ⟨rfl, hb3⟩)
  refine hK.out _ _ (hHeld.trans (hb3.mono hHeld.size)) (fun hHeld2 => ?_)
  clear hK K hHeld hb3
  have hHeld := hHeld2
  clear hHeld2
  try simp only [Act.put, List.setIfInBounds_toArray, List.set_cons_zero, List.set_cons_succ]
  refine wpAnyH_take (i := 3) (oi := ⟨some 7, _, _, _, _, _⟩) (v := _) rfl (by kernel_rfl) (by kernel_rfl) (by kernel_rfl) (fun _ _ _ h => h) (yields_build (by kernel_rfl) (fld_build ⟨#[97, 117, 116, 104, 95, 101, 118, 101, 110, 116, 115]⟩ (exNone)) _ rfl rfl) (by assumption) ?_
  try simp only [Act.put, List.setIfInBounds_toArray, List.set_cons_zero, List.set_cons_succ]
  refine wpAnyH_ready (rs := [17]) (by kernel_rfl) (by simp) ?_
  refine AllReadyH.cons (o := ⟨some 21, _, _, _, _, _⟩) rfl (fun K hK => ?_) AllReadyH.nil
  go_simp
  (go_at_call 40; (with_reducible refine (rlist_any _).mono ?_); rintro e w9 ⟨rfl, hb3⟩)
  refine hK.out _ _ (hHeld.trans (hb3.mono hHeld.size)) (fun hHeld2 => ?_)
  clear hK K hHeld hb3
  have hHeld := hHeld2
  clear hHeld2
  try simp only [Act.put, List.setIfInBounds_toArray, List.set_cons_zero, List.set_cons_succ]
  refine wpAnyH_take (i := 18) (oi := ⟨some 22, _, _, _, _, _⟩) (v := _) rfl (by kernel_rfl) (by kernel_rfl) (by kernel_rfl) (fun _ _ _ h => h) (yields_build (by kernel_rfl) (fld_build ⟨#[112, 114, 101, 118, 95, 101, 118, 101, 110, 116, 115]⟩ (exNone)) _ rfl rfl) (by assumption) ?_
  try simp only [Act.put, List.setIfInBounds_toArray, List.set_cons_zero, List.set_cons_succ]
  refine wpAnyH_ready (rs := [21]) (by kernel_rfl) (by simp) ?_
  refine AllReadyH.cons (o := ⟨some 25, _, _, _, _, _⟩) rfl (fun K hK => ?_) AllReadyH.nil
  go_simp
  (go_at_call 18; (with_reducible refine (rtext_any _ _).mono ?_); rintro e w9 ⟨rfl, hb3⟩)
  refine hK.out _ _ (hHeld.trans (hb3.mono hHeld.size)) (fun hHeld2 => ?_)
  clear hK K hHeld hb3
  have hHeld := hHeld2
  clear hHeld2
  try simp only [Act.put, List.setIfInBounds_toArray, List.set_cons_zero, List.set_cons_succ]
  refine wpAnyH_take (i := 22) (oi := ⟨some 26, _, _, _, _, _⟩) (v := _) rfl (by kernel_rfl) (by kernel_rfl) (by kernel_rfl) (fun _ _ _ h => h) (yields_build (by kernel_rfl) (fld_build ⟨#[114, 111, 111, 109, 95, 105, 100]⟩ (exText room)) _ rfl rfl) (by assumption) ?_
  try simp only [Act.put, List.setIfInBounds_toArray, List.set_cons_zero, List.set_cons_succ]
  refine wpAnyH_ready (rs := [25]) (by kernel_rfl) (by simp) ?_
  refine AllReadyH.cons (o := ⟨some 29, _, _, _, _, _⟩) rfl (fun K hK => ?_) AllReadyH.nil
  go_simp
  (go_at_call 18; (with_reducible refine (rtext_any _ _).mono ?_); rintro e w9 ⟨rfl, hb3⟩)
  refine hK.out _ _ (hHeld.trans (hb3.mono hHeld.size)) (fun hHeld2 => ?_)
  clear hK K hHeld hb3
  have hHeld := hHeld2
  clear hHeld2
  try simp only [Act.put, List.setIfInBounds_toArray, List.set_cons_zero, List.set_cons_succ]
  refine wpAnyH_take (i := 26) (oi := ⟨some 30, _, _, _, _, _⟩) (v := _) rfl (by kernel_rfl) (by kernel_rfl) (by kernel_rfl) (fun _ _ _ h => h) (yields_build (by kernel_rfl) (fld_build ⟨#[115, 101, 110, 100, 101, 114]⟩ (exText sender)) _ rfl rfl) (by assumption) ?_
  try simp only [Act.put, List.setIfInBounds_toArray, List.set_cons_zero, List.set_cons_succ]
  refine wpAnyH_ready (rs := [27]) (by kernel_rfl) (by simp) ?_
  refine AllReadyH.cons (o := ⟨some 31, _, _, _, _, _⟩) rfl (fun K hK => ?_) AllReadyH.nil
  simp only [Region.wanted, if_true]
  refine op_slice_at 7 [(0, .agg (fldA (⟨#[97, 117, 116, 104, 95, 101, 118, 101, 110, 116, 115]⟩, exNone))), (1, .agg (fldA (⟨#[99, 111, 110, 116, 101, 110, 116]⟩, objJ (some ⟨b, off, none⟩) c [(rvN, exText rvV)]))), (2, .agg (fldA (⟨#[100, 101, 112, 116, 104]⟩, exInt 0))), (3, .agg (fldA (⟨#[111, 114, 105, 103, 105, 110, 95, 115, 101, 114, 118, 101, 114, 95, 116, 115]⟩, exInt stamp))), (4, .agg (fldA (⟨#[112, 114, 101, 118, 95, 101, 118, 101, 110, 116, 115]⟩, exNone))), (5, .agg (fldA (⟨#[114, 111, 111, 109, 95, 105, 100]⟩, exText room))), (6, .agg (fldA (⟨#[115, 101, 110, 100, 101, 114]⟩, exText sender)))] (fldL (crL7 room sender stamp b off c)).toArray ie _ (by rw [hie3]; exact fld_fill7 (⟨#[97, 117, 116, 104, 95, 101, 118, 101, 110, 116, 115]⟩, exNone) (⟨#[99, 111, 110, 116, 101, 110, 116]⟩, objJ (some ⟨b, off, none⟩) c [(rvN, exText rvV)]) (⟨#[100, 101, 112, 116, 104]⟩, exInt 0) (⟨#[111, 114, 105, 103, 105, 110, 95, 115, 101, 114, 118, 101, 114, 95, 116, 115]⟩, exInt stamp) (⟨#[112, 114, 101, 118, 95, 101, 118, 101, 110, 116, 115]⟩, exNone) (⟨#[114, 111, 111, 109, 95, 105, 100]⟩, exText room) (⟨#[115, 101, 110, 100, 101, 114]⟩, exText sender)) 24 48 _ rfl rfl rfl hie1 hie2 (by rw [hie3]; decide) (by rw [hie3]; decide) ?_
  intro w4 hw
  have hb3 := hid_grow hw
  have BN := (hid_alloc hw).1
  have hgn := hHeld.size
  refine hK.out _ _ (hHeld.trans (hb3.mono hHeld.size)) (fun hHeld2 => ?_)
  clear hK K hHeld hb3 hw
  have hHeld := hHeld2
  clear hHeld2
  try simp only [Act.put, List.setIfInBounds_toArray, List.set_cons_zero, List.set_cons_succ]
  refine wpAnyH_take (i := 28) (oi := ⟨some 3, _, _, _, _, _⟩) (v := ?_) rfl (by kernel_rfl) (by kernel_rfl) (by kernel_rfl) (fun _ _ _ h => h) (Or.inl ⟨by kernel_rfl, ?_⟩) (by assumption) ?_
  rotate_left
  · (intro w hSw; (try dsimp only at hSw); go_simp; try with_reducible rfl)
  try simp only [Act.put, List.setIfInBounds_toArray, List.set_cons_zero, List.set_cons_succ]
  have HO : World.ownsRow _ _ _ _ _ _ _ := own_list (base := w2.heap.size) (n := 7) (size := 7) BN hgn (by rfl) (by unfold maxLen; decide)
  clear BN hgn
  refine wpAnyH_done (by kernel_rfl) ?_ _
  have hB := hHeld
  clear hHeld
  have HBB := Below.refl w2.heap.size w2
  replace HB := HB.trans (hB.mono G0)
  replace HBB := HBB.trans hB
  replace B1 := IBox.below B1 hB G1
  replace B2 := IBox.below B2 hB G2
  replace c1_1 := cell_low hB G1 c1_1
  replace c1_4 := cell_low hB G1 c1_4
  replace c1_5 := cell_low hB G1 c1_5
  clear hB
  go_wp2_with (first
    | (go_at_call 18; (with_reducible refine (rtext_any _ _).mono ?_); rintro e w9 ⟨rfl, hb⟩; replace HO := own_below HO hb; have hB := hb.mono HBB.size; clear hb; replace HB := HB.trans (hB.mono G0); replace HBB := HBB.trans hB; replace B1 := IBox.below B1 hB G1; replace B2 := IBox.below B2 hB G2; replace c1_1 := cell_low hB G1 c1_1; replace c1_4 := cell_low hB G1 c1_4; replace c1_5 := cell_low hB G1 c1_5; clear hB)
    | ((with_reducible refine is_build ?_); refine wpl_build_at (fld_build ⟨#[115, 116, 97, 116, 101, 95, 107, 101, 121]⟩ (exText ⟨#[]⟩)) rfl _ rfl rfl ?_)
    | ((with_reducible refine is_build ?_); refine wpl_build_at (fld_build ⟨#[116, 121, 112, 101]⟩ (exText crT)) rfl _ rfl rfl ?_)
    | ((with_reducible refine is_slice ?_); refine wpl_slice_at 1 [(0, .agg (fldA (⟨#[115, 116, 97, 116, 101, 95, 107, 101, 121]⟩, exText ⟨#[]⟩)))] (fldA (⟨#[115, 116, 97, 116, 101, 95, 107, 101, 121]⟩, exText ⟨#[]⟩)) ie _ (by rw [hie3]; exact fld_fill _) rfl 24 48 _ rfl rfl rfl hie1 hie2 (by rw [hie3]; decide) (by rw [hie3]; decide) ?_; intro w5 hw; have hb := hid_grow hw; have BN := (hid_alloc hw).1; replace HO := own_below HO hb; have hB := hb.mono HBB.size; clear hb hw; replace HB := HB.trans (hB.mono G0); replace HBB := HBB.trans hB; replace B1 := IBox.below B1 hB G1; replace B2 := IBox.below B2 hB G2; replace c1_1 := cell_low hB G1 c1_1; replace c1_4 := cell_low hB G1 c1_4; replace c1_5 := cell_low hB G1 c1_5; clear hB)
    | ((with_reducible refine is_slice ?_); refine wpl_slice_at 1 [(0, .agg (fldA (⟨#[116, 121, 112, 101]⟩, exText crT)))] (fldA (⟨#[116, 121, 112, 101]⟩, exText crT)) ie _ (by rw [hie3]; exact fld_fill _) rfl 24 48 _ rfl rfl rfl hie1 hie2 (by rw [hie3]; decide) (by rw [hie3]; decide) ?_; intro w5 hw; have hb := hid_grow hw; have BN := (hid_alloc hw).1; replace HO := own_below HO hb; have hB := hb.mono HBB.size; clear hb hw; replace HB := HB.trans (hB.mono G0); replace HBB := HBB.trans hB; replace B1 := IBox.below B1 hB G1; replace B2 := IBox.below B2 hB G2; replace c1_1 := cell_low hB G1 c1_1; replace c1_4 := cell_low hB G1 c1_4; replace c1_5 := cell_low hB G1 c1_5; clear hB)
    | (at_builtin; refine wpl_append_fresh rfl (.tmp 34) (.tmp 39) 24 rfl w2.heap.size 48 ie _ 7 104 rfl hie1 hie2 hie3 hie4 rfl (by decide) _ _ _ rfl HO _ 1 _ _ BN rfl rfl (fld_one _) (by unfold maxLen; omega) (by omega) HBB.size ?_; intro v' w6 HO2 hB; obtain ⟨gg, cc, hv, _, _⟩ := HO2.form (by decide); subst hv; clear HO BN; have HO : World.ownsRow _ _ _ _ (.slice (some ⟨gg, 0, none⟩) 8 cc) 8 _ := HO2; clear HO2; replace HB := HB.trans (hB.mono G0); replace HBB := HBB.trans hB; replace B1 := IBox.below B1 hB G1; replace B2 := IBox.below B2 hB G2; replace c1_1 := cell_low hB G1 c1_1; replace c1_4 := cell_low hB G1 c1_4; replace c1_5 := cell_low hB G1 c1_5; clear hB)
    | (at_builtin; refine wpl_append_fresh rfl (.tmp 41) (.tmp 46) 24 rfl w2.heap.size 48 ie _ 7 104 rfl hie1 hie2 hie3 hie4 rfl (by decide) _ _ _ rfl HO _ 1 _ _ BN rfl rfl (fld_one _) (by unfold maxLen; omega) (by omega) HBB.size ?_; intro v' w6 HO2 hB; obtain ⟨gg, cc, hv, _, _⟩ := HO2.form (by decide); subst hv; clear HO BN; have HO : World.ownsRow _ _ _ _ (.slice (some ⟨gg, 0, none⟩) 9 cc) 9 _ := HO2; clear HO2; replace HB := HB.trans (hB.mono G0); replace HBB := HBB.trans hB; replace B1 := IBox.below B1 hB G1; replace B2 := IBox.below B2 hB G2; replace c1_1 := cell_low hB G1 c1_1; replace c1_4 := cell_low hB G1 c1_4; replace c1_5 := cell_low hB G1 c1_5; clear hB)
    | ((with_reducible refine is_store ?_); refine wpl_store_at rfl 26 (.tmp 2) (.tmp 49) rfl _ (VC _) rfl rfl _ _ B2 info_value rfl VC_one ?_; intro w7 hw; have hbe := Bes.row (X := fun k => k = w1.heap.size) hw rfl; have hq := hid_row_below hw HG2 HB; replace HB := hq.1; replace B2 := hid_row hw B2; clear hw hq))
  rw [crL_of] at HO
  refine bodyPost_ret (results_box rfl _ _ w1.heap.size 26 (VC _) _ rfl B2 Tryz.underlying26 rfl info_value) rfl ⟨_, _, rfl, own_mono (hbe.own HO (fun k e h => by have h1 := (own_in HO e).1; have h2 : k = w1.heap.size := h; omega)) G0, HB⟩
end Go.Proofs.YtmpoejgclalmfaaGreat
