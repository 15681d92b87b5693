/- Layer 19: an object of one text copied (make.own). -/
import Derived.Test.YtmpoejgclalmfaaGreatMkE
namespace Go.Proofs.YtmpoejgclalmfaaGreat
open Go.RowKit Go.PlainAid
set_option linter.unusedVariables false
set_option linter.unusedSimpArgs false

theorem zero_field : (Tryz.prog.info? 48).map (fun i => (i.zero, i.size)) = some (some (.agg (fldA (⟨#[]⟩, JV.zero))), 7) := by kernel_rfl
theorem zeroF (w : World) : (zeroValue 48).run Tryz.prog w = .ok (.agg (fldA (⟨#[]⟩, JV.zero))) w := (Go.zero_of_info zero_field).1 w
theorem range_one {w : World} {b off : Nat} {p : ByteArray × JV} (h : w.rangeAt b off (fldA p).toList) : w.cell? ⟨b, off, none⟩ = some (.string p.1) ∧ w.rangeAt b (off + 1) p.2.cells.toList := by
  refine ⟨by simpa using h 0 _ rfl, fun j v hv => ?_⟩
  have h7 : (fldA p).toList[j + 1]? = some v := by
    have e1 : (fldA p).toList = .string p.1 :: p.2.cells.toList := rfl
    rw [e1, List.getElem?_cons_succ]
    exact hv
  have := h (j + 1) v h7
  rwa [show off + (j + 1) = off + 1 + j from by omega] at this
theorem box_range {w : World} {g : Nat} {t : TypeId} {arr : Array Value} (h : IBox w g t arr) : w.rangeAt g 0 arr.toList := fun j v hv => by rw [Nat.zero_add, h.cell]; simpa using hv
theorem own_mono {w : World} {base base' : Nat} {e : TypeId} {size : Nat} {v : Value} {n : Nat} {xs : List Value} (h : w.ownsRow base e size v n xs) (hb : base' ≤ base) : w.ownsRow base' e size v n xs := by
  refine ⟨h.1, ?_⟩
  rcases h.2 with h0 | ⟨g, cap, cur, hv, hg, rest⟩
  · exact .inl h0
  · exact .inr ⟨g, cap, cur, hv, Nat.le_trans hb hg, rest⟩
theorem range_bes {X : Nat → Prop} {w w' : World} (h : Bes X w w') {b off : Nat} {cs : List Value} (hr : w.rangeAt b off cs) (hb : b < w.heap.size ∧ ¬ X b) : w'.rangeAt b off cs := fun j v hv => by
  rw [World.cell?_of_block (h.block b hb.1 hb.2)]
  exact hr j v hv
theorem VC_set4 (u : Value) : (VC u).setIfInBounds 4 (.slice none 0 0) = VC u := rfl
theorem VC_one {A : Option Addr} {n c : Nat} : (VC (.slice A n c)).all (·.oneCell') = true := by simp [VC, Value.oneCell']
set_option maxRecDepth 10000 in
set_option maxHeartbeats 4000000 in
theorem own_obj1 (nm s : ByteArray) {b off c : Nat} {w : World} (RX : w.rangeAt b off (fldA (nm, exText s)).toList) :
    Calls Tryz.prog 34 #[.agg (VC (.slice (some ⟨b, off, none⟩) 1 c))] w fun e w' => ∃ A' c', e = .returned (.agg (VC (.slice A' 1 c'))) ∧
      w'.ownsRow w.heap.size 48 7 (.slice A' 1 c') 1 (fldL [(nm, exText s)]) ∧ Below w.heap.size w w' := by
  obtain ⟨ie, z, hie1, hie2, hie3, hie4, hz⟩ := fld_slice0
  subst hz
  have hbl : b < w.heap.size := World.block_lt_of_cell? w ⟨b, off, none⟩ (range_one RX).1
  have HB := Below.refl w.heap.size w
  go_enter Tryz.func34, Tryz.ntmps34
  go_wp2_with (first
    | (refine wpl_box_at rfl 26 (.tmp 0) rfl _ rfl ?_; intro w1 hw; have hb := hid_grow hw; have B1 := (hid_alloc hw).1; have G1 := HB.size; replace HB := HB.trans (hb.mono HB.size); replace RX := range_below hb RX; clear hb hw; have c1_4 : w1.cell? ⟨_, 4, none⟩ = some (.slice none 0 0) := B1.cell 4; have c1_5 : w1.cell? ⟨_, 5, none⟩ = some (.slice (some ⟨b, off, none⟩) 1 c) := B1.cell 5)
    | ((with_reducible refine is_alloc ?_); refine wpl_alloc_at rfl 26 rfl _ zeroV ?_; intro w2 hw; have B2 := hid_alloc0 hw; have hb := hid_grow hw; have G2 := HB.size; have L1 := IBox.lt B1; replace HB := HB.trans (hb.mono HB.size); replace RX := range_below hb RX; replace B1 := IBox.below B1 hb (IBox.lt B1); replace c1_4 := cell_below hb c1_4; replace c1_5 := cell_below hb c1_5; clear hb hw))
  go_loopw [3, 12] (fun v i wr => v = .slice none 0 0 ∧ i = .int .i64 0 ∧ wr = w2) (fun _ _ _ => 0)
  case atStart => exact ⟨rfl, rfl, rfl⟩
  case round =>
    obtain ⟨rfl, rfl, rfl⟩ := hrel
    go_wp2_with ((with_reducible refine is_store ?_); refine wpl_store_cell rfl 23 (.tmp 23) _ rfl _ 4 rfl (.slice none 0 0) rfl _ _ B1 (Nat.le_succ 5) info_sl1 rfl ?_; intro w3 hw; rw [VC_set4] at hw; have hq := hid_row_below hw G1 HB; have hbe := Bes.row (X := fun k => k = w.heap.size) hw rfl; have RX3 := range_bes hbe RX ⟨Nat.lt_of_lt_of_le hbl HB.size, Nat.ne_of_lt hbl⟩; replace RX := RX3; clear RX3; replace HB := hq.1; replace B2 := hid_row_other hw (Nat.ne_of_gt L1) B2; replace B1 := hid_row hw B1; have c1_5 : w3.cell? ⟨_, 5, none⟩ = some (.slice (some ⟨b, off, none⟩) 1 c) := B1.cell 5; clear hw hq hbe)
    have M1 := IBox.lt B1
    have M2 := IBox.lt B2
    go_loopw [6, 27] (fun v i wr => (v = .slice none 0 0 ∧ i = .int .i64 0 ∧ wr = w3) ∨ (i = .int .i64 1 ∧ ∃ A' c', v = .slice A' 1 c' ∧ wr.ownsRow w3.heap.size 48 7 (.slice A' 1 c') 1 (fldL [(nm, exText s)]) ∧ Below w3.heap.size w3 wr)) (fun _ i _ => 1 - (intOf i).toNat)
    case atStart => exact Or.inl ⟨rfl, rfl, rfl⟩
    case round =>
      rcases hrel with ⟨rfl, rfl, rfl⟩ | ⟨rfl, A', c', rfl, HO, hb⟩
      · go_wp2_with (first
          | ((with_reducible refine is_load ?_); refine wpl_load_arr rfl 48 (.tmp 29) rfl _ _ rfl (fldA (nm, exText s)) _ RX Tryz.underlying48 rfl info_field7 ?_)
          | ((with_reducible refine is_alloc ?_); refine wpl_newbox 8 rfl rfl 48 rfl rfl (.tmp 30) rfl _ zeroF (fldA (nm, exText s)) rfl rfl info_field7 rfl (fld_one _) ?_; intro w4 hw; have hb := hid_grow hw; have B8 := (hid_alloc hw).1; have HN := hid_grow hw; have G8 : wr.heap.size ≤ w4.heap.size := hb.size; clear hb hw))
        have hn8 := (range_one (box_range B8)).1
        have hr8 := (range_one (box_range B8)).2
        refine wp_region_below (by kernel_rfl) (fun w5 hHeld => ?_)
        refine wpAnyH_take (i := 0) (oi := ⟨some 31, _, _, _, _, _⟩) (v := ?_) rfl (by kernel_rfl) (by kernel_rfl) (by kernel_rfl) (fun _ _ _ h => h) (Or.inl ⟨by kernel_rfl, ?_⟩) (by assumption) ?_
        rotate_left
        · (intro w hSw; go_simp; try with_reducible rfl)
        try simp only [Act.put, List.setIfInBounds_toArray, List.set_cons_zero, List.set_cons_succ]
        refine wpAnyH_take (i := 1) (oi := ⟨some 32, _, _, _, _, _⟩) (v := ?_) rfl (by kernel_rfl) (by kernel_rfl) (by kernel_rfl) (fun _ _ _ h => h) (Or.inl ⟨by kernel_rfl, ?_⟩) (by assumption) ?_
        rotate_left
        · (intro w hSw; go_simp; try with_reducible rfl)
        try simp only [Act.put, List.setIfInBounds_toArray, List.set_cons_zero, List.set_cons_succ]
        refine wpAnyH_take (i := 2) (oi := ⟨some 33, _, _, _, _, _⟩) (v := ?_) rfl (by kernel_rfl) (by kernel_rfl) (by kernel_rfl) (fun _ _ _ h => h) (Or.inl ⟨by kernel_rfl, ?_⟩) (by assumption) ?_
        rotate_left
        · (intro w hSw; (try dsimp only at hSw); have := cell_below hSw hn8; go_simp; try with_reducible rfl)
        try simp only [Act.put, List.setIfInBounds_toArray, List.set_cons_zero, List.set_cons_succ]
        refine wpAnyH_take (i := 3) (oi := ⟨some 34, _, _, _, _, _⟩) (v := ?_) rfl (by kernel_rfl) (by kernel_rfl) (by kernel_rfl) (fun _ _ _ h => h) (Or.inl ⟨by kernel_rfl, ?_⟩) (by assumption) ?_
        rotate_left
        · (intro w hSw; go_simp; try with_reducible rfl)
        try simp only [Act.put, List.setIfInBounds_toArray, List.set_cons_zero, List.set_cons_succ]
        refine wpAnyH_take (i := 4) (oi := ⟨some 35, _, _, _, _, _⟩) (v := _) rfl (by kernel_rfl) (by kernel_rfl) (by kernel_rfl) (fun _ _ _ h => h) (yields_arr (by kernel_rfl) _ _ rfl _ _ rfl _ _ hr8 Tryz.underlying26 rfl info_value) (by assumption) ?_
        try simp only [Act.put, List.setIfInBounds_toArray, List.set_cons_zero, List.set_cons_succ]
        refine wpAnyH_ready (rs := [5]) (by kernel_rfl) (by simp) ?_
        refine AllReadyH.cons (o := ⟨some 36, _, _, _, _, _⟩) rfl (fun K hK => ?_) AllReadyH.nil
        go_simp
        (go_at_call 34; (with_reducible refine (own_text s _).mono ?_); rintro e w6 ⟨rfl, hb6⟩)
        refine hK.out _ _ (hHeld.trans (hb6.mono hHeld.size)) (fun hHeld2 => ?_)
        clear hK K hHeld hb6
        try simp only [Act.put, List.setIfInBounds_toArray, List.set_cons_zero, List.set_cons_succ]
        refine wpAnyH_take (i := 6) (oi := ⟨some 37, _, _, _, _, _⟩) (v := _) rfl (by kernel_rfl) (by kernel_rfl) (by kernel_rfl) (fun _ _ _ h => h) (yields_build (by kernel_rfl) (fld_build nm (exText s)) _ rfl rfl) (by assumption) ?_
        try simp only [Act.put, List.setIfInBounds_toArray, List.set_cons_zero, List.set_cons_succ]
        refine wpAnyH_ready (rs := [7]) (by kernel_rfl) (by simp) ?_
        refine AllReadyH.cons (o := ⟨some 38, _, _, _, _, _⟩) rfl (fun K hK => ?_) AllReadyH.nil
        simp only [Region.wanted, if_true]
        refine op_slice_at 1 _ _ ie _ (by rw [hie3]; exact fld_fill (nm, exText s)) 24 48 _ rfl rfl rfl hie1 hie2 (by rw [hie3]; decide) (by rw [hie3]; decide) ?_
        intro w7 hw
        have hb := hid_grow hw
        have BN := (hid_alloc hw).1
        refine hK.out _ _ (hHeld2.trans (hb.mono hHeld2.size)) (fun hHeld3 => ?_)
        clear hK K hw hb hHeld2
        try simp only [Act.put, List.setIfInBounds_toArray, List.set_cons_zero, List.set_cons_succ]
        refine wpAnyH_ready (rs := [8]) (by kernel_rfl) (by simp) ?_
        refine AllReadyH.cons (o := ⟨some 39, _, _, _, _, _⟩) rfl (fun K hK => ?_) AllReadyH.nil
        simp only [Region.wanted, if_true]
        have HO0 : w7.ownsRow wr.heap.size 48 7 (.slice none 0 0) 0 [] := World.ownsRow_nil _ _ _ _
        have hsz : wr.heap.size ≤ w7.heap.size := Nat.le_trans G8 hHeld3.size
        refine op_append_at _ _ 24 rfl wr.heap.size 48 ie _ 7 104 rfl hie1 hie2 hie3 hie4 rfl (by decide) (.slice none 0 0) 0 [] rfl HO0 _ _ _ _ BN rfl rfl (fld_one _) (by unfold maxLen; omega) (by omega) hsz ?_
        intro gr cap w8 HO2 hgrow hat hlt
        have hb8 : Below w7.heap.size w7 w8 := ⟨hgrow.os, hgrow.tape, hgrow.output, hgrow.size, fun k hk => hgrow.block k hk (by simp [Value.ownBlock])⟩
        refine hK.out _ _ (hHeld3.trans (hb8.mono hHeld3.size)) (fun hHeld4 => ?_)
        clear hK K hHeld3 hb8 hgrow hat hlt HO0 BN
        try simp only [Act.put, List.setIfInBounds_toArray, List.set_cons_zero, List.set_cons_succ]
        refine wpAnyH_take (i := 9) (oi := ⟨some 6, _, _, _, _, _⟩) (v := ?_) rfl (by kernel_rfl) (by kernel_rfl) (by kernel_rfl) (fun _ _ _ h => h) (Or.inl ⟨by kernel_rfl, ?_⟩) (by assumption) ?_
        rotate_left
        · (intro w hSw; go_simp; try with_reducible rfl)
        try simp only [Act.put, List.setIfInBounds_toArray, List.set_cons_zero, List.set_cons_succ]
        refine wpAnyH_done (by kernel_rfl) ?_ _
        have HW := HN.trans (hHeld4.mono HN.size)
        go_wp2
        go_roundw
        case rel => exact Or.inr ⟨rfl, _, _, rfl, HO2, HW⟩
        case measure => simp [intOf]
      · replace B1 := IBox.below B1 hb M1
        replace B2 := IBox.below B2 hb M2
        have HB3 := HB.size
        replace HB := HB.trans (hb.mono HB.size)
        clear hb
        go_wp2_with (first
          | ((with_reducible refine is_load ?_); refine wpl_load_box rfl 26 (.tmp 1) rfl _ rfl _ _ _ B1 Tryz.underlying26 rfl info_value ?_)
          | ((with_reducible refine is_store ?_); refine wpl_store_cell rfl 24 (.tmp 42) _ rfl _ 5 rfl (.slice A' 1 c') rfl _ _ B1 (Nat.le_refl 6) info_sl2 rfl ?_; intro w4 hw; rw [VC_set] at hw; have hq := hid_row_below hw G1 HB; have hbe := Bes.row (X := fun k => k < w3.heap.size) hw M1; replace HO := hbe.own HO (fun k e h => Nat.lt_irrefl _ (Nat.lt_of_lt_of_le h (own_in HO e).1)); replace HB := hq.1; replace B2 := hid_row_other hw (Nat.ne_of_gt L1) B2; replace B1 := hid_row hw B1; clear hw hq hbe)
          | ((with_reducible refine is_store ?_); refine wpl_store_at rfl 26 (.tmp 2) (.tmp 43) rfl _ (VC (.slice A' 1 c')) rfl rfl _ _ B2 info_value rfl VC_one ?_; intro w5 hw; have hq := hid_row_below hw G2 HB; have hbe := Bes.row (X := fun k => k < w3.heap.size) hw M2; replace HO := hbe.own HO (fun k e h => Nat.lt_irrefl _ (Nat.lt_of_lt_of_le h (own_in HO e).1)); replace HB := hq.1; replace B2 := hid_row hw B2; clear hw hq hbe))
        exact bodyPost_ret (results_box rfl _ _ w1.heap.size 26 (VC (.slice A' 1 c')) _ rfl B2 Tryz.underlying26 rfl info_value) rfl ⟨_, _, rfl, own_mono HO HB3, HB⟩
end Go.Proofs.YtmpoejgclalmfaaGreat
