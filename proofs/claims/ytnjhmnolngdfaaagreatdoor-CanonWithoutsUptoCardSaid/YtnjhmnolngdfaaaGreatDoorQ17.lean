/- Layer 3: an object's one form (canon.object), walked: from what its values' are. -/
import Derived.Test.YtnjhmnolngdfaaaGreatDoorQ16
import Derived.Test.YtnjhmnolngdfaaaGreatDoorQZip
namespace Go.Proofs.YtnjhmnolngdfaaaGreatDoor
section
open Go.RowKit Go.PlainAid
set_option linter.unusedVariables false
set_option linter.unusedSimpArgs false
/-- Values smaller than sz come to their one form. -/
def NmOK (sz : Nat) : Prop := ∀ (j : JV) (D : Int) (w : World), SizeOf.sizeOf j < sz → IsJV w j → SzT (er j) ≤ 1048576 → Gl w w.heap.size → 0 ≤ D → D ≤ 32 → Calls Tryz.prog 42 #[.agg j.cells, .int .i64 D] w (NmV j D w)
set_option maxRecDepth 100000 in
set_option maxHeartbeats 16000000 in
theorem obj_of {sz : Nat} (IH : NmOK sz) : ∀ (j : JV) (D : Int) (w : World), SizeOf.sizeOf j < sz + 1 → IsJV w j → SzT (er j) ≤ 1048576 → Gl w w.heap.size → 0 ≤ D → D ≤ 32 → j.v.kind = 5 → Calls Tryz.prog 65 #[.agg j.cells, .int .i64 D] w (NmV j D w) := by
  intro j D w hsz HJ hz hG hD0 hD1 hk5
  obtain ⟨l1, l2, l3, l4, l5⟩ := jv_lens HJ
  have LL := Lib.hid l1
  have LV := Lib.hid l2
  have LN := Lib.hid l3
  have SZ := Lib.hid hsz
  have HZ := Lib.hid hz
  have HG := Lib.hid hG
  have HJ0 := Lib.hid HJ
  have HSP := Lib.hid (sz_parts j)
  clear l1 l2 l3 hsz hz hG HJ
  have HB := Below.refl w.heap.size w
  have HKD := Lib.hid hk5
  have IHH := Lib.hid IH
  clear IH
  by_cases hD : D = 32
  · have HS := Lib.hid (show sndT (er j) (32 - D) = false by rw [hD]; exact snd_deep (.inr hk5))
    clear hk5
    subst hD
    go_enter Tryz.func65, Tryz.ntmps65
    go_wp2_with (first
      | (refine wpl_box_at rfl 25 (.tmp 0) rfl _ rfl ?_; intro w1 hw; have hb := hid_grow hw; have B2 := (hid_alloc hw).1; replace HB := zT HB hb; clear hb hw; have c2_0 : w1.cell? ⟨_, 0, none⟩ = some (.int .i64 5) := (B2.cell 0).trans (by rw [← HKD.out]; rfl); have c2_1 : w1.cell? ⟨_, 1, none⟩ = some (.bool j.v.b) := B2.cell 1; have c2_2 : w1.cell? ⟨_, 2, none⟩ = some (.int .i64 j.v.i) := B2.cell 2; have c2_3 : w1.cell? ⟨_, 3, none⟩ = some (.string j.v.t) := B2.cell 3; have c2_4 : w1.cell? ⟨_, 4, none⟩ = some (.slice j.v.LA j.v.Ln j.v.Lc) := B2.cell 4; have c2_5 : w1.cell? ⟨_, 5, none⟩ = some (.slice j.v.FA j.v.Fn j.v.Fc) := B2.cell 5; have L12 := IBox.lt B2)
      | ((with_reducible refine is_alloc ?_); refine wpl_alloc_at rfl 25 rfl _ zeroV ?_; intro w2 hw; have hb := hid_grow hw; have B4 := hid_alloc0 hw; replace HB := zT HB hb; replace B2 := zI B2 hb; (try replace c2_0 := cell_below hb c2_0); (try replace c2_1 := cell_below hb c2_1); (try replace c2_2 := cell_below hb c2_2); (try replace c2_3 := cell_below hb c2_3); (try replace c2_4 := cell_below hb c2_4); (try replace c2_5 := cell_below hb c2_5); clear hb hw; have L14 := IBox.lt B4)
      | ((with_reducible refine is_build ?_); refine wpl_build_at (zero_build) rfl _ rfl rfl ?_)
      | ((with_reducible refine is_store ?_); refine wpl_store_at rfl 25 (.tmp 4) (.tmp 15) rfl _ JV.zero.cells rfl rfl _ _ B4 info_value rfl (jv_one _) ?_; intro w7 hw; have hq := hid_row_below hw (show w.heap.size ≤ w1.heap.size by omega) HB; replace HB := hq.1; (try replace NH := NH.bes (Bes.row (X := fun q => q = w1.heap.size) hw rfl) (fun q e => by have e2 : q = w1.heap.size := e; omega)); replace B4 := hid_row hw B4; clear hq hw))
    exact bodyPost_ret (results_nm rfl _ _ w1.heap.size JV.zero.cells (.iface 31 (.int .i64 8)) rfl rfl B4 info_value) rfl (NmV.no HS.out HB)
  · obtain ⟨ie, z, hie1, hie2, hie3, hie4, hzz⟩ := fld_slice0
    subst hzz
    have HFN : Hid (j.v.Fn ≤ 1048576) := Lib.hid (by have := HSP.out.2.1; have := LV.out; have := HZ.out; omega)
    have hD2 : D < 32 := by omega
    have hDb : (D == 32) = false := by simp; omega
    have HSI := Lib.hid (snd_obj_iff hk5 LN.out hD0 hD2)
    have hDw : D + 1 ≤ 32 := by omega
    clear hk5 hD
    go_enter Tryz.func65, Tryz.ntmps65
    go_wp2_with (first
      | (refine wpl_box_at rfl 25 (.tmp 0) rfl _ rfl ?_; intro w1 hw; have hb := hid_grow hw; have B2 := (hid_alloc hw).1; replace HB := zT HB hb; clear hb hw; have c2_0 : w1.cell? ⟨_, 0, none⟩ = some (.int .i64 5) := (B2.cell 0).trans (by rw [← HKD.out]; rfl); have c2_1 : w1.cell? ⟨_, 1, none⟩ = some (.bool j.v.b) := B2.cell 1; have c2_2 : w1.cell? ⟨_, 2, none⟩ = some (.int .i64 j.v.i) := B2.cell 2; have c2_3 : w1.cell? ⟨_, 3, none⟩ = some (.string j.v.t) := B2.cell 3; have c2_4 : w1.cell? ⟨_, 4, none⟩ = some (.slice j.v.LA j.v.Ln j.v.Lc) := B2.cell 4; have c2_5 : w1.cell? ⟨_, 5, none⟩ = some (.slice j.v.FA j.v.Fn j.v.Fc) := B2.cell 5; have L12 := IBox.lt B2)
      | ((with_reducible refine is_alloc ?_); refine wpl_newbox 6 rfl rfl 25 rfl rfl (.tmp 17) rfl _ zeroV (lfJ 5 false 0 ⟨#[]⟩).cells rfl rfl info_value rfl (jv_one _) ?_; intro w3 hw; have hb := hid_grow hw; have B6 := (hid_alloc hw).1; replace HB := zT HB hb; replace B2 := zI B2 hb; replace B4 := zI B4 hb; (try replace c2_0 := cell_below hb c2_0); (try replace c2_1 := cell_below hb c2_1); (try replace c2_2 := cell_below hb c2_2); (try replace c2_3 := cell_below hb c2_3); (try replace c2_4 := cell_below hb c2_4); (try replace c2_5 := cell_below hb c2_5); clear hb hw; have L23 := IBox.lt B6)
      | ((with_reducible refine is_alloc ?_); refine wpl_alloc_at rfl 25 rfl _ zeroV ?_; intro w2 hw; have hb := hid_grow hw; have B4 := hid_alloc0 hw; replace HB := zT HB hb; replace B2 := zI B2 hb; (try replace c2_0 := cell_below hb c2_0); (try replace c2_1 := cell_below hb c2_1); (try replace c2_2 := cell_below hb c2_2); (try replace c2_3 := cell_below hb c2_3); (try replace c2_4 := cell_below hb c2_4); (try replace c2_5 := cell_below hb c2_5); clear hb hw; have L14 := IBox.lt B4)
      | ((with_reducible refine is_build ?_); refine wpl_build_at (kind_build 5) rfl _ rfl rfl ?_))
    clear c2_0 c2_1 c2_2 c2_3 c2_4 c2_5
    have hbase : w.heap.size ≤ w3.heap.size := HB.size
    replace B6 : IBox w3 w2.heap.size 25 (VC (.slice none 0 0)) := B6
    go_loopw [21] (fun i wr => ∃ (q : Nat) (L : List (ByteArray × JV)) (v : Value), q ≤ j.v.Fn ∧ i = .int .i64 q ∧ Hid (L.map (·.1) = j.ns.take q) ∧ Hid ((L.map (·.2)).map er = ((erL j.vs).take q).map nrmT) ∧ Hid (∀ n ∈ j.ns.take q, badI n < 0) ∧ Hid (∀ x ∈ (erL j.vs).take q, sndT x (32 - (D + 1)) = true) ∧ NK w3.heap.size 52 7 v L.length (fldL L) (L.map (·.2)) wr ∧ IBox wr w1.heap.size 25 JV.zero.cells ∧ IBox wr w2.heap.size 25 (VC v) ∧ Below w.heap.size w wr) (fun i _ => j.v.Fn - (intOf i).toNat)
    case atStart => exact ⟨0, [], .slice none 0 0, Nat.zero_le _, rfl, Lib.hid rfl, Lib.hid rfl, Lib.hid (fun n hn => nomatch hn), Lib.hid (fun n hn => by simp at hn), NK.start (Nat.le_refl _), B4, B6, HB⟩
    case round =>
      clear B2 B4 B6 HB
      obtain ⟨q, L, v, hq, rfl, H1, H2, H3, H4, NH, B4, B6, HB⟩ := hrel
      have c6 : wr.cell? ⟨w2.heap.size, 5, none⟩ = some v := (B6.cell 5).trans rfl
      have HLq : Hid (L.length = q) := Lib.hid (by have h1 := congrArg List.length H1.out; rw [List.length_map, List.length_take] at h1; have := LN.out; have := LV.out; omega)
      by_cases hlt : q < j.v.Fn
      · have HJ := HJ0.out.below HB
        obtain ⟨bl, off, nm, x, hA, hx, hnx, n1, RX, HX⟩ := jv_fld HJ (show q < j.vs.length by have := LV.out; omega)
        clear HJ
        have HSZ := Lib.hid (show SizeOf.sizeOf x < sz by have := size_vs hx; have := SZ.out; omega)
        have HZX := Lib.hid (show SzT (er x) ≤ 1048576 from Nat.le_trans (HSP.out.2.2.2 _ _ hx) HZ.out)
        have hnsz : nm.size ≤ 140737488355328 := by have := sz_name j (List.mem_of_getElem? hnx); have := HZ.out; omega
        have FC : wr.rangeAt bl (off + q * 7) (fldA (nm, x)).toList := field_range n1 RX
        have HXX := Lib.hid hx
        have HNX := Lib.hid hnx
        have hbd : 0 ≤ (q : Int) ∧ (q : Int) < j.v.Fn := by omega
        have hlt2 : (q : Int) < j.v.Fn := by omega
        have HA := Lib.hid hA
        clear hx hnx hA n1 RX
        rw [HA.out]
        by_cases hsx : sndT (er x) (32 - (D + 1)) = true
        · have HSX := Lib.hid hsx
          clear hsx
          by_cases hbn : badI nm < 0
          · have HBN := Lib.hid hbn
            have hbn2 : ¬ (0 : Int) ≤ badI nm := by omega
            obtain ⟨bi, hbi⟩ : ∃ bi, bi = badI nm := ⟨_, rfl⟩
            have HBI := Lib.hid hbi
            rw [← hbi] at hbn2 hbn
            clear hbi
            go_wp2_with (first
              | ((with_reducible refine is_load ?_); refine wpl_load_arr rfl 52 (.tmp 23) rfl _ _ rfl (fldA (nm, x)) _ FC Tryz.underlying52 rfl info_field7 ?_)
              | ((with_reducible refine is_alloc ?_); refine wpl_newbox 8 rfl rfl 52 rfl rfl (.tmp 24) rfl _ zeroFC (fldA (nm, x)) rfl rfl info_field7 rfl (fld_one _) ?_; intro w5 hw; have hb := hid_grow hw; have B8 := (hid_alloc hw).1; clear FC; replace HB := zT HB hb; (try replace B2 := zI B2 hb); (try replace B4 := zI B4 hb); (try replace B6 := zI B6 hb); (try replace B9 := zI B9 hb); (try replace HX := HX.below hb); (try replace hy := hy.below hb); (try replace NH := NH.below hb); (try replace c6 : World.cell? _ ⟨w2.heap.size, 5, none⟩ = some v := (B6.cell 5).trans rfl); clear hb hw; have RV := field_val B8; have n8 := fld_nm B8)
              | ((with_reducible refine is_load ?_); refine wpl_load_arr rfl 25 (.tmp 26) rfl _ _ rfl x.cells _ RV Tryz.underlying25 rfl info_value ?_)
              | (go_at_call 42; (refine (IHH.out x _ _ HSZ.out HX HZX.out (glN HB HG.out) (by omega) (by omega)).mono ?_); intro e w6 hnm; obtain ⟨y, he, hy, hey, hoy, _, hb⟩ := NmV.yes HSX.out hnm; subst he; clear hnm; have HEY := Lib.hid hey; have HOY := Lib.hid (NH.new hoy); clear hey hoy; replace HB := zT HB hb; (try replace B2 := zI B2 hb); (try replace B4 := zI B4 hb); (try replace B6 := zI B6 hb); (try replace B8 := zI B8 hb); (try replace B9 := zI B9 hb); (try replace NH := NH.below hb); (try replace n8 := fld_nm B8); (try replace RV := field_val B8); (try replace c6 : World.cell? _ ⟨w2.heap.size, 5, none⟩ = some v := (B6.cell 5).trans rfl); clear hb)
              | ((with_reducible refine is_alloc ?_); refine wpl_newbox 9 rfl rfl 25 rfl rfl (.tmp 31) rfl _ zeroV y.cells rfl rfl info_value rfl (jv_one _) ?_; intro w5 hw; have hb := hid_grow hw; have B9 := (hid_alloc hw).1; replace HB := zT HB hb; (try replace B2 := zI B2 hb); (try replace B4 := zI B4 hb); (try replace B6 := zI B6 hb); (try replace B8 := zI B8 hb); (try replace HX := HX.below hb); (try replace hy := hy.below hb); (try replace NH := NH.below hb); (try replace n8 := fld_nm B8); (try replace RV := field_val B8); (try replace c6 : World.cell? _ ⟨w2.heap.size, 5, none⟩ = some v := (B6.cell 5).trans rfl); clear hb hw)
              | (go_at_call 64; (refine (ubad_any (glN HB HG.out) hnsz).mono ?_); rw [← HBI.out]; rintro e w6 ⟨rfl, hb⟩; replace HB := zT HB hb; (try replace B2 := zI B2 hb); (try replace B4 := zI B4 hb); (try replace B6 := zI B6 hb); (try replace B8 := zI B8 hb); (try replace B9 := zI B9 hb); (try replace HX := HX.below hb); (try replace hy := hy.below hb); (try replace NH := NH.below hb); (try replace n8 := fld_nm B8); (try replace RV := field_val B8); (try replace c6 : World.cell? _ ⟨w2.heap.size, 5, none⟩ = some v := (B6.cell 5).trans rfl); clear hb)
              | ((with_reducible refine is_load ?_); refine wpl_load_box rfl 25 (.tmp 9) rfl _ rfl _ _ _ B9 Tryz.underlying25 rfl info_value ?_)
              | ((with_reducible refine is_build ?_); refine wpl_build_at (fld_build nm y) rfl _ rfl rfl ?_)
              | ((with_reducible refine is_slice ?_); refine wpl_slice_at 1 [(0, .agg (fldA (nm, y)))] (fldA (nm, y)) ie _ (by rw [hie3]; exact fld_fill _) rfl 23 52 _ rfl rfl Tryz.underlying23 hie1 hie2 (by rw [hie3]; decide) (by rw [hie3]; decide) ?_; intro w5 hw; have hb := hid_grow hw; have B10 := (hid_alloc hw).1; replace HB := zT HB hb; (try replace B2 := zI B2 hb); (try replace B4 := zI B4 hb); (try replace B6 := zI B6 hb); (try replace B8 := zI B8 hb); (try replace B9 := zI B9 hb); (try replace HX := HX.below hb); (try replace hy := hy.below hb); (try replace NH := NH.below hb); (try replace n8 := fld_nm B8); (try replace RV := field_val B8); (try replace c6 : World.cell? _ ⟨w2.heap.size, 5, none⟩ = some v := (B6.cell 5).trans rfl); clear hb hw)
              | (at_builtin; refine wpl_append_nk rfl (.tmp 44) (.tmp 49) 23 rfl w3.heap.size 52 ie _ 7 104 Tryz.underlying23 hie1 hie2 hie3 hie4 rfl (by decide) v L.length (fldL L) (L.map (·.2)) y rfl NH _ 1 (fldA (nm, y)) _ B10 rfl rfl (fld_one _) hy HOY.out (by have := HLq.out; unfold maxLen; omega) (by have := HLq.out; have := HFN.out; omega) ?_; intro v9 w10 hn9 hb9; replace NH := hn9; replace HB := HB.trans (hb9.mono hbase); replace B4 := IBox.below B4 hb9 (by omega); replace B6 := IBox.below B6 hb9 (by omega); clear hn9 hb9 B8 B9 B10 RV n8 c6 hy HX)
              | ((with_reducible refine is_store ?_); refine wpl_store_cell rfl 23 (.tmp 51) (.tmp 50) rfl _ 5 rfl v9 rfl _ _ B6 (VC_lt _) info_oneF (own_one NH.own) ?_; intro w11 hw; have hq := hid_row_below hw (show w.heap.size ≤ w2.heap.size by omega) HB; replace HB := hq.1; replace NH := NH.bes (Bes.row (X := fun q => q = w2.heap.size) hw rfl) (fun q e => by have e2 : q = w2.heap.size := e; omega); replace B4 := hid_row_other hw (show w1.heap.size ≠ w2.heap.size by omega) B4; replace B6 := hid_row hw B6; rw [VC_set] at B6; clear hq hw))
            go_roundw
            case rel =>
              obtain ⟨k1, k2⟩ := objs_step HNX.out HXX.out H1.out H2.out HEY.out
              refine ⟨q + 1, L ++ [(nm, y)], v9, by omega, by go_num, Lib.hid k1, Lib.hid k2, Lib.hid (names_step HNX.out H3.out HBN.out), Lib.hid (all_step HXX.out H4.out HSX.out), ?_, B4, B6, HB⟩
              rw [List.length_append, fldL_app, fldL_one, List.map_append]
              exact NH
            case measure => simp [intOf]; omega
          · have HS := Lib.hid (to_false (fun h => hbn ((HSI.out.1 h).1 nm (List.mem_of_getElem? HNX.out))))
            have hbn2 : (0 : Int) ≤ badI nm := by omega
            obtain ⟨bi, hbi⟩ : ∃ bi, bi = badI nm := ⟨_, rfl⟩
            have HBI := Lib.hid hbi
            rw [← hbi] at hbn2 hbn
            clear hbi
            go_wp2_with (first
              | ((with_reducible refine is_load ?_); refine wpl_load_arr rfl 52 (.tmp 23) rfl _ _ rfl (fldA (nm, x)) _ FC Tryz.underlying52 rfl info_field7 ?_)
              | ((with_reducible refine is_alloc ?_); refine wpl_newbox 8 rfl rfl 52 rfl rfl (.tmp 24) rfl _ zeroFC (fldA (nm, x)) rfl rfl info_field7 rfl (fld_one _) ?_; intro w5 hw; have hb := hid_grow hw; have B8 := (hid_alloc hw).1; clear FC; replace HB := zT HB hb; (try replace B2 := zI B2 hb); (try replace B4 := zI B4 hb); (try replace B6 := zI B6 hb); (try replace B9 := zI B9 hb); (try replace HX := HX.below hb); (try replace hy := hy.below hb); (try replace NH := NH.below hb); (try replace c6 : World.cell? _ ⟨w2.heap.size, 5, none⟩ = some v := (B6.cell 5).trans rfl); clear hb hw; have RV := field_val B8; have n8 := fld_nm B8)
              | ((with_reducible refine is_load ?_); refine wpl_load_arr rfl 25 (.tmp 26) rfl _ _ rfl x.cells _ RV Tryz.underlying25 rfl info_value ?_)
              | (go_at_call 42; (refine (IHH.out x _ _ HSZ.out HX HZX.out (glN HB HG.out) (by omega) (by omega)).mono ?_); intro e w6 hnm; obtain ⟨y, he, hy, hey, hoy, _, hb⟩ := NmV.yes HSX.out hnm; subst he; clear hnm; have HEY := Lib.hid hey; have HOY := Lib.hid (NH.new hoy); clear hey hoy; replace HB := zT HB hb; (try replace B2 := zI B2 hb); (try replace B4 := zI B4 hb); (try replace B6 := zI B6 hb); (try replace B8 := zI B8 hb); (try replace B9 := zI B9 hb); (try replace NH := NH.below hb); (try replace n8 := fld_nm B8); (try replace RV := field_val B8); (try replace c6 : World.cell? _ ⟨w2.heap.size, 5, none⟩ = some v := (B6.cell 5).trans rfl); clear hb)
              | ((with_reducible refine is_alloc ?_); refine wpl_newbox 9 rfl rfl 25 rfl rfl (.tmp 31) rfl _ zeroV y.cells rfl rfl info_value rfl (jv_one _) ?_; intro w5 hw; have hb := hid_grow hw; have B9 := (hid_alloc hw).1; replace HB := zT HB hb; (try replace B2 := zI B2 hb); (try replace B4 := zI B4 hb); (try replace B6 := zI B6 hb); (try replace B8 := zI B8 hb); (try replace HX := HX.below hb); (try replace hy := hy.below hb); (try replace NH := NH.below hb); (try replace n8 := fld_nm B8); (try replace RV := field_val B8); (try replace c6 : World.cell? _ ⟨w2.heap.size, 5, none⟩ = some v := (B6.cell 5).trans rfl); clear hb hw)
              | (go_at_call 64; (refine (ubad_any (glN HB HG.out) hnsz).mono ?_); rw [← HBI.out]; rintro e w6 ⟨rfl, hb⟩; replace HB := zT HB hb; (try replace B2 := zI B2 hb); (try replace B4 := zI B4 hb); (try replace B6 := zI B6 hb); (try replace B8 := zI B8 hb); (try replace B9 := zI B9 hb); (try replace HX := HX.below hb); (try replace hy := hy.below hb); (try replace NH := NH.below hb); (try replace n8 := fld_nm B8); (try replace RV := field_val B8); (try replace c6 : World.cell? _ ⟨w2.heap.size, 5, none⟩ = some v := (B6.cell 5).trans rfl); clear hb)
              | ((with_reducible refine is_build ?_); refine wpl_build_at (zero_build) rfl _ rfl rfl ?_)
              | ((with_reducible refine is_store ?_); refine wpl_store_at rfl 25 (.tmp 4) (.tmp 41) rfl _ JV.zero.cells rfl rfl _ _ B4 info_value rfl (jv_one _) ?_; intro w7 hw; have hq := hid_row_below hw (show w.heap.size ≤ w1.heap.size by omega) HB; replace HB := hq.1; (try replace NH := NH.bes (Bes.row (X := fun q => q = w1.heap.size) hw rfl) (fun q e => by have e2 : q = w1.heap.size := e; omega)); replace B4 := hid_row hw B4; clear hq hw))
            exact bodyPost_ret (results_nm rfl _ _ w1.heap.size JV.zero.cells (.iface 31 (.int .i64 8)) rfl rfl B4 info_value) rfl (NmV.no HS.out HB)
        · have HS := Lib.hid (to_false (fun h => hsx ((HSI.out.1 h).2.1 _ (er_mem HXX.out))))
          have HSX := Lib.hid (to_false hsx)
          clear hsx
          go_wp2_with (first
            | ((with_reducible refine is_load ?_); refine wpl_load_arr rfl 52 (.tmp 23) rfl _ _ rfl (fldA (nm, x)) _ FC Tryz.underlying52 rfl info_field7 ?_)
            | ((with_reducible refine is_alloc ?_); refine wpl_newbox 8 rfl rfl 52 rfl rfl (.tmp 24) rfl _ zeroFC (fldA (nm, x)) rfl rfl info_field7 rfl (fld_one _) ?_; intro w5 hw; have hb := hid_grow hw; have B8 := (hid_alloc hw).1; clear FC; replace HB := zT HB hb; (try replace B2 := zI B2 hb); (try replace B4 := zI B4 hb); (try replace B6 := zI B6 hb); (try replace B9 := zI B9 hb); (try replace HX := HX.below hb); (try replace hy := hy.below hb); (try replace NH := NH.below hb); (try replace c6 : World.cell? _ ⟨w2.heap.size, 5, none⟩ = some v := (B6.cell 5).trans rfl); clear hb hw; have RV := field_val B8; have n8 := fld_nm B8)
            | ((with_reducible refine is_load ?_); refine wpl_load_arr rfl 25 (.tmp 26) rfl _ _ rfl x.cells _ RV Tryz.underlying25 rfl info_value ?_)
            | (go_at_call 42; (refine (IHH.out x _ _ HSZ.out HX HZX.out (glN HB HG.out) (by omega) (by omega)).mono ?_); intro e w6 hnm; obtain ⟨he, hb⟩ := NmV.not HSX.out hnm; subst he; clear hnm; replace HB := zT HB hb; (try replace B2 := zI B2 hb); (try replace B4 := zI B4 hb); (try replace B6 := zI B6 hb); (try replace B8 := zI B8 hb); (try replace B9 := zI B9 hb); (try replace HX := HX.below hb); (try replace hy := hy.below hb); (try replace NH := NH.below hb); (try replace n8 := fld_nm B8); (try replace RV := field_val B8); (try replace c6 : World.cell? _ ⟨w2.heap.size, 5, none⟩ = some v := (B6.cell 5).trans rfl); clear hb)
            | ((with_reducible refine is_alloc ?_); refine wpl_newbox 9 rfl rfl 25 rfl rfl (.tmp 31) rfl _ zeroV JV.zero.cells rfl rfl info_value rfl (jv_one _) ?_; intro w5 hw; have hb := hid_grow hw; have B9 := (hid_alloc hw).1; replace HB := zT HB hb; (try replace B2 := zI B2 hb); (try replace B4 := zI B4 hb); (try replace B6 := zI B6 hb); (try replace B8 := zI B8 hb); (try replace HX := HX.below hb); (try replace hy := hy.below hb); (try replace NH := NH.below hb); (try replace n8 := fld_nm B8); (try replace RV := field_val B8); (try replace c6 : World.cell? _ ⟨w2.heap.size, 5, none⟩ = some v := (B6.cell 5).trans rfl); clear hb hw)
            | ((with_reducible refine is_build ?_); refine wpl_build_at (zero_build) rfl _ rfl rfl ?_)
            | ((with_reducible refine is_store ?_); refine wpl_store_at rfl 25 (.tmp 4) (.tmp 41) rfl _ JV.zero.cells rfl rfl _ _ B4 info_value rfl (jv_one _) ?_; intro w7 hw; have hq := hid_row_below hw (show w.heap.size ≤ w1.heap.size by omega) HB; replace HB := hq.1; (try replace NH := NH.bes (Bes.row (X := fun q => q = w1.heap.size) hw rfl) (fun q e => by have e2 : q = w1.heap.size := e; omega)); replace B4 := hid_row hw B4; clear hq hw))
          exact bodyPost_ret (results_nm rfl _ _ w1.heap.size JV.zero.cells (.iface 31 (.int .i64 8)) rfl rfl B4 info_value) rfl (NmV.no HS.out HB)
      · obtain rfl : q = j.v.Fn := by omega
        have hlt2 : ¬ ((j.v.Fn : Nat) : Int) < j.v.Fn := by omega
        have G1 : Hid (L.map (·.1) = j.ns) := Lib.hid (by rw [H1.out]; exact List.take_of_length_le (by have := LN.out; have := LV.out; omega))
        have G2 : Hid ((L.map (·.2)).map er = (erL j.vs).map nrmT) := Lib.hid (by rw [H2.out, List.take_of_length_le (by rw [erL_len]; have := LV.out; omega)])
        have G3 : Hid (∀ n ∈ j.ns, badI n < 0) := Lib.hid (by have := H3.out; rwa [List.take_of_length_le (by have := LN.out; have := LV.out; omega)] at this)
        have G4 : Hid (∀ x ∈ erL j.vs, sndT x (32 - (D + 1)) = true) := Lib.hid (by have := H4.out; rwa [List.take_of_length_le (by rw [erL_len]; have := LV.out; omega)] at this)
        clear H1 H2 H3 H4 hlt hq
        obtain ⟨ln, hln⟩ : ∃ ln, ln = L.length := ⟨_, rfl⟩
        rw [← hln] at NH
        obtain ⟨A, c, hv⟩ := own_shape NH.own
        subst hv
        have HLN := Lib.hid hln
        have hln2 : ln ≤ 1048576 := by have := HLq.out; have := HFN.out; omega
        clear hln HLq
        go_wp2_with (first
          | (go_at_call 84; (refine (sort_any NH.own HLN.out (by omega)).mono ?_); rintro e w6 ⟨rfl, M, hpm, hst, hso, hbes⟩; have HNB : Hid (∀ k, (Value.slice A ln c).ownBlock = some k → w3.heap.size ≤ k) := Lib.hid (fun k e => (own_in NH.own e).1); have HPM := Lib.hid hpm; have HST := Lib.hid hst; have HSO := Lib.hid hso; have HEL : Hid (∀ y ∈ M.map (·.2), IsJV w6 y ∧ Off (fun q => q < w3.heap.size ∨ (Value.slice A ln c).ownBlock = some q) y) := Lib.hid (fun y hy => by have h1 := NH.els y ((hpm.map _).mem_iff.1 hy); exact ⟨IsJV.bes hbes h1.1 (Off.mono (fun q e => Or.inr e) h1.2), h1.2⟩); replace B4 := Bes.box hbes B4 (fun e => by have := HNB.out _ e; omega); replace B6 := Bes.box hbes B6 (fun e => by have := HNB.out _ e; omega); replace HB := HB.trans (hbes.below (B := w.heap.size) (fun k e => by have := HNB.out _ e; omega) HB.size); clear hpm hst hso hbes NH; replace c6 : w6.cell? ⟨w2.heap.size, 5, none⟩ = some (.slice A ln c) := (B6.cell 5).trans rfl))
        have HML : Hid (ln = M.length) := Lib.hid (by rw [HLN.out]; exact HPM.out.length_eq.symm)
        go_loopw [59] (fun i wr => ∃ q : Nat, q ≤ ln ∧ i = .int .i64 q ∧ Hid (∀ i p r, i + 1 < q → M[i]? = some p → M[i + 1]? = some r → p.1 ≠ r.1) ∧ Below w6.heap.size w6 wr) (fun i _ => ln - (intOf i).toNat)
        case atStart => exact ⟨0, Nat.zero_le _, rfl, Lib.hid (fun i p r h => by omega), Below.refl _ _⟩
        case round =>
          obtain ⟨q, hq, rfl, HD, hb⟩ := hrel
          have HBW := Lib.hid hb
          replace c6 := cell_below hb c6
          have hOW := own_below HSO.out hb
          replace B4 := zI B4 hb
          replace B6 := zI B6 hb
          replace HB := zT HB hb
          have HOW := Lib.hid hOW
          clear hb hOW
          by_cases hlt : q < ln
          · obtain ⟨gr, p, hA, hp, FC2⟩ := own_fld HOW.out HML.out hlt
            have HP := Lib.hid hp
            have HA2 := Lib.hid hA
            have hbd : 0 ≤ (q : Int) ∧ (q : Int) < ln := by omega
            have hlt2 : (q : Int) < ln := by omega
            clear hA hp
            rw [HA2.out] at c6
            rw [HA2.out]
            by_cases hq0 : q = 0
            · subst hq0
              clear hbd hlt
              go_wp2_with (first
                | ((with_reducible refine is_load ?_); refine wpl_load_arr rfl 52 (.tmp 62) rfl _ _ rfl (fldA p) _ FC2 Tryz.underlying52 rfl info_field7 ?_)
                | ((with_reducible refine is_alloc ?_); refine wpl_alloc_at rfl 52 rfl _ zeroFC ?_; intro w8 hw; have hb := hid_grow hw; have B12 := hid_alloc0 hw; have HBS := Lib.hid (HBW.out.trans (hb.mono HBW.out.size)); have hb5 := hb; clear hw)
                | ((with_reducible refine is_store ?_); refine wpl_store_at rfl 52 (.tmp 12) (.tmp 63) rfl _ (fldA p) rfl rfl _ _ B12 info_field7 rfl (fld_one _) ?_; intro w9 hw; replace hb := (hid_row_below hw (Nat.le_refl _) hb5).1; replace B12 := hid_row hw B12; clear hb5 HBS hw; replace HBW := Lib.hid (HBW.out.trans (hb.mono HBW.out.size)); replace HB := zT HB hb; replace B4 := zI B4 hb; replace B6 := zI B6 hb; (try replace FC2 := range_below hb FC2); (try replace n3 := cell_below hb n3); (try replace c6 := cell_below hb c6); clear hb; have n12 := fld_nm B12))
              refine wp_region_QL (by kernel_rfl) (by kernel_rfl) ?_
              repeat (refine QL.step (fun K hK => ?_); go_simp; first | (refine hK _ ?_; clear hK K) | (apply Exists.intro; refine ⟨fun _ => ?_, hK _ ?_⟩; clear hK K))
              refine QL.nil ?_
              intro _ hw'
              obtain ⟨nq, hw''⟩ := hw'
              subst hw''
              generalize hw2 : World.drewN _ nq = w10
              have hb4 := HBW.out.trans ((below_dq hw2).mono HBW.out.size)
              clear hw2
              go_wp2
              go_roundw
              case rel => exact ⟨0 + 1, by omega, by go_num, Lib.hid (fun i p r h => by omega), hb4⟩
              case measure => simp [intOf]; omega
            · obtain ⟨k, rfl⟩ : ∃ k, q = k + 1 := ⟨q - 1, by omega⟩
              obtain ⟨gr2, p2, hA3, hp2, FC3⟩ := own_fld HOW.out HML.out (show k < ln by omega)
              have n3 : World.cell? _ ⟨gr2, k * 7, none⟩ = some (.string p2.1) := FC3 0 _ rfl
              rw [HA2.out] at hA3
              obtain rfl : gr = gr2 := by injection hA3 with h1; injection h1
              have HP2 := Lib.hid hp2
              have hk0 : 0 ≤ (k : Int) ∧ (k : Int) < ln := by omega
              clear hA3 hp2 FC3 hq0
              go_wp2_with (first
                | ((with_reducible refine is_load ?_); refine wpl_load_arr rfl 52 (.tmp 62) rfl _ _ rfl (fldA p) _ FC2 Tryz.underlying52 rfl info_field7 ?_)
                | ((with_reducible refine is_alloc ?_); refine wpl_alloc_at rfl 52 rfl _ zeroFC ?_; intro w8 hw; have hb := hid_grow hw; have B12 := hid_alloc0 hw; have HBS := Lib.hid (HBW.out.trans (hb.mono HBW.out.size)); have hb5 := hb; clear hw)
                | ((with_reducible refine is_store ?_); refine wpl_store_at rfl 52 (.tmp 12) (.tmp 63) rfl _ (fldA p) rfl rfl _ _ B12 info_field7 rfl (fld_one _) ?_; intro w9 hw; replace hb := (hid_row_below hw (Nat.le_refl _) hb5).1; replace B12 := hid_row hw B12; clear hb5 HBS hw; replace HBW := Lib.hid (HBW.out.trans (hb.mono HBW.out.size)); replace HB := zT HB hb; replace B4 := zI B4 hb; replace B6 := zI B6 hb; (try replace FC2 := range_below hb FC2); (try replace n3 := cell_below hb n3); (try replace c6 := cell_below hb c6); clear hb; have n12 := fld_nm B12))
              have hW1 : IntKind.i64.wrap (k : Int) = k := wrap_k (by omega)
              have hW2 : IntKind.i64.wrap ((k : Int) + 1 - 1) = k := by rw [Int.add_sub_cancel]; exact hW1
              by_cases hnm : (p2.1.toList == p.1.toList) = true
              · have HS := Lib.hid (to_false (fun h => twice_of HP2.out HP.out (toList_inj (by simpa using hnm)) ((dist_perm HPM.out).2 (by have h3 := (HSI.out.1 h).2.2; rw [← G1.out, List.pairwise_map] at h3; exact h3))))
                refine wp_region_QL (by kernel_rfl) (by kernel_rfl) ?_
                repeat (refine QL.step (fun K hK => ?_); go_simp; first | (refine hK _ ?_; clear hK K) | (apply Exists.intro; refine ⟨fun _ => ?_, hK _ ?_⟩; clear hK K))
                refine QL.nil ?_
                intro _ hw'
                obtain ⟨nq, hw''⟩ := hw'
                subst hw''
                generalize hw2 : World.drewN _ nq = w10
                have hb := below_dq hw2
                clear hw2
                replace HBW := Lib.hid (HBW.out.trans (hb.mono HBW.out.size))
                replace HB := zT HB hb
                replace B4 := zI B4 hb
                replace B6 := zI B6 hb
                (try replace FC2 := range_below hb FC2)
                (try replace n3 := cell_below hb n3)
                (try replace c6 := cell_below hb c6)
                clear hb
                go_wp2_with (first
                  | ((with_reducible refine is_build ?_); refine wpl_build_at (zero_build) rfl _ rfl rfl ?_)
                  | ((with_reducible refine is_store ?_); refine wpl_store_at rfl 25 (.tmp 4) (.tmp 78) rfl _ JV.zero.cells rfl rfl _ _ B4 info_value rfl (jv_one _) ?_; intro w7 hw; have hq := hid_row_below hw (show w.heap.size ≤ w1.heap.size by omega) HB; replace HB := hq.1; (try replace NH := NH.bes (Bes.row (X := fun q => q = w1.heap.size) hw rfl) (fun q e => by have e2 : q = w1.heap.size := e; omega)); replace B4 := hid_row hw B4; clear hq hw))
                exact bodyPost_ret (results_nm rfl _ _ w1.heap.size JV.zero.cells (.iface 31 (.int .i64 8)) rfl rfl B4 info_value) rfl (NmV.no HS.out HB)
              · have HNE := Lib.hid (show p2.1 ≠ p.1 from fun e => hnm (by rw [e]; simp))
                have hnm2 := to_false hnm
                clear hnm
                refine wp_region_QL (by kernel_rfl) (by kernel_rfl) ?_
                repeat (refine QL.step (fun K hK => ?_); go_simp; first | (refine hK _ ?_; clear hK K) | (apply Exists.intro; refine ⟨fun _ => ?_, hK _ ?_⟩; clear hK K))
                refine QL.nil ?_
                intro _ hw'
                obtain ⟨nq, hw''⟩ := hw'
                subst hw''
                generalize hw2 : World.drewN _ nq = w10
                have hb := below_dq hw2
                clear hw2
                replace HBW := Lib.hid (HBW.out.trans (hb.mono HBW.out.size))
                replace HB := zT HB hb
                replace B4 := zI B4 hb
                replace B6 := zI B6 hb
                (try replace FC2 := range_below hb FC2)
                (try replace n3 := cell_below hb n3)
                (try replace c6 := cell_below hb c6)
                clear hb
                go_wp2
                go_roundw
                case rel =>
                  refine ⟨k + 1 + 1, by omega, by go_num, Lib.hid (fun i a b hi ha hb => ?_), HBW.out⟩
                  by_cases e : i = k
                  · subst e
                    have h1 := HP2.out
                    have h2 := HP.out
                    rw [h1] at ha
                    rw [h2] at hb
                    injection ha with ha
                    injection hb with hb
                    rw [← ha, ← hb]
                    exact HNE.out
                  · exact HD.out i a b (by omega) ha hb
                case measure => simp [intOf]; omega
          · obtain rfl : q = ln := by omega
            have hlt2 : ¬ ((q : Nat) : Int) < q := by omega
            have HASC : Hid (Asc M) := Lib.hid (asc_of HST.out (fun i p r hp hr => HD.out i p r (by have := (List.getElem?_eq_some_iff.1 hr).1; have := HML.out; omega) hp hr))
            have HEL2 : Hid (∀ y ∈ M.map (·.2), IsJV wr y ∧ Off (fun k => k < w3.heap.size ∨ (Value.slice A q c).ownBlock = some k) y) := Lib.hid (fun y hy => ⟨(HEL.out y hy).1.below HBW.out, (HEL.out y hy).2⟩)
            have HSN := Lib.hid (HSI.out.2 ⟨G3.out, G4.out, by
              have h1 := HASC.out
              have h2 : Dist M := h1.imp fun {a b} hab e => by rw [e, cmpN_self] at hab; omega
              have h3 : Dist L := (dist_perm HPM.out).1 h2
              rw [← G1.out, List.pairwise_map]
              exact h3⟩)
            clear hlt hq
            go_wp2_with (first
              | ((with_reducible refine is_load ?_); refine wpl_load_box rfl 25 (.tmp 6) rfl _ rfl _ _ _ B6 Tryz.underlying25 rfl info_value ?_)
              | ((with_reducible refine is_store ?_); refine wpl_store_at rfl 25 (.tmp 4) (.tmp 81) rfl _ (VC (.slice A q c)) rfl rfl _ _ B4 info_value rfl (VC_one _ _ _) ?_; intro w7 hw; have hq := hid_row_below hw (show w.heap.size ≤ w1.heap.size by omega) HB; have HROW : Hid (Bes (fun k => k = w1.heap.size) wr w7) := Lib.hid (Bes.row hw rfl); replace HB := hq.1; replace B4 := hid_row hw B4; clear hq hw))
            have hne : ∀ k, (Value.slice A q c).ownBlock = some k → ¬ k = w1.heap.size := fun k e e2 => by have := HNB.out k e; omega
            have hlo : q ≤ 1048576 := hln2
            obtain ⟨x, hx1, hx2, hx3, hx4, hx5⟩ := nm_obj (w0 := w) (w := w7) (base := w3.heap.size) HKD.out hbase (by rw [← HML.out]; exact HROW.out.own HOW.out hne) LN.out (fun y hy => ⟨IsJV.bes HROW.out (HEL2.out y hy).1 (Off.mono (fun k e => Or.inl (by have e2 : k = w1.heap.size := e; omega)) (HEL2.out y hy).2), (HEL2.out y hy).2⟩) HPM.out G1.out G2.out HASC.out (by rw [← HML.out]; omega) (fun n hn => by have := sz_name j hn; have := HZ.out; unfold reach; omega)
            rw [hx1] at B4
            exact bodyPost_ret (results_nm rfl _ _ w1.heap.size x.cells .nilIface rfl rfl B4 info_value) rfl (NmV.ok HSN.out HB hx2 hx3 hx4 hx5)
end
end Go.Proofs.YtnjhmnolngdfaaaGreatDoor
