/- Layer 3, the document's: Count, Write, Norm, Same, walked. Layer 3: the laws CanonWrites and CanonSames answer true. -/
import Derived.Test.YtnjhmnolngdfaaaGreatDoorQ28
import Derived.Test.YtnjhmnolngdfaaaGreatDoorQ29
import Derived.Test.YtnjhmnolngdfaaaGreatDoorQ30
import Derived.Test.YtnjhmnolngdfaaaGreatDoorQ24
import Derived.Test.YtnjhmnolngdfaaaGreatDoorQZip
namespace Go.Proofs.YtnjhmnolngdfaaaGreatDoor
open Go.RowKit Go.PlainAid
set_option linter.unusedVariables false
set_option linter.unusedSimpArgs false
theorem ownB_slice {w : World} {base : Nat} {v : Value} {l : List UInt8} (h : OwnB w base v l) : ∃ A c, v = .slice A l.length c := by
  rcases h.2 with ⟨hv, h0⟩ | ⟨g, cap, cur, hv, _⟩
  · exact ⟨none, 0, by rw [hv, h0]⟩
  · exact ⟨_, _, hv⟩
/-- What the document's Write answers. -/
def RwV (j : JV) (w : World) (e : Ending) (w' : World) : Prop := e = .returned (.tuple #[.string ⟨(wrtS (er j)).2.toArray⟩, .int .i64 (wrtS (er j)).1]) ∧ Below w.heap.size w w'
theorem RwV.is {j : JV} {w w' : World} {l : List UInt8} {c : Int} (h : wrtS (er j) = (c, l)) (hb : Below w.heap.size w w') : RwV j w (.returned (.tuple #[.string ⟨l.toArray⟩, .int .i64 c])) w' := ⟨by rw [h], hb⟩
theorem RwV.get {j : JV} {w w' : World} {e : Ending} {l : List UInt8} {c : Int} (h : wrtS (er j) = (c, l)) (k : RwV j w e w') : e = .returned (.tuple #[.string ⟨l.toArray⟩, .int .i64 c]) ∧ Below w.heap.size w w' := by
  obtain ⟨k1, k2⟩ := k
  rw [h] at k1
  exact ⟨k1, k2⟩
/-- What the document's Norm leaves. -/
def RnV (j : JV) (w : World) (e : Ending) (w' : World) : Prop := Below w.heap.size w w' ∧
  if (wrtS (er j)).1 = 0 then ∃ x, e = .returned (.tuple #[.agg x.cells, .int .i64 0]) ∧ IsJV w' x ∧ er x = nrmT (er j) ∧ Off (fun q => q < w.heap.size) x
  else e = .returned (.tuple #[.agg JV.zero.cells, .int .i64 (wrtS (er j)).1])
theorem RnV.bad {j : JV} {w w' : World} {c : Int} (h : wrtS (er j) = (c, [])) (hc : c ≠ 0) (hb : Below w.heap.size w w') : RnV j w (.returned (.tuple #[.agg JV.zero.cells, .int .i64 c])) w' := ⟨hb, by rw [h, if_neg hc]⟩
theorem RnV.ok {j : JV} {w w' : World} {l : List UInt8} (h : wrtS (er j) = (0, l)) (hb : Below w.heap.size w w') {x : JV} (hx : IsJV w' x) (he : er x = nrmT (er j)) (ho : Off (fun q => q < w.heap.size) x) : RnV j w (.returned (.tuple #[.agg x.cells, .int .i64 0])) w' := ⟨hb, by rw [h, if_pos rfl]; exact ⟨x, rfl, hx, he, ho⟩⟩
theorem RnV.yes {j : JV} {w w' : World} {e : Ending} {l : List UInt8} (h : wrtS (er j) = (0, l)) (k : RnV j w e w') : ∃ x, e = .returned (.tuple #[.agg x.cells, .int .i64 0]) ∧ IsJV w' x ∧ er x = nrmT (er j) ∧ Off (fun q => q < w.heap.size) x ∧ Below w.heap.size w w' := by
  obtain ⟨k1, k2⟩ := k
  rw [h, if_pos rfl] at k2
  obtain ⟨x, a, b, c, d⟩ := k2
  exact ⟨x, a, b, c, d, k1⟩
theorem RnV.not {j : JV} {w w' : World} {e : Ending} {c : Int} (h : wrtS (er j) = (c, [])) (hc : c ≠ 0) (k : RnV j w e w') : e = .returned (.tuple #[.agg JV.zero.cells, .int .i64 c]) ∧ Below w.heap.size w w' := by
  obtain ⟨k1, k2⟩ := k
  rw [h, if_neg hc] at k2
  exact ⟨k2, k1⟩
set_option maxRecDepth 100000 in
set_option maxHeartbeats 8000000 in
theorem rcount3_any {j : JV} {w : World} (HJ : IsJV w j) : Calls Tryz.prog 27 #[.agg j.cells, .int .i64 0] w (CntV j 0 w) := by
  have HB := Below.refl w.heap.size w
  go_enter Tryz.func27, Tryz.ntmps27
  go_wp2_with (first
    | (refine wpl_box_at rfl 25 (.tmp 0) rfl _ rfl ?_; intro w12 hw; have hb := hid_grow hw; have B2 := (hid_alloc hw).1; replace HB := zT HB hb; (try replace HJ := HJ.below hb); (try replace HK := HK.below hb); (try replace HY := HY.below hb); (try replace B1 := zI B1 hb); (try replace B3 := zI B3 hb); clear hb hw)
    | ((with_reducible refine is_load ?_); refine wpl_load_box rfl 25 (.tmp 2) rfl _ rfl _ _ _ B2 Tryz.underlying25 rfl info_value ?_))
  refine (rcount_any HJ).mono ?_
  rintro e w3 ⟨rfl, hb⟩
  replace HB := zT HB hb
  (try replace HJ := HJ.below hb)
  (try replace HK := HK.below hb)
  (try replace HY := HY.below hb)
  (try replace B1 := zI B1 hb)
  (try replace B2 := zI B2 hb)
  (try replace B3 := zI B3 hb)
  clear hb
  go_wp2
  go_ret
  exact ⟨rfl, HB⟩
set_option maxRecDepth 100000 in
set_option maxHeartbeats 8000000 in
theorem rwrite_any {j : JV} {w : World} (HJ : IsJV w j) (hz : SzT (er j) ≤ 1048576) : Calls Tryz.prog 11 #[.agg j.cells] w (RwV j w) := by
  have HLT := Lib.hid (er_len HJ)
  have HZ := Lib.hid hz
  obtain ⟨ct, hct⟩ : ∃ ct, ct = cntT (er j) 0 := ⟨_, rfl⟩
  have HCT := Lib.hid hct.symm
  have hcm := cnt_most (er j)
  rw [← hct] at hcm
  have HB := Below.refl w.heap.size w
  clear hz hct
  by_cases hn : 65536 < numT (er j)
  · have HS := Lib.hid (show wrtS (er j) = (2, []) by unfold wrtS; rw [if_pos hn])
    have hc : 65536 < ct := by omega
    clear hcm hn
    go_enter Tryz.func11, Tryz.ntmps11
    go_wp2_with (first
      | (refine wpl_box_at rfl 25 (.tmp 0) rfl _ rfl ?_; intro w11 hw; have hb := hid_grow hw; have B1 := (hid_alloc hw).1; replace HB := zT HB hb; (try replace HJ := HJ.below hb); (try replace HK := HK.below hb); (try replace HY := HY.below hb); (try replace B2 := zI B2 hb); (try replace B3 := zI B3 hb); clear hb hw)
      | ((with_reducible refine is_load ?_); refine wpl_load_box rfl 25 (.tmp 1) rfl _ rfl _ _ _ B1 Tryz.underlying25 rfl info_value ?_))
    refine (rcount3_any HJ).mono ?_
    rintro e w3 ⟨rfl, hb⟩
    rw [HCT.out]
    replace HB := zT HB hb
    (try replace HJ := HJ.below hb)
    (try replace HK := HK.below hb)
    (try replace HY := HY.below hb)
    (try replace B1 := zI B1 hb)
    (try replace B2 := zI B2 hb)
    (try replace B3 := zI B3 hb)
    clear hb
    go_wp2
    go_ret2
    exact RwV.is HS.out HB
  · have hc : ¬ 65536 < ct := by omega
    clear hcm
    by_cases hs : sndT (er j) 32 = true
    · have HSN := Lib.hid hs
      have HPL := Lib.hid (show (pr (⟨#[]⟩ : ByteArray).data.toList (nrmT (er j))).length ≤ 1099511627776 by
        have h1 := pr_len (G := []) (by simp) (nrmT (er j)) 32 (nrm_snd _ 32 HLT.out hs)
        have h2 := nrm_sz (er j) HLT.out
        have h3 := HZ.out
        show (pr [] (nrmT (er j))).length ≤ _
        omega)
      obtain ⟨tx, htx⟩ : ∃ tx, tx = plX [] (nrmT (er j)) [] := ⟨_, rfl⟩
      have htl := (told_is (t := nrmT (er j)))
      rw [← htx] at htl
      have HTX : Hid (plX (⟨#[]⟩ : ByteArray).data.toList (nrmT (er j)) [] = tx) := Lib.hid htx.symm
      clear htx
      by_cases h65 : 65536 < (pr [] (nrmT (er j))).length
      · have HS := Lib.hid (show wrtS (er j) = (2, []) by unfold wrtS; rw [if_neg hn, if_pos hs, if_pos h65])
        have htz : (65536 : Int) < tx.length := by have := htl.1.2 h65; omega
        clear htl hn hs h65
        go_enter Tryz.func11, Tryz.ntmps11
        go_wp2_with (first
          | (refine wpl_box_at rfl 25 (.tmp 0) rfl _ rfl ?_; intro w11 hw; have hb := hid_grow hw; have B1 := (hid_alloc hw).1; replace HB := zT HB hb; (try replace HJ := HJ.below hb); (try replace HK := HK.below hb); (try replace HY := HY.below hb); (try replace B2 := zI B2 hb); (try replace B3 := zI B3 hb); clear hb hw)
          | ((with_reducible refine is_load ?_); refine wpl_load_box rfl 25 (.tmp 1) rfl _ rfl _ _ _ B1 Tryz.underlying25 rfl info_value ?_))
        refine (rcount3_any HJ).mono ?_
        rintro e w3 ⟨rfl, hb⟩
        rw [HCT.out]
        replace HB := zT HB hb
        (try replace HJ := HJ.below hb)
        (try replace HK := HK.below hb)
        (try replace HY := HY.below hb)
        (try replace B1 := zI B1 hb)
        (try replace B2 := zI B2 hb)
        (try replace B3 := zI B3 hb)
        clear hb
        go_wp2_with (first
          | ((with_reducible refine is_load ?_); refine wpl_load_box rfl 25 (.tmp 1) rfl _ rfl _ _ _ B1 Tryz.underlying25 rfl info_value ?_))
        refine (told_any HJ HZ.out).mono ?_
        rintro e w4 ⟨rfl, hb⟩
        rw [HSN.out]
        replace HB := zT HB hb
        (try replace HJ := HJ.below hb)
        (try replace HK := HK.below hb)
        (try replace HY := HY.below hb)
        (try replace B1 := zI B1 hb)
        (try replace B2 := zI B2 hb)
        (try replace B3 := zI B3 hb)
        clear hb
        go_wp2_with (first
          | ((with_reducible refine is_load ?_); refine wpl_load_box rfl 25 (.tmp 1) rfl _ rfl _ _ _ B1 Tryz.underlying25 rfl info_value ?_))
        refine (normed_any HJ HZ.out ⟨_, HSN.out⟩).mono ?_
        rintro e w5 ⟨y, rfl, HY, hey, _, hb⟩
        have HEY := Lib.hid hey
        clear hey
        replace HB := zT HB hb
        (try replace HJ := HJ.below hb)
        (try replace HK := HK.below hb)
        (try replace B1 := zI B1 hb)
        (try replace B2 := zI B2 hb)
        (try replace B3 := zI B3 hb)
        clear hb
        go_wp2_with fail
        refine (rplain_any (g := ⟨#[]⟩) HY (by rw [HEY.out]; have := HPL.out; unfold plTop; first | exact this | omega)).mono ?_
        rintro e w6 ⟨v, rfl, HV, hb⟩
        rw [HEY.out] at HV
        have HV2 : OwnB w6 w5.heap.size v tx := HTX.out ▸ HV
        clear HV
        replace HB := zT HB hb
        (try replace HJ := HJ.below hb)
        (try replace HK := HK.below hb)
        (try replace HY := HY.below hb)
        (try replace B1 := zI B1 hb)
        (try replace B2 := zI B2 hb)
        (try replace B3 := zI B3 hb)
        clear hb
        obtain ⟨vA, vc, rfl⟩ := ownB_slice HV2
        have HVL := Lib.hid HV2
        clear HV2
        go_wp2
        go_ret2
        exact RwV.is HS.out HB
      · have HS := Lib.hid (show wrtS (er j) = (0, tx) by unfold wrtS; rw [if_neg hn, if_pos hs, if_neg h65, htl.2 h65])
        have htz : ¬ (65536 : Int) < tx.length := by intro h; exact h65 (htl.1.1 (by omega))
        clear htl hn hs h65
        go_enter Tryz.func11, Tryz.ntmps11
        go_wp2_with (first
          | (refine wpl_box_at rfl 25 (.tmp 0) rfl _ rfl ?_; intro w11 hw; have hb := hid_grow hw; have B1 := (hid_alloc hw).1; replace HB := zT HB hb; (try replace HJ := HJ.below hb); (try replace HK := HK.below hb); (try replace HY := HY.below hb); (try replace B2 := zI B2 hb); (try replace B3 := zI B3 hb); clear hb hw)
          | ((with_reducible refine is_load ?_); refine wpl_load_box rfl 25 (.tmp 1) rfl _ rfl _ _ _ B1 Tryz.underlying25 rfl info_value ?_))
        refine (rcount3_any HJ).mono ?_
        rintro e w3 ⟨rfl, hb⟩
        rw [HCT.out]
        replace HB := zT HB hb
        (try replace HJ := HJ.below hb)
        (try replace HK := HK.below hb)
        (try replace HY := HY.below hb)
        (try replace B1 := zI B1 hb)
        (try replace B2 := zI B2 hb)
        (try replace B3 := zI B3 hb)
        clear hb
        go_wp2_with (first
          | ((with_reducible refine is_load ?_); refine wpl_load_box rfl 25 (.tmp 1) rfl _ rfl _ _ _ B1 Tryz.underlying25 rfl info_value ?_))
        refine (told_any HJ HZ.out).mono ?_
        rintro e w4 ⟨rfl, hb⟩
        rw [HSN.out]
        replace HB := zT HB hb
        (try replace HJ := HJ.below hb)
        (try replace HK := HK.below hb)
        (try replace HY := HY.below hb)
        (try replace B1 := zI B1 hb)
        (try replace B2 := zI B2 hb)
        (try replace B3 := zI B3 hb)
        clear hb
        go_wp2_with (first
          | ((with_reducible refine is_load ?_); refine wpl_load_box rfl 25 (.tmp 1) rfl _ rfl _ _ _ B1 Tryz.underlying25 rfl info_value ?_))
        refine (normed_any HJ HZ.out ⟨_, HSN.out⟩).mono ?_
        rintro e w5 ⟨y, rfl, HY, hey, _, hb⟩
        have HEY := Lib.hid hey
        clear hey
        replace HB := zT HB hb
        (try replace HJ := HJ.below hb)
        (try replace HK := HK.below hb)
        (try replace B1 := zI B1 hb)
        (try replace B2 := zI B2 hb)
        (try replace B3 := zI B3 hb)
        clear hb
        go_wp2_with fail
        refine (rplain_any (g := ⟨#[]⟩) HY (by rw [HEY.out]; have := HPL.out; unfold plTop; first | exact this | omega)).mono ?_
        rintro e w6 ⟨v, rfl, HV, hb⟩
        rw [HEY.out] at HV
        have HV2 : OwnB w6 w5.heap.size v tx := HTX.out ▸ HV
        clear HV
        replace HB := zT HB hb
        (try replace HJ := HJ.below hb)
        (try replace HK := HK.below hb)
        (try replace HY := HY.below hb)
        (try replace B1 := zI B1 hb)
        (try replace B2 := zI B2 hb)
        (try replace B3 := zI B3 hb)
        clear hb
        obtain ⟨vA, vc, rfl⟩ := ownB_slice HV2
        have HVL := Lib.hid HV2
        clear HV2
        go_wp2_with (first
          | (refine wpl_own_text rfl (.tmp 19) 46 9 rfl Tryz.underlying46 Tryz.underlying9 _ _ _ rfl HVL.out ?_))
        go_ret2
        exact RwV.is HS.out HB
    · have HSN := Lib.hid (to_false hs)
      have HS := Lib.hid (show wrtS (er j) = (8, []) by unfold wrtS; rw [if_neg hn, if_neg hs])
      clear hn hs
      go_enter Tryz.func11, Tryz.ntmps11
      go_wp2_with (first
        | (refine wpl_box_at rfl 25 (.tmp 0) rfl _ rfl ?_; intro w11 hw; have hb := hid_grow hw; have B1 := (hid_alloc hw).1; replace HB := zT HB hb; (try replace HJ := HJ.below hb); (try replace HK := HK.below hb); (try replace HY := HY.below hb); (try replace B2 := zI B2 hb); (try replace B3 := zI B3 hb); clear hb hw)
        | ((with_reducible refine is_load ?_); refine wpl_load_box rfl 25 (.tmp 1) rfl _ rfl _ _ _ B1 Tryz.underlying25 rfl info_value ?_))
      refine (rcount3_any HJ).mono ?_
      rintro e w3 ⟨rfl, hb⟩
      rw [HCT.out]
      replace HB := zT HB hb
      (try replace HJ := HJ.below hb)
      (try replace HK := HK.below hb)
      (try replace HY := HY.below hb)
      (try replace B1 := zI B1 hb)
      (try replace B2 := zI B2 hb)
      (try replace B3 := zI B3 hb)
      clear hb
      go_wp2_with (first
        | ((with_reducible refine is_load ?_); refine wpl_load_box rfl 25 (.tmp 1) rfl _ rfl _ _ _ B1 Tryz.underlying25 rfl info_value ?_))
      refine (told_any HJ HZ.out).mono ?_
      rintro e w4 ⟨rfl, hb⟩
      rw [HSN.out]
      replace HB := zT HB hb
      (try replace HJ := HJ.below hb)
      (try replace HK := HK.below hb)
      (try replace HY := HY.below hb)
      (try replace B1 := zI B1 hb)
      (try replace B2 := zI B2 hb)
      (try replace B3 := zI B3 hb)
      clear hb
      go_wp2
      go_ret2
      exact RwV.is HS.out HB
theorem results_rn {fn : Func} (h : fn.results = #[.cell 2 25, .tmp 3]) (tmps : Array Value) (w : World) (g : Nat) (cs : Array Value) (ev : Value) (hp : tmps.getD 2 undef = .pointer (some ⟨g, 0, none⟩)) (hq : tmps.getD 3 undef = ev) (hg : IBox w g 25 cs) (hi : (Tryz.prog.info? 25).map (·.size) = some cs.size) :
    (results fn tmps).run Tryz.prog w = .ok (.tuple #[.agg cs, ev]) w := by
  rw [← hq]
  exact results_box_tmp h tmps w g 25 cs _ hp hg Tryz.underlying25 rfl hi
set_option maxRecDepth 100000 in
set_option maxHeartbeats 8000000 in
theorem rnorm_any {j : JV} {w : World} (HJ : IsJV w j) (hz : SzT (er j) ≤ 1048576) : Calls Tryz.prog 35 #[.agg j.cells] w (RnV j w) := by
  have HZ := Lib.hid hz
  have HB := Below.refl w.heap.size w
  clear hz
  rcases wrt_ways (er j) with ⟨l, hs⟩ | ⟨c, hs, hc⟩
  · have HS := Lib.hid hs
    have HSN := Lib.hid (wrt_yes hs).1
    clear hs
    go_enter Tryz.func35, Tryz.ntmps35
    go_wp2_with (first
      | (refine wpl_box_at rfl 25 (.tmp 0) rfl _ rfl ?_; intro w11 hw; have hb := hid_grow hw; have B1 := (hid_alloc hw).1; replace HB := zT HB hb; (try replace HJ := HJ.below hb); (try replace HK := HK.below hb); (try replace HY := HY.below hb); (try replace B2 := zI B2 hb); (try replace B3 := zI B3 hb); clear hb hw)
      | ((with_reducible refine is_alloc ?_); refine wpl_alloc_at (o := ⟨some 2, _, _, _, _, _⟩) rfl 25 rfl _ zeroV ?_; intro w2 hw; have hb := hid_grow hw; have B2 := hid_alloc0 hw; have L01 := IBox.lt B1; replace HB := zT HB hb; (try replace HJ := HJ.below hb); (try replace HK := HK.below hb); (try replace HY := HY.below hb); (try replace B1 := zI B1 hb); (try replace B3 := zI B3 hb); clear hb hw; have L12 := IBox.lt B2)
      | ((with_reducible refine is_load ?_); refine wpl_load_box rfl 25 (.tmp 1) rfl _ rfl _ _ _ B1 Tryz.underlying25 rfl info_value ?_))
    refine (rwrite_any HJ HZ.out).mono ?_
    intro e w4 hnm
    obtain ⟨he, hb⟩ := RwV.get HS.out hnm
    subst he
    clear hnm
    replace HB := zT HB hb
    (try replace HJ := HJ.below hb)
    (try replace HK := HK.below hb)
    (try replace HY := HY.below hb)
    (try replace B1 := zI B1 hb)
    (try replace B2 := zI B2 hb)
    (try replace B3 := zI B3 hb)
    clear hb
    go_wp2_with (first
      | ((with_reducible refine is_load ?_); refine wpl_load_box rfl 25 (.tmp 1) rfl _ rfl _ _ _ B1 Tryz.underlying25 rfl info_value ?_))
    refine (normed_any HJ HZ.out ⟨_, HSN.out⟩).mono ?_
    rintro e w5 ⟨y, rfl, HY, hey, hoy, hb⟩
    have L15 := IBox.lt B2
    have HOY := Lib.hid (Off.mono (fun q h => Nat.lt_of_lt_of_le h HB.size) hoy)
    have HOZ : Hid (Off (fun q => q = w11.heap.size) y) := Lib.hid (Off.mono (fun q e => by have e2 : q = w11.heap.size := e; show q < _; omega) hoy)
    clear hoy
    have HEY := Lib.hid hey
    clear hey
    replace HB := zT HB hb
    (try replace HJ := HJ.below hb)
    (try replace HK := HK.below hb)
    (try replace B1 := zI B1 hb)
    (try replace B2 := zI B2 hb)
    (try replace B3 := zI B3 hb)
    clear hb
    go_wp2_with (first
      | ((with_reducible refine is_store ?_); refine wpl_store_at rfl 25 (.tmp 2) (.tmp 16) rfl _ y.cells rfl rfl _ _ B2 info_value rfl (jv_one _) ?_; intro w9 hw; have hq := hid_row_below hw (show w.heap.size ≤ w11.heap.size by omega) HB; replace HB := hq.1; replace HY := IsJV.bes (Bes.row (X := fun q => q = w11.heap.size) hw rfl) HY HOZ.out; replace B2 := hid_row hw B2; clear hq hw))
    exact bodyPost_ret (results_rn rfl _ _ w11.heap.size y.cells (.int .i64 0) rfl rfl B2 info_value) rfl (RnV.ok HS.out HB HY HEY.out HOY.out)
  · have HS := Lib.hid hs
    clear hs
    have hcb : (c == 0) = false := by simpa using hc
    go_enter Tryz.func35, Tryz.ntmps35
    go_wp2_with (first
      | (refine wpl_box_at rfl 25 (.tmp 0) rfl _ rfl ?_; intro w11 hw; have hb := hid_grow hw; have B1 := (hid_alloc hw).1; replace HB := zT HB hb; (try replace HJ := HJ.below hb); (try replace HK := HK.below hb); (try replace HY := HY.below hb); (try replace B2 := zI B2 hb); (try replace B3 := zI B3 hb); clear hb hw)
      | ((with_reducible refine is_alloc ?_); refine wpl_alloc_at (o := ⟨some 2, _, _, _, _, _⟩) rfl 25 rfl _ zeroV ?_; intro w2 hw; have hb := hid_grow hw; have B2 := hid_alloc0 hw; have L01 := IBox.lt B1; replace HB := zT HB hb; (try replace HJ := HJ.below hb); (try replace HK := HK.below hb); (try replace HY := HY.below hb); (try replace B1 := zI B1 hb); (try replace B3 := zI B3 hb); clear hb hw; have L12 := IBox.lt B2)
      | ((with_reducible refine is_load ?_); refine wpl_load_box rfl 25 (.tmp 1) rfl _ rfl _ _ _ B1 Tryz.underlying25 rfl info_value ?_))
    refine (rwrite_any HJ HZ.out).mono ?_
    intro e w4 hnm
    obtain ⟨he, hb⟩ := RwV.get HS.out hnm
    subst he
    clear hnm
    replace HB := zT HB hb
    (try replace HJ := HJ.below hb)
    (try replace HK := HK.below hb)
    (try replace HY := HY.below hb)
    (try replace B1 := zI B1 hb)
    (try replace B2 := zI B2 hb)
    (try replace B3 := zI B3 hb)
    clear hb
    go_wp2_with (first
      | ((with_reducible refine is_build ?_); refine wpl_build_at zero_build rfl _ rfl rfl ?_)
      | ((with_reducible refine is_store ?_); refine wpl_store_at rfl 25 (.tmp 2) (.tmp 13) rfl _ JV.zero.cells rfl rfl _ _ B2 info_value rfl (jv_one _) ?_; intro w9 hw; have hq := hid_row_below hw (show w.heap.size ≤ w11.heap.size by omega) HB; replace HB := hq.1; replace B2 := hid_row hw B2; clear hq hw))
    exact bodyPost_ret (results_rn rfl _ _ w11.heap.size JV.zero.cells (.int .i64 c) rfl rfl B2 info_value) rfl (RnV.bad HS.out hc HB)
set_option maxRecDepth 100000 in
set_option maxHeartbeats 8000000 in
theorem rsame_any {j k : JV} {w : World} (HJ : IsJV w j) (HK : IsJV w k) (hz : SzT (er j) ≤ 1048576) (hz2 : SzT (er k) ≤ 1048576) : Calls Tryz.prog 19 #[.agg j.cells, .agg k.cells] w fun e w' => e = .returned (.bool (samS (er j) (er k))) ∧ Below w.heap.size w w' := by
  have HZ := Lib.hid hz
  have HB := Below.refl w.heap.size w
  clear hz
  have HZ2 := Lib.hid hz2
  clear hz2
  obtain ⟨⟨c, l⟩, hs⟩ : ∃ p, wrtS (er j) = p := ⟨_, rfl⟩
  obtain ⟨⟨d, m⟩, hs2⟩ : ∃ p, wrtS (er k) = p := ⟨_, rfl⟩
  have HF := Lib.hid (show ((c == 0 && d == 0) && (l == m)) = samS (er j) (er k) by unfold samS; rw [hs, hs2])
  have HS := Lib.hid hs
  have HS2 := Lib.hid hs2
  clear hs hs2
  cases hc : (c == 0)
  · go_enter Tryz.func19, Tryz.ntmps19
    go_wp2_with (first
      | (refine wpl_box_at rfl 25 (.tmp 0) rfl _ rfl ?_; intro w12 hw; have hb := hid_grow hw; have B2 := (hid_alloc hw).1; replace HB := zT HB hb; (try replace HJ := HJ.below hb); (try replace HK := HK.below hb); (try replace HY := HY.below hb); (try replace B1 := zI B1 hb); (try replace B3 := zI B3 hb); clear hb hw)
      | (refine wpl_box_at rfl 25 (.tmp 1) rfl _ rfl ?_; intro w13 hw; have hb := hid_grow hw; have B3 := (hid_alloc hw).1; replace HB := zT HB hb; (try replace HJ := HJ.below hb); (try replace HK := HK.below hb); (try replace HY := HY.below hb); (try replace B1 := zI B1 hb); (try replace B2 := zI B2 hb); clear hb hw)
      | ((with_reducible refine is_load ?_); refine wpl_load_box rfl 25 (.tmp 2) rfl _ rfl _ _ _ B2 Tryz.underlying25 rfl info_value ?_))
    refine (rwrite_any HJ HZ.out).mono ?_
    intro e w4 hnm
    obtain ⟨he, hb⟩ := RwV.get HS.out hnm
    subst he
    clear hnm
    replace HB := zT HB hb
    (try replace HJ := HJ.below hb)
    (try replace HK := HK.below hb)
    (try replace HY := HY.below hb)
    (try replace B1 := zI B1 hb)
    (try replace B2 := zI B2 hb)
    (try replace B3 := zI B3 hb)
    clear hb
    go_wp2_with (first
      | ((with_reducible refine is_load ?_); refine wpl_load_box rfl 25 (.tmp 3) rfl _ rfl _ _ _ B3 Tryz.underlying25 rfl info_value ?_))
    refine (rwrite_any HK HZ2.out).mono ?_
    intro e w4 hnm
    obtain ⟨he, hb⟩ := RwV.get HS2.out hnm
    subst he
    clear hnm
    replace HB := zT HB hb
    (try replace HJ := HJ.below hb)
    (try replace HK := HK.below hb)
    (try replace HY := HY.below hb)
    (try replace B1 := zI B1 hb)
    (try replace B2 := zI B2 hb)
    (try replace B3 := zI B3 hb)
    clear hb
    go_wp2
    go_ret
    exact ⟨ret_bool (by rw [← HF.out]; first | rfl | simp_all), HB⟩
  · cases hd : (d == 0)
    · go_enter Tryz.func19, Tryz.ntmps19
      go_wp2_with (first
        | (refine wpl_box_at rfl 25 (.tmp 0) rfl _ rfl ?_; intro w12 hw; have hb := hid_grow hw; have B2 := (hid_alloc hw).1; replace HB := zT HB hb; (try replace HJ := HJ.below hb); (try replace HK := HK.below hb); (try replace HY := HY.below hb); (try replace B1 := zI B1 hb); (try replace B3 := zI B3 hb); clear hb hw)
        | (refine wpl_box_at rfl 25 (.tmp 1) rfl _ rfl ?_; intro w13 hw; have hb := hid_grow hw; have B3 := (hid_alloc hw).1; replace HB := zT HB hb; (try replace HJ := HJ.below hb); (try replace HK := HK.below hb); (try replace HY := HY.below hb); (try replace B1 := zI B1 hb); (try replace B2 := zI B2 hb); clear hb hw)
        | ((with_reducible refine is_load ?_); refine wpl_load_box rfl 25 (.tmp 2) rfl _ rfl _ _ _ B2 Tryz.underlying25 rfl info_value ?_))
      refine (rwrite_any HJ HZ.out).mono ?_
      intro e w4 hnm
      obtain ⟨he, hb⟩ := RwV.get HS.out hnm
      subst he
      clear hnm
      replace HB := zT HB hb
      (try replace HJ := HJ.below hb)
      (try replace HK := HK.below hb)
      (try replace HY := HY.below hb)
      (try replace B1 := zI B1 hb)
      (try replace B2 := zI B2 hb)
      (try replace B3 := zI B3 hb)
      clear hb
      go_wp2_with (first
        | ((with_reducible refine is_load ?_); refine wpl_load_box rfl 25 (.tmp 3) rfl _ rfl _ _ _ B3 Tryz.underlying25 rfl info_value ?_))
      refine (rwrite_any HK HZ2.out).mono ?_
      intro e w4 hnm
      obtain ⟨he, hb⟩ := RwV.get HS2.out hnm
      subst he
      clear hnm
      replace HB := zT HB hb
      (try replace HJ := HJ.below hb)
      (try replace HK := HK.below hb)
      (try replace HY := HY.below hb)
      (try replace B1 := zI B1 hb)
      (try replace B2 := zI B2 hb)
      (try replace B3 := zI B3 hb)
      clear hb
      go_wp2
      go_ret
      exact ⟨ret_bool (by rw [← HF.out]; first | rfl | simp_all), HB⟩
    · go_enter Tryz.func19, Tryz.ntmps19
      go_wp2_with (first
        | (refine wpl_box_at rfl 25 (.tmp 0) rfl _ rfl ?_; intro w12 hw; have hb := hid_grow hw; have B2 := (hid_alloc hw).1; replace HB := zT HB hb; (try replace HJ := HJ.below hb); (try replace HK := HK.below hb); (try replace HY := HY.below hb); (try replace B1 := zI B1 hb); (try replace B3 := zI B3 hb); clear hb hw)
        | (refine wpl_box_at rfl 25 (.tmp 1) rfl _ rfl ?_; intro w13 hw; have hb := hid_grow hw; have B3 := (hid_alloc hw).1; replace HB := zT HB hb; (try replace HJ := HJ.below hb); (try replace HK := HK.below hb); (try replace HY := HY.below hb); (try replace B1 := zI B1 hb); (try replace B2 := zI B2 hb); clear hb hw)
        | ((with_reducible refine is_load ?_); refine wpl_load_box rfl 25 (.tmp 2) rfl _ rfl _ _ _ B2 Tryz.underlying25 rfl info_value ?_))
      refine (rwrite_any HJ HZ.out).mono ?_
      intro e w4 hnm
      obtain ⟨he, hb⟩ := RwV.get HS.out hnm
      subst he
      clear hnm
      replace HB := zT HB hb
      (try replace HJ := HJ.below hb)
      (try replace HK := HK.below hb)
      (try replace HY := HY.below hb)
      (try replace B1 := zI B1 hb)
      (try replace B2 := zI B2 hb)
      (try replace B3 := zI B3 hb)
      clear hb
      go_wp2_with (first
        | ((with_reducible refine is_load ?_); refine wpl_load_box rfl 25 (.tmp 3) rfl _ rfl _ _ _ B3 Tryz.underlying25 rfl info_value ?_))
      refine (rwrite_any HK HZ2.out).mono ?_
      intro e w4 hnm
      obtain ⟨he, hb⟩ := RwV.get HS2.out hnm
      subst he
      clear hnm
      replace HB := zT HB hb
      (try replace HJ := HJ.below hb)
      (try replace HK := HK.below hb)
      (try replace HY := HY.below hb)
      (try replace B1 := zI B1 hb)
      (try replace B2 := zI B2 hb)
      (try replace B3 := zI B3 hb)
      clear hb
      go_wp2
      go_ret
      exact ⟨ret_bool (by rw [← HF.out]; first | rfl | simp_all), HB⟩
end Go.Proofs.YtnjhmnolngdfaaaGreatDoor
namespace Go.Proofs.YtnjhmnolngdfaaaGreatDoor
open Go.RowKit Go.PlainAid
set_option linter.unusedVariables false
set_option linter.unusedSimpArgs false
theorem samS_comm (a b : JT) : samS a b = samS b a := by
  unfold samS
  rw [Bool.and_comm ((wrtS a).1 == 0), Bool.beq_comm (a := (wrtS a).2)]
set_option maxRecDepth 100000 in
set_option maxHeartbeats 8000000 in
theorem writes_any {j : JV} {w : World} (HJ : IsJV w j) (hz : SzT (er j) ≤ 1048576) (hW : Wc w) : Calls Tryz.prog 3 #[.agg j.cells] w fun e w' => e = .returned (.bool true) ∧ Below w.heap.size w w' := by
  have HZ := Lib.hid hz
  have HW := Lib.hid hW
  have HB := Below.refl w.heap.size w
  clear hz hW
  rcases wrt_ways (er j) with ⟨l, hs⟩ | ⟨c, hs, hc⟩
  · have HS := Lib.hid hs
    clear hs
    go_enter Tryz.func3, Tryz.ntmps3
    go_wp2_with (first
      | (refine wpl_box_at rfl 25 (.tmp 0) rfl _ rfl ?_; intro w11 hw; have hb := hid_grow hw; have B1 := (hid_alloc hw).1; replace HB := zT HB hb; (try replace HJ := HJ.below hb); (try replace HK := HK.below hb); (try replace HY := HY.below hb); (try replace B2 := zI B2 hb); (try replace B3 := zI B3 hb); clear hb hw))
    refine (shown_any (Wc.below HB HW.out)).mono ?_
    rintro e w2 ⟨rfl, hb⟩
    replace HB := zT HB hb
    (try replace HJ := HJ.below hb)
    (try replace HK := HK.below hb)
    (try replace HY := HY.below hb)
    (try replace B1 := zI B1 hb)
    (try replace B2 := zI B2 hb)
    (try replace B3 := zI B3 hb)
    clear hb
    go_wp2_with (first
      | ((with_reducible refine is_load ?_); refine wpl_load_box rfl 25 (.tmp 1) rfl _ rfl _ _ _ B1 Tryz.underlying25 rfl info_value ?_))
    refine (cwrite_any HJ HZ.out (Wc.below HB HW.out)).mono ?_
    intro e w3 hnm
    obtain ⟨he, hb⟩ := WrV.yes HS.out hnm
    subst he
    clear hnm
    replace HB := zT HB hb
    (try replace HJ := HJ.below hb)
    (try replace HK := HK.below hb)
    (try replace HY := HY.below hb)
    (try replace B1 := zI B1 hb)
    (try replace B2 := zI B2 hb)
    (try replace B3 := zI B3 hb)
    clear hb
    go_wp2_with (first
      | ((with_reducible refine is_load ?_); refine wpl_load_box rfl 25 (.tmp 1) rfl _ rfl _ _ _ B1 Tryz.underlying25 rfl info_value ?_))
    refine (rwrite_any HJ HZ.out).mono ?_
    intro e w4 hnm
    obtain ⟨he, hb⟩ := RwV.get HS.out hnm
    subst he
    clear hnm
    replace HB := zT HB hb
    (try replace HJ := HJ.below hb)
    (try replace HK := HK.below hb)
    (try replace HY := HY.below hb)
    (try replace B1 := zI B1 hb)
    (try replace B2 := zI B2 hb)
    (try replace B3 := zI B3 hb)
    clear hb
    go_wp2_with fail
    refine (code_nil _).mono ?_
    rintro e w5 ⟨rfl, rfl⟩
    go_wp2
    go_ret
    exact ⟨rfl, HB⟩
  · have HC := Lib.hid (show c = 0 ∨ c = 2 ∨ c = 8 by have := wrt_codes (er j); rwa [hs] at this)
    have HS := Lib.hid hs
    clear hs
    go_enter Tryz.func3, Tryz.ntmps3
    go_wp2_with (first
      | (refine wpl_box_at rfl 25 (.tmp 0) rfl _ rfl ?_; intro w11 hw; have hb := hid_grow hw; have B1 := (hid_alloc hw).1; replace HB := zT HB hb; (try replace HJ := HJ.below hb); (try replace HK := HK.below hb); (try replace HY := HY.below hb); (try replace B2 := zI B2 hb); (try replace B3 := zI B3 hb); clear hb hw))
    refine (shown_any (Wc.below HB HW.out)).mono ?_
    rintro e w2 ⟨rfl, hb⟩
    replace HB := zT HB hb
    (try replace HJ := HJ.below hb)
    (try replace HK := HK.below hb)
    (try replace HY := HY.below hb)
    (try replace B1 := zI B1 hb)
    (try replace B2 := zI B2 hb)
    (try replace B3 := zI B3 hb)
    clear hb
    go_wp2_with (first
      | ((with_reducible refine is_load ?_); refine wpl_load_box rfl 25 (.tmp 1) rfl _ rfl _ _ _ B1 Tryz.underlying25 rfl info_value ?_))
    refine (cwrite_any HJ HZ.out (Wc.below HB HW.out)).mono ?_
    intro e w3 hnm
    obtain ⟨he, hb⟩ := WrV.not HS.out hc hnm
    subst he
    clear hnm
    replace HB := zT HB hb
    (try replace HJ := HJ.below hb)
    (try replace HK := HK.below hb)
    (try replace HY := HY.below hb)
    (try replace B1 := zI B1 hb)
    (try replace B2 := zI B2 hb)
    (try replace B3 := zI B3 hb)
    clear hb
    go_wp2_with (first
      | ((with_reducible refine is_load ?_); refine wpl_load_box rfl 25 (.tmp 1) rfl _ rfl _ _ _ B1 Tryz.underlying25 rfl info_value ?_))
    refine (rwrite_any HJ HZ.out).mono ?_
    intro e w4 hnm
    obtain ⟨he, hb⟩ := RwV.get HS.out hnm
    subst he
    clear hnm
    replace HB := zT HB hb
    (try replace HJ := HJ.below hb)
    (try replace HK := HK.below hb)
    (try replace HY := HY.below hb)
    (try replace B1 := zI B1 hb)
    (try replace B2 := zI B2 hb)
    (try replace B3 := zI B3 hb)
    clear hb
    go_wp2_with fail
    refine (one_code HC.out hc _).mono ?_
    rintro e w5 ⟨rfl, rfl⟩
    go_wp2
    go_ret
    exact ⟨rfl, HB⟩
set_option maxRecDepth 100000 in
set_option maxHeartbeats 8000000 in
theorem sames_any {j k : JV} {w : World} (HJ : IsJV w j) (HK : IsJV w k) (hz : SzT (er j) ≤ 1048576) (hz2 : SzT (er k) ≤ 1048576) (hW : Wc w) : Calls Tryz.prog 6 #[.agg j.cells, .agg k.cells] w fun e w' => e = .returned (.bool true) ∧ Below w.heap.size w w' := by
  have HZ := Lib.hid hz
  have HW := Lib.hid hW
  have HB := Below.refl w.heap.size w
  clear hz hW
  have HZ2 := Lib.hid hz2
  have HC := Lib.hid (samS_comm (er k) (er j))
  clear hz2
  obtain ⟨sb, hsb⟩ : ∃ b, b = samS (er j) (er k) := ⟨_, rfl⟩
  have HSB := Lib.hid hsb.symm
  clear hsb
  go_enter Tryz.func6, Tryz.ntmps6
  go_wp2_with (first
    | (refine wpl_box_at rfl 25 (.tmp 0) rfl _ rfl ?_; intro w12 hw; have hb := hid_grow hw; have B2 := (hid_alloc hw).1; replace HB := zT HB hb; (try replace HJ := HJ.below hb); (try replace HK := HK.below hb); (try replace HY := HY.below hb); (try replace B1 := zI B1 hb); (try replace B3 := zI B3 hb); clear hb hw)
    | (refine wpl_box_at rfl 25 (.tmp 1) rfl _ rfl ?_; intro w13 hw; have hb := hid_grow hw; have B3 := (hid_alloc hw).1; replace HB := zT HB hb; (try replace HJ := HJ.below hb); (try replace HK := HK.below hb); (try replace HY := HY.below hb); (try replace B1 := zI B1 hb); (try replace B2 := zI B2 hb); clear hb hw))
  refine (shown_any (Wc.below HB HW.out)).mono ?_
  rintro e w2 ⟨rfl, hb⟩
  replace HB := zT HB hb
  (try replace HJ := HJ.below hb)
  (try replace HK := HK.below hb)
  (try replace HY := HY.below hb)
  (try replace B1 := zI B1 hb)
  (try replace B2 := zI B2 hb)
  (try replace B3 := zI B3 hb)
  clear hb
  go_wp2_with (first
    | ((with_reducible refine is_load ?_); refine wpl_load_box rfl 25 (.tmp 2) rfl _ rfl _ _ _ B2 Tryz.underlying25 rfl info_value ?_)
    | ((with_reducible refine is_load ?_); refine wpl_load_box rfl 25 (.tmp 3) rfl _ rfl _ _ _ B3 Tryz.underlying25 rfl info_value ?_))
  refine (csame_any HJ HK HZ.out HZ2.out (Wc.below HB HW.out)).mono ?_
  rintro e w3 ⟨rfl, hb⟩
  rw [HSB.out]
  replace HB := zT HB hb
  (try replace HJ := HJ.below hb)
  (try replace HK := HK.below hb)
  (try replace HY := HY.below hb)
  (try replace B1 := zI B1 hb)
  (try replace B2 := zI B2 hb)
  (try replace B3 := zI B3 hb)
  clear hb
  go_wp2_with (first
    | ((with_reducible refine is_load ?_); refine wpl_load_box rfl 25 (.tmp 2) rfl _ rfl _ _ _ B2 Tryz.underlying25 rfl info_value ?_)
    | ((with_reducible refine is_load ?_); refine wpl_load_box rfl 25 (.tmp 3) rfl _ rfl _ _ _ B3 Tryz.underlying25 rfl info_value ?_))
  refine (csame_any HK HJ HZ2.out HZ.out (Wc.below HB HW.out)).mono ?_
  rintro e w4 ⟨rfl, hb⟩
  rw [HC.out, HSB.out]
  replace HB := zT HB hb
  (try replace HJ := HJ.below hb)
  (try replace HK := HK.below hb)
  (try replace HY := HY.below hb)
  (try replace B1 := zI B1 hb)
  (try replace B2 := zI B2 hb)
  (try replace B3 := zI B3 hb)
  clear hb
  go_wp2_with (first
    | ((with_reducible refine is_load ?_); refine wpl_load_box rfl 25 (.tmp 2) rfl _ rfl _ _ _ B2 Tryz.underlying25 rfl info_value ?_)
    | ((with_reducible refine is_load ?_); refine wpl_load_box rfl 25 (.tmp 3) rfl _ rfl _ _ _ B3 Tryz.underlying25 rfl info_value ?_))
  refine (rsame_any HJ HK HZ.out HZ2.out).mono ?_
  rintro e w5 ⟨rfl, hb⟩
  rw [HSB.out]
  replace HB := zT HB hb
  (try replace HJ := HJ.below hb)
  (try replace HK := HK.below hb)
  (try replace HY := HY.below hb)
  (try replace B1 := zI B1 hb)
  (try replace B2 := zI B2 hb)
  (try replace B3 := zI B3 hb)
  clear hb
  go_wp2
  go_ret
  exact ⟨rfl, HB⟩
end Go.Proofs.YtnjhmnolngdfaaaGreatDoor
