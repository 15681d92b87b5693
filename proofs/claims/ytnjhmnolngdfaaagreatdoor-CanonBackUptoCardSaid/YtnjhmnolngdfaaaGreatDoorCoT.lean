/- Layer 3: the law CanonBack answers true. -/
import Derived.Test.YtnjhmnolngdfaaaGreatDoorCoD
import Derived.Test.YtnjhmnolngdfaaaGreatDoorCoA
namespace Go.Proofs.YtnjhmnolngdfaaaGreatDoor
section
open Go.RowKit Go.PlainAid
set_option linter.unusedVariables false
set_option linter.unusedSimpArgs false
theorem code_n {c : Int} (h : c = 0 ∨ c = 2 ∨ c = 8) (hc : c ≠ 0) (w : World) : Calls Tryz.prog 12 #[.iface 31 (.int .i64 c)] w fun e w' => e = .returned (.int .i64 c) ∧ w = w' := by
  have := code_e h w
  rwa [errVn hc] at this
/-- What a value that has a text is. -/
theorem wrt_yes {t : JT} {l : List UInt8} (h : wrtS t = (0, l)) : sndT t 32 = true ∧ l = pr [] (nrmT t) ∧ l.length ≤ 65536 := by
  unfold wrtS at h
  split at h
  · exact absurd (congrArg Prod.fst h) (show ¬ ((2 : Int) = 0) by decide)
  · split at h
    · rename_i hs
      split at h
      · exact absurd (congrArg Prod.fst h) (show ¬ ((2 : Int) = 0) by decide)
      · rename_i hl
        have h2 := congrArg Prod.snd h
        simp only at h2
        subst h2
        exact ⟨hs, rfl, by omega⟩
    · exact absurd (congrArg Prod.fst h) (show ¬ ((8 : Int) = 0) by decide)
theorem arr_size (l : List UInt8) : (⟨l.toArray⟩ : ByteArray).size = l.length := by simp [ByteArray.size]
/-- All that the law asks of a value that has a text. -/
theorem back_facts {t : JT} {l : List UInt8} (hl : LenT t) (h : wrtS t = (0, l)) : (∃ k, parseTo ⟨l.toArray⟩ = .ok (nrmT t) k) ∧ wrtS (nrmT t) = (0, l) ∧ nrmT (nrmT t) = nrmT t ∧ SzT (nrmT t) ≤ SzT t ∧ ¬ 65536 < (⟨l.toArray⟩ : ByteArray).size ∧ isS ⟨l.toArray⟩ = true ∧ samS t (nrmT t) = true := by
  obtain ⟨hs, hl2, hlen⟩ := wrt_yes h
  have h1 := wrt_nrm hl hs
  rw [h] at h1
  obtain ⟨k, hk⟩ := parse_nrm (s := ⟨l.toArray⟩) hs hl (by simpa using hl2)
  have hz : ¬ 65536 < (⟨l.toArray⟩ : ByteArray).size := by rw [arr_size]; omega
  refine ⟨⟨k, hk⟩, h1, nrm_nrm t 32 hl hs, nrm_sz t hl, hz, ?_, ?_⟩
  · unfold isS
    rw [if_neg hz, hk]
    simp only [h1]
    simp
  · unfold samS
    rw [h, h1]
    simp
set_option maxRecDepth 100000 in
set_option maxHeartbeats 8000000 in
theorem back_any {j : JV} {w : World} (HJ : IsJV w j) (hz : SzT (er j) ≤ 1048576) (hW : Wc w) : Calls Tryz.prog 7 #[.agg j.cells] w fun e w' => e = .returned (.bool true) ∧ Below w.heap.size w w' := by
  have HZ := Lib.hid hz
  have HW := Lib.hid hW
  have HB := Below.refl w.heap.size w
  have HLN := Lib.hid (er_len HJ)
  clear hz hW
  rcases wrt_ways (er j) with ⟨l, hs⟩ | ⟨c, hs, hc⟩
  · have HS := Lib.hid hs
    obtain ⟨⟨k, hk⟩, f1, f2, f3, f4, f5, f6⟩ := back_facts HLN.out hs
    have HP0 := Lib.hid hk
    have F1 := Lib.hid f1
    have F2 := Lib.hid f2
    have F3 := Lib.hid (Nat.le_trans f3 HZ.out)
    have F4 := Lib.hid f4
    have F5 := Lib.hid f5
    have F6 := Lib.hid f6
    clear hs hk f1 f2 f3 f4 f5 f6
    go_enter Tryz.func7, Tryz.ntmps7
    go_wp2_with (first
      | (refine wpl_box_at rfl 25 (.tmp 0) rfl _ rfl ?_; intro w1 hw; have hb := hid_grow hw; have B1 := (hid_alloc hw).1; replace HB := HB.trans (hb.mono HB.size); (try replace HJ := HJ.below hb); (try replace HY := HY.below hb); (try replace HX := HX.below hb); (try replace HM := HM.below hb); (try replace B6 := IBox.below B6 hb (IBox.lt B6)); (try replace B8 := IBox.below B8 hb (IBox.lt B8)); (try replace B12 := IBox.below B12 hb (IBox.lt B12)); clear hb hw))
    refine (shown_any (Wc.below HB HW.out)).mono ?_
    rintro e w2 ⟨rfl, hb⟩
    replace HB := HB.trans (hb.mono HB.size)
    (try replace HJ := HJ.below hb)
    (try replace HY := HY.below hb)
    (try replace HX := HX.below hb)
    (try replace HM := HM.below hb)
    (try replace B1 := IBox.below B1 hb (IBox.lt B1))
    (try replace B6 := IBox.below B6 hb (IBox.lt B6))
    (try replace B8 := IBox.below B8 hb (IBox.lt B8))
    (try replace B12 := IBox.below B12 hb (IBox.lt B12))
    clear hb
    go_wp2_with (first
      | ((with_reducible refine is_load ?_); refine wpl_load_box rfl 25 (.tmp 1) rfl _ rfl _ _ _ B1 Tryz.underlying25 rfl info_value ?_))
    refine (cwrite_any HJ HZ.out (Wc.below HB HW.out)).mono ?_
    intro e w3 hnm
    obtain ⟨he, hb⟩ := WrV.yes HS.out hnm
    subst he
    clear hnm
    replace HB := HB.trans (hb.mono HB.size)
    (try replace HJ := HJ.below hb)
    (try replace HY := HY.below hb)
    (try replace HX := HX.below hb)
    (try replace HM := HM.below hb)
    (try replace B1 := IBox.below B1 hb (IBox.lt B1))
    (try replace B6 := IBox.below B6 hb (IBox.lt B6))
    (try replace B8 := IBox.below B8 hb (IBox.lt B8))
    (try replace B12 := IBox.below B12 hb (IBox.lt B12))
    clear hb
    go_wp2_with (first
      | ((with_reducible refine is_load ?_); refine wpl_load_box rfl 25 (.tmp 1) rfl _ rfl _ _ _ B1 Tryz.underlying25 rfl info_value ?_))
    refine (cnorm_any HJ HZ.out (Wc.below HB HW.out)).mono ?_
    intro e w4 hnm
    obtain ⟨y, he, HY, hey, _, _, hb⟩ := NoV.yes HS.out hnm
    subst he
    clear hnm
    have EY := Lib.hid hey
    clear hey
    have ZY : Hid (SzT (er y) ≤ 1048576) := Lib.hid (by rw [EY.out]; exact F3.out)
    have SY : Hid (wrtS (er y) = (0, l)) := Lib.hid (by rw [EY.out]; exact F1.out)
    replace HB := HB.trans (hb.mono HB.size)
    (try replace HJ := HJ.below hb)
    (try replace HX := HX.below hb)
    (try replace HM := HM.below hb)
    (try replace B1 := IBox.below B1 hb (IBox.lt B1))
    (try replace B6 := IBox.below B6 hb (IBox.lt B6))
    (try replace B8 := IBox.below B8 hb (IBox.lt B8))
    (try replace B12 := IBox.below B12 hb (IBox.lt B12))
    clear hb
    go_wp2_with (first
      | ((with_reducible refine is_alloc ?_); refine wpl_newbox 6 rfl rfl 25 rfl rfl (.tmp 27) rfl _ zeroV y.cells rfl rfl info_value rfl (jv_one _) ?_; intro w5 hw; have hb := hid_grow hw; have B6 := (hid_alloc hw).1; replace HB := HB.trans (hb.mono HB.size); (try replace HJ := HJ.below hb); (try replace HY := HY.below hb); (try replace HX := HX.below hb); (try replace HM := HM.below hb); (try replace B1 := IBox.below B1 hb (IBox.lt B1)); (try replace B8 := IBox.below B8 hb (IBox.lt B8)); (try replace B12 := IBox.below B12 hb (IBox.lt B12)); clear hb hw))
    refine (parse_any (Wc.below HB HW.out).gl (by have := F4.out; unfold reach; omega)).mono ?_
    rintro e w6 ⟨hb, hp⟩
    rw [if_neg F4.out, HP0.out] at hp
    obtain ⟨x, hp, HX, hex, _⟩ := hp
    subst hp
    have EX := Lib.hid hex
    clear hex
    have ZX : Hid (SzT (er x) ≤ 1048576) := Lib.hid (by rw [EX.out]; exact F3.out)
    have SX : Hid (wrtS (er x) = (0, l)) := Lib.hid (by rw [EX.out]; exact F1.out)
    replace HB := HB.trans (hb.mono HB.size)
    (try replace HJ := HJ.below hb)
    (try replace HY := HY.below hb)
    (try replace HM := HM.below hb)
    (try replace B1 := IBox.below B1 hb (IBox.lt B1))
    (try replace B6 := IBox.below B6 hb (IBox.lt B6))
    (try replace B8 := IBox.below B8 hb (IBox.lt B8))
    (try replace B12 := IBox.below B12 hb (IBox.lt B12))
    clear hb
    go_wp2_with (first
      | ((with_reducible refine is_alloc ?_); refine wpl_newbox 8 rfl rfl 25 rfl rfl (.tmp 46) rfl _ zeroV x.cells rfl rfl info_value rfl (jv_one _) ?_; intro w7 hw; have hb := hid_grow hw; have B8 := (hid_alloc hw).1; replace HB := HB.trans (hb.mono HB.size); (try replace HJ := HJ.below hb); (try replace HY := HY.below hb); (try replace HX := HX.below hb); (try replace HM := HM.below hb); (try replace B1 := IBox.below B1 hb (IBox.lt B1)); (try replace B6 := IBox.below B6 hb (IBox.lt B6)); (try replace B12 := IBox.below B12 hb (IBox.lt B12)); clear hb hw)
      | ((with_reducible refine is_load ?_); refine wpl_load_box rfl 25 (.tmp 8) rfl _ rfl _ _ _ B8 Tryz.underlying25 rfl info_value ?_))
    refine (cwrite_any HX ZX.out (Wc.below HB HW.out)).mono ?_
    intro e w8 hnm
    obtain ⟨he, hb⟩ := WrV.yes SX.out hnm
    subst he
    clear hnm
    replace HB := HB.trans (hb.mono HB.size)
    (try replace HJ := HJ.below hb)
    (try replace HY := HY.below hb)
    (try replace HX := HX.below hb)
    (try replace HM := HM.below hb)
    (try replace B1 := IBox.below B1 hb (IBox.lt B1))
    (try replace B6 := IBox.below B6 hb (IBox.lt B6))
    (try replace B8 := IBox.below B8 hb (IBox.lt B8))
    (try replace B12 := IBox.below B12 hb (IBox.lt B12))
    clear hb
    go_wp2_with (first
      | ((with_reducible refine is_load ?_); refine wpl_load_box rfl 25 (.tmp 6) rfl _ rfl _ _ _ B6 Tryz.underlying25 rfl info_value ?_))
    refine (cnorm_any HY ZY.out (Wc.below HB HW.out)).mono ?_
    intro e w9 hnm
    obtain ⟨m, he, HM, hem, _, _, hb⟩ := NoV.yes SY.out hnm
    subst he
    clear hnm
    have EM : Hid (er m = er y) := Lib.hid (by rw [hem, EY.out]; exact F2.out)
    clear hem
    replace HB := HB.trans (hb.mono HB.size)
    (try replace HJ := HJ.below hb)
    (try replace HY := HY.below hb)
    (try replace HX := HX.below hb)
    (try replace B1 := IBox.below B1 hb (IBox.lt B1))
    (try replace B6 := IBox.below B6 hb (IBox.lt B6))
    (try replace B8 := IBox.below B8 hb (IBox.lt B8))
    (try replace B12 := IBox.below B12 hb (IBox.lt B12))
    clear hb
    go_wp2_with (first
      | ((with_reducible refine is_alloc ?_); refine wpl_newbox 12 rfl rfl 25 rfl rfl (.tmp 56) rfl _ zeroV m.cells rfl rfl info_value rfl (jv_one _) ?_; intro w10 hw; have hb := hid_grow hw; have B12 := (hid_alloc hw).1; replace HB := HB.trans (hb.mono HB.size); (try replace HJ := HJ.below hb); (try replace HY := HY.below hb); (try replace HX := HX.below hb); (try replace HM := HM.below hb); (try replace B1 := IBox.below B1 hb (IBox.lt B1)); (try replace B6 := IBox.below B6 hb (IBox.lt B6)); (try replace B8 := IBox.below B8 hb (IBox.lt B8)); clear hb hw)
      | ((with_reducible refine is_load ?_); refine wpl_load_box rfl 25 (.tmp 8) rfl _ rfl _ _ _ B8 Tryz.underlying25 rfl info_value ?_)
      | ((with_reducible refine is_load ?_); refine wpl_load_box rfl 25 (.tmp 6) rfl _ rfl _ _ _ B6 Tryz.underlying25 rfl info_value ?_))
    refine (same_any HX HY (by rw [EX.out, EY.out])).mono ?_
    rintro e w11 ⟨rfl, hb⟩
    replace HB := HB.trans (hb.mono HB.size)
    (try replace HJ := HJ.below hb)
    (try replace HY := HY.below hb)
    (try replace HX := HX.below hb)
    (try replace HM := HM.below hb)
    (try replace B1 := IBox.below B1 hb (IBox.lt B1))
    (try replace B6 := IBox.below B6 hb (IBox.lt B6))
    (try replace B8 := IBox.below B8 hb (IBox.lt B8))
    (try replace B12 := IBox.below B12 hb (IBox.lt B12))
    clear hb
    go_wp2_with (first
      | ((with_reducible refine is_load ?_); refine wpl_load_box rfl 25 (.tmp 12) rfl _ rfl _ _ _ B12 Tryz.underlying25 rfl info_value ?_)
      | ((with_reducible refine is_load ?_); refine wpl_load_box rfl 25 (.tmp 6) rfl _ rfl _ _ _ B6 Tryz.underlying25 rfl info_value ?_))
    refine (same_any HM HY EM.out).mono ?_
    rintro e w12 ⟨rfl, hb⟩
    replace HB := HB.trans (hb.mono HB.size)
    (try replace HJ := HJ.below hb)
    (try replace HY := HY.below hb)
    (try replace HX := HX.below hb)
    (try replace HM := HM.below hb)
    (try replace B1 := IBox.below B1 hb (IBox.lt B1))
    (try replace B6 := IBox.below B6 hb (IBox.lt B6))
    (try replace B8 := IBox.below B8 hb (IBox.lt B8))
    (try replace B12 := IBox.below B12 hb (IBox.lt B12))
    clear hb
    go_wp2_with fail
    refine (cis_any (Wc.below HB HW.out) (by have := F4.out; unfold reach; omega)).mono ?_
    rintro e w13 ⟨rfl, hb⟩
    rw [F5.out]
    replace HB := HB.trans (hb.mono HB.size)
    (try replace HJ := HJ.below hb)
    (try replace HY := HY.below hb)
    (try replace HX := HX.below hb)
    (try replace HM := HM.below hb)
    (try replace B1 := IBox.below B1 hb (IBox.lt B1))
    (try replace B6 := IBox.below B6 hb (IBox.lt B6))
    (try replace B8 := IBox.below B8 hb (IBox.lt B8))
    (try replace B12 := IBox.below B12 hb (IBox.lt B12))
    clear hb
    go_wp2_with (first
      | ((with_reducible refine is_load ?_); refine wpl_load_box rfl 25 (.tmp 1) rfl _ rfl _ _ _ B1 Tryz.underlying25 rfl info_value ?_)
      | ((with_reducible refine is_load ?_); refine wpl_load_box rfl 25 (.tmp 6) rfl _ rfl _ _ _ B6 Tryz.underlying25 rfl info_value ?_))
    refine (csame_any HJ HY HZ.out ZY.out (Wc.below HB HW.out)).mono ?_
    rintro e w14 ⟨rfl, hb⟩
    rw [EY.out, F6.out]
    replace HB := HB.trans (hb.mono HB.size)
    (try replace HJ := HJ.below hb)
    (try replace HY := HY.below hb)
    (try replace HX := HX.below hb)
    (try replace HM := HM.below hb)
    (try replace B1 := IBox.below B1 hb (IBox.lt B1))
    (try replace B6 := IBox.below B6 hb (IBox.lt B6))
    (try replace B8 := IBox.below B8 hb (IBox.lt B8))
    (try replace B12 := IBox.below B12 hb (IBox.lt B12))
    clear hb
    go_wp2
    go_ret
    exact ⟨rfl, HB⟩
  · have HS := Lib.hid hs
    have HC := Lib.hid (show c = 0 ∨ c = 2 ∨ c = 8 by have := wrt_codes (er j); rwa [hs] at this)
    clear hs
    go_enter Tryz.func7, Tryz.ntmps7
    go_wp2_with (first
      | (refine wpl_box_at rfl 25 (.tmp 0) rfl _ rfl ?_; intro w1 hw; have hb := hid_grow hw; have B1 := (hid_alloc hw).1; replace HB := HB.trans (hb.mono HB.size); (try replace HJ := HJ.below hb); (try replace HY := HY.below hb); (try replace HX := HX.below hb); (try replace HM := HM.below hb); (try replace B6 := IBox.below B6 hb (IBox.lt B6)); (try replace B8 := IBox.below B8 hb (IBox.lt B8)); (try replace B12 := IBox.below B12 hb (IBox.lt B12)); clear hb hw))
    refine (shown_any (Wc.below HB HW.out)).mono ?_
    rintro e w2 ⟨rfl, hb⟩
    replace HB := HB.trans (hb.mono HB.size)
    (try replace HJ := HJ.below hb)
    (try replace HY := HY.below hb)
    (try replace HX := HX.below hb)
    (try replace HM := HM.below hb)
    (try replace B1 := IBox.below B1 hb (IBox.lt B1))
    (try replace B6 := IBox.below B6 hb (IBox.lt B6))
    (try replace B8 := IBox.below B8 hb (IBox.lt B8))
    (try replace B12 := IBox.below B12 hb (IBox.lt B12))
    clear hb
    go_wp2_with (first
      | ((with_reducible refine is_load ?_); refine wpl_load_box rfl 25 (.tmp 1) rfl _ rfl _ _ _ B1 Tryz.underlying25 rfl info_value ?_))
    refine (cwrite_any HJ HZ.out (Wc.below HB HW.out)).mono ?_
    intro e w3 hnm
    obtain ⟨he, hb⟩ := WrV.not HS.out hc hnm
    subst he
    clear hnm
    replace HB := HB.trans (hb.mono HB.size)
    (try replace HJ := HJ.below hb)
    (try replace HY := HY.below hb)
    (try replace HX := HX.below hb)
    (try replace HM := HM.below hb)
    (try replace B1 := IBox.below B1 hb (IBox.lt B1))
    (try replace B6 := IBox.below B6 hb (IBox.lt B6))
    (try replace B8 := IBox.below B8 hb (IBox.lt B8))
    (try replace B12 := IBox.below B12 hb (IBox.lt B12))
    clear hb
    go_wp2_with (first
      | ((with_reducible refine is_load ?_); refine wpl_load_box rfl 25 (.tmp 1) rfl _ rfl _ _ _ B1 Tryz.underlying25 rfl info_value ?_))
    refine (cnorm_any HJ HZ.out (Wc.below HB HW.out)).mono ?_
    intro e w4 hnm
    obtain ⟨he, hb⟩ := NoV.not HS.out hc hnm
    subst he
    clear hnm
    replace HB := HB.trans (hb.mono HB.size)
    (try replace HJ := HJ.below hb)
    (try replace HY := HY.below hb)
    (try replace HX := HX.below hb)
    (try replace HM := HM.below hb)
    (try replace B1 := IBox.below B1 hb (IBox.lt B1))
    (try replace B6 := IBox.below B6 hb (IBox.lt B6))
    (try replace B8 := IBox.below B8 hb (IBox.lt B8))
    (try replace B12 := IBox.below B12 hb (IBox.lt B12))
    clear hb
    go_wp2_with (first
      | ((with_reducible refine is_alloc ?_); refine wpl_newbox 6 rfl rfl 25 rfl rfl (.tmp 27) rfl _ zeroV JV.zero.cells rfl rfl info_value rfl (jv_one _) ?_; intro w5 hw; have hb := hid_grow hw; have B6 := (hid_alloc hw).1; replace HB := HB.trans (hb.mono HB.size); (try replace HJ := HJ.below hb); (try replace HY := HY.below hb); (try replace HX := HX.below hb); (try replace HM := HM.below hb); (try replace B1 := IBox.below B1 hb (IBox.lt B1)); (try replace B8 := IBox.below B8 hb (IBox.lt B8)); (try replace B12 := IBox.below B12 hb (IBox.lt B12)); clear hb hw))
    refine (code_n HC.out hc _).mono ?_
    rintro e w6 ⟨rfl, rfl⟩
    go_wp2_with fail
    refine (code_n HC.out hc _).mono ?_
    rintro e w7 ⟨rfl, rfl⟩
    go_wp2
    go_ret
    exact ⟨rfl, HB⟩
end
end Go.Proofs.YtnjhmnolngdfaaaGreatDoor
