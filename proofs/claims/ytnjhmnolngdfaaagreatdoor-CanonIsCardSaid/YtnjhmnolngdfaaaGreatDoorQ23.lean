/- Layer 2: two values alike are found to be so Layer 3: the law CanonBack answers true. Layer 3, the document's: Count, Write, Norm, Same, walked. Layer 3: the laws CanonWrites and CanonSames answer -/
import Derived.Test.YtnjhmnolngdfaaaGreatDoorQ15
import Derived.Test.YtnjhmnolngdfaaaGreatDoorQ18
import Derived.Test.YtnjhmnolngdfaaaGreatDoorQ11
import Derived.Test.YtnjhmnolngdfaaaGreatDoorQ22
import Derived.Test.YtnjhmnolngdfaaaGreatDoorQ19
import Derived.Test.YtnjhmnolngdfaaaGreatDoorQ04
import Derived.Test.YtnjhmnolngdfaaaGreatDoorQZip
set_option linter.unusedVariables false
set_option linter.unusedSimpArgs false
set_option maxHeartbeats 16000000
set_option maxRecDepth 100000
namespace Go.Proofs.YtnjhmnolngdfaaaGreatDoor
section
open Go.RowKit Go.PlainAid
end
end Go.Proofs.YtnjhmnolngdfaaaGreatDoor
namespace Go.Proofs.YtnjhmnolngdfaaaGreatDoor
section
open Go.RowKit Go.PlainAid
end
end Go.Proofs.YtnjhmnolngdfaaaGreatDoor
namespace Go.Proofs.YtnjhmnolngdfaaaGreatDoor
open Go.RowKit Go.PlainAid
theorem qF9 {w : World} {base : Nat} {v : Value} {l : List UInt8} (h : qCg w base v l) : ∃ A c, v = .slice A l.length c := by
  rcases h.2 with ⟨hv, h0⟩ | ⟨g, cap, cur, hv, _⟩
  · exact ⟨none, 0, by rw [hv, h0]⟩
  · exact ⟨_, _, hv⟩
def RwV (j : JV) (w : World) (e : Ending) (w' : World) : Prop := e = .returned (.tuple #[.string ⟨(qBz (er j)).2.toArray⟩, .int .i64 (qBz (er j)).1]) ∧ Below w.heap.size w w'
theorem RwV.is {j : JV} {w w' : World} {l : List UInt8} {c : Int} (h : qBz (er j) = (c, l)) (hb : Below w.heap.size w w') : RwV j w (.returned (.tuple #[.string ⟨l.toArray⟩, .int .i64 c])) w' := ⟨by rw [h], hb⟩
theorem RwV.get {j : JV} {w w' : World} {e : Ending} {l : List UInt8} {c : Int} (h : qBz (er j) = (c, l)) (k : RwV j w e w') : e = .returned (.tuple #[.string ⟨l.toArray⟩, .int .i64 c]) ∧ Below w.heap.size w w' := by
  obtain ⟨k1, k2⟩ := k; rw [h] at k1; exact ⟨k1, k2⟩
def RnV (j : JV) (w : World) (e : Ending) (w' : World) : Prop := Below w.heap.size w w' ∧
  if (qBz (er j)).1 = 0 then ∃ x, e = .returned (.tuple #[.agg x.cells, .int .i64 0]) ∧ qAi w' x ∧ er x = qBP (er j) ∧ Off (fun q => q < w.heap.size) x
  else e = .returned (.tuple #[.agg JV.zero.cells, .int .i64 (qBz (er j)).1])
theorem RnV.bad {j : JV} {w w' : World} {c : Int} (h : qBz (er j) = (c, [])) (hc : c ≠ 0) (hb : Below w.heap.size w w') : RnV j w (.returned (.tuple #[.agg JV.zero.cells, .int .i64 c])) w' := ⟨hb, by rw [h, if_neg hc]⟩
theorem RnV.ok {j : JV} {w w' : World} {l : List UInt8} (h : qBz (er j) = (0, l)) (hb : Below w.heap.size w w') {x : JV} (hx : qAi w' x) (he : er x = qBP (er j)) (ho : Off (fun q => q < w.heap.size) x) : RnV j w (.returned (.tuple #[.agg x.cells, .int .i64 0])) w' := ⟨hb, by rw [h, if_pos rfl]; exact ⟨x, rfl, hx, he, ho⟩⟩
theorem RnV.yes {j : JV} {w w' : World} {e : Ending} {l : List UInt8} (h : qBz (er j) = (0, l)) (k : RnV j w e w') : ∃ x, e = .returned (.tuple #[.agg x.cells, .int .i64 0]) ∧ qAi w' x ∧ er x = qBP (er j) ∧ Off (fun q => q < w.heap.size) x ∧ Below w.heap.size w w' := by
  obtain ⟨k1, k2⟩ := k; rw [h, if_pos rfl] at k2; obtain ⟨x, a, b, c, d⟩ := k2; exact ⟨x, a, b, c, d, k1⟩
theorem RnV.not {j : JV} {w w' : World} {e : Ending} {c : Int} (h : qBz (er j) = (c, [])) (hc : c ≠ 0) (k : RnV j w e w') : e = .returned (.tuple #[.agg JV.zero.cells, .int .i64 c]) ∧ Below w.heap.size w w' := by
  obtain ⟨k1, k2⟩ := k; rw [h, if_neg hc] at k2; exact ⟨k2, k1⟩
theorem qDC {j : JV} {w : World} (HJ : qAi w j) : Calls Tryz.prog 27 #[.agg j.cells, .int .i64 0] w (qQC j 0 w) := by
 have HB := Below.refl w.heap.size w; go_enter Tryz.func27, Tryz.ntmps27
 go_wp2_with (first
  | (refine qAM rfl 25 (.tmp 0) rfl _ rfl ?_; intro w12 hw; have hb := qAD hw; have B2 := (qAC hw).1; replace HB := zT HB hb; (try replace HJ := HJ.below hb); (try replace HK := HK.below hb); (try replace HY := HY.below hb); (try replace B1 := zI B1 hb); (try replace B3 := zI B3 hb); clear hb hw)
  | ((with_reducible refine qAR ?_); refine qAL rfl 25 (.tmp 2) rfl _ rfl _ _ _ B2 Tryz.underlying25 rfl qAA ?_))
 refine (qJ3 HJ).mono ?_; rintro e w3 ⟨rfl, hb⟩; replace HB := zT HB hb
 (try replace HJ := HJ.below hb)
 (try replace HK := HK.below hb)
 (try replace HY := HY.below hb)
 (try replace B1 := zI B1 hb)
 (try replace B2 := zI B2 hb)
 (try replace B3 := zI B3 hb)
 clear hb; go_wp2; go_ret; exact ⟨rfl, HB⟩
theorem qGI {j : JV} {w : World} (HJ : qAi w j) (hz : SzT (er j) ≤ 1048576) : Calls Tryz.prog 11 #[.agg j.cells] w (RwV j w) := by
 have HLT := Lib.hid (qK9 HJ); have HZ := Lib.hid hz; obtain ⟨ct, hct⟩ : ∃ ct, ct = qDz (er j) 0 := ⟨_, rfl⟩; have HCT := Lib.hid hct.symm; have hcm := qIv (er j); rw [← hct] at hcm; have HB := Below.refl w.heap.size w; clear hz hct
 by_cases hn : 65536 < qMA (er j)
 ·have HS := Lib.hid (show qBz (er j) = (2, []) by unfold qBz; rw [if_pos hn]); (have hc : 65536 < ct := by omega); clear hcm hn; go_enter Tryz.func11, Tryz.ntmps11
  go_wp2_with (first
   | (refine qAM rfl 25 (.tmp 0) rfl _ rfl ?_; intro w11 hw; have hb := qAD hw; have B1 := (qAC hw).1; replace HB := zT HB hb; (try replace HJ := HJ.below hb); (try replace HK := HK.below hb); (try replace HY := HY.below hb); (try replace B2 := zI B2 hb); (try replace B3 := zI B3 hb); clear hb hw)
   | ((with_reducible refine qAR ?_); refine qAL rfl 25 (.tmp 1) rfl _ rfl _ _ _ B1 Tryz.underlying25 rfl qAA ?_))
  refine (qDC HJ).mono ?_; rintro e w3 ⟨rfl, hb⟩; rw [HCT.out]; replace HB := zT HB hb
  (try replace HJ := HJ.below hb)
  (try replace HK := HK.below hb)
  (try replace HY := HY.below hb)
  (try replace B1 := zI B1 hb)
  (try replace B2 := zI B2 hb)
  (try replace B3 := zI B3 hb)
  clear hb; go_wp2; go_ret2; exact RwV.is HS.out HB
 ·(have hc : ¬ 65536 < ct := by omega); clear hcm
  by_cases hs : qBc (er j) 32 = true
  ·have HSN := Lib.hid hs
   have HPL := Lib.hid (show (pr (⟨#[]⟩ : ByteArray).data.toList (qBP (er j))).length ≤ 1099511627776 by
    have h1 := qIl (G := []) (by simp) (qBP (er j)) 32 (qH1 _ 32 HLT.out hs); have h2 := qNO (er j) HLT.out; have h3 := HZ.out; show (pr [] (qBP (er j))).length ≤ _
    omega)
   obtain ⟨tx, htx⟩ : ∃ tx, tx = plX [] (qBP (er j)) [] := ⟨_, rfl⟩; have htl := (qLM (t := qBP (er j))); rw [← htx] at htl; have HTX : Hid (plX (⟨#[]⟩ : ByteArray).data.toList (qBP (er j)) [] = tx) := Lib.hid htx.symm; clear htx
   by_cases h65 : 65536 < (pr [] (qBP (er j))).length
   ·have HS := Lib.hid (show qBz (er j) = (2, []) by unfold qBz; rw [if_neg hn, if_pos hs, if_pos h65]); (have htz : (65536 : Int) < tx.length := by have := htl.1.2 h65; omega); clear htl hn hs h65; go_enter Tryz.func11, Tryz.ntmps11
    go_wp2_with (first
     | (refine qAM rfl 25 (.tmp 0) rfl _ rfl ?_; intro w11 hw; have hb := qAD hw; have B1 := (qAC hw).1; replace HB := zT HB hb; (try replace HJ := HJ.below hb); (try replace HK := HK.below hb); (try replace HY := HY.below hb); (try replace B2 := zI B2 hb); (try replace B3 := zI B3 hb); clear hb hw)
     | ((with_reducible refine qAR ?_); refine qAL rfl 25 (.tmp 1) rfl _ rfl _ _ _ B1 Tryz.underlying25 rfl qAA ?_))
    refine (qDC HJ).mono ?_; rintro e w3 ⟨rfl, hb⟩; rw [HCT.out]; replace HB := zT HB hb
    (try replace HJ := HJ.below hb)
    (try replace HK := HK.below hb)
    (try replace HY := HY.below hb)
    (try replace B1 := zI B1 hb)
    (try replace B2 := zI B2 hb)
    (try replace B3 := zI B3 hb)
    clear hb
    go_wp2_with (first
     | ((with_reducible refine qAR ?_); refine qAL rfl 25 (.tmp 1) rfl _ rfl _ _ _ B1 Tryz.underlying25 rfl qAA ?_))
    refine (qGX HJ HZ.out).mono ?_; rintro e w4 ⟨rfl, hb⟩; rw [HSN.out]; replace HB := zT HB hb
    (try replace HJ := HJ.below hb)
    (try replace HK := HK.below hb)
    (try replace HY := HY.below hb)
    (try replace B1 := zI B1 hb)
    (try replace B2 := zI B2 hb)
    (try replace B3 := zI B3 hb)
    clear hb
    go_wp2_with (first
     | ((with_reducible refine qAR ?_); refine qAL rfl 25 (.tmp 1) rfl _ rfl _ _ _ B1 Tryz.underlying25 rfl qAA ?_))
    refine (qF2 HJ HZ.out ⟨_, HSN.out⟩).mono ?_; rintro e w5 ⟨y, rfl, HY, hey, _, hb⟩; have HEY := Lib.hid hey; clear hey; replace HB := zT HB hb
    (try replace HJ := HJ.below hb)
    (try replace HK := HK.below hb)
    (try replace B1 := zI B1 hb)
    (try replace B2 := zI B2 hb)
    (try replace B3 := zI B3 hb)
    clear hb
    go_wp2_with fail
    refine (qGE (g := ⟨#[]⟩) HY (by rw [HEY.out]; have := HPL.out; unfold qCA; first | exact this | omega)).mono ?_; rintro e w6 ⟨v, rfl, HV, hb⟩; rw [HEY.out] at HV; have HV2 : qCg w6 w5.heap.size v tx := HTX.out ▸ HV; clear HV; replace HB := zT HB hb
    (try replace HJ := HJ.below hb)
    (try replace HK := HK.below hb)
    (try replace HY := HY.below hb)
    (try replace B1 := zI B1 hb)
    (try replace B2 := zI B2 hb)
    (try replace B3 := zI B3 hb)
    clear hb; obtain ⟨vA, vc, rfl⟩ := qF9 HV2; have HVL := Lib.hid HV2; clear HV2; go_wp2; go_ret2; exact RwV.is HS.out HB
   ·have HS := Lib.hid (show qBz (er j) = (0, tx) by unfold qBz; rw [if_neg hn, if_pos hs, if_neg h65, htl.2 h65]); (have htz : ¬ (65536 : Int) < tx.length := by intro h; exact h65 (htl.1.1 (by omega))); clear htl hn hs h65; go_enter Tryz.func11, Tryz.ntmps11
    go_wp2_with (first
     | (refine qAM rfl 25 (.tmp 0) rfl _ rfl ?_; intro w11 hw; have hb := qAD hw; have B1 := (qAC hw).1; replace HB := zT HB hb; (try replace HJ := HJ.below hb); (try replace HK := HK.below hb); (try replace HY := HY.below hb); (try replace B2 := zI B2 hb); (try replace B3 := zI B3 hb); clear hb hw)
     | ((with_reducible refine qAR ?_); refine qAL rfl 25 (.tmp 1) rfl _ rfl _ _ _ B1 Tryz.underlying25 rfl qAA ?_))
    refine (qDC HJ).mono ?_; rintro e w3 ⟨rfl, hb⟩; rw [HCT.out]; replace HB := zT HB hb
    (try replace HJ := HJ.below hb)
    (try replace HK := HK.below hb)
    (try replace HY := HY.below hb)
    (try replace B1 := zI B1 hb)
    (try replace B2 := zI B2 hb)
    (try replace B3 := zI B3 hb)
    clear hb
    go_wp2_with (first
     | ((with_reducible refine qAR ?_); refine qAL rfl 25 (.tmp 1) rfl _ rfl _ _ _ B1 Tryz.underlying25 rfl qAA ?_))
    refine (qGX HJ HZ.out).mono ?_; rintro e w4 ⟨rfl, hb⟩; rw [HSN.out]; replace HB := zT HB hb
    (try replace HJ := HJ.below hb)
    (try replace HK := HK.below hb)
    (try replace HY := HY.below hb)
    (try replace B1 := zI B1 hb)
    (try replace B2 := zI B2 hb)
    (try replace B3 := zI B3 hb)
    clear hb
    go_wp2_with (first
     | ((with_reducible refine qAR ?_); refine qAL rfl 25 (.tmp 1) rfl _ rfl _ _ _ B1 Tryz.underlying25 rfl qAA ?_))
    refine (qF2 HJ HZ.out ⟨_, HSN.out⟩).mono ?_; rintro e w5 ⟨y, rfl, HY, hey, _, hb⟩; have HEY := Lib.hid hey; clear hey; replace HB := zT HB hb
    (try replace HJ := HJ.below hb)
    (try replace HK := HK.below hb)
    (try replace B1 := zI B1 hb)
    (try replace B2 := zI B2 hb)
    (try replace B3 := zI B3 hb)
    clear hb
    go_wp2_with fail
    refine (qGE (g := ⟨#[]⟩) HY (by rw [HEY.out]; have := HPL.out; unfold qCA; first | exact this | omega)).mono ?_; rintro e w6 ⟨v, rfl, HV, hb⟩; rw [HEY.out] at HV; have HV2 : qCg w6 w5.heap.size v tx := HTX.out ▸ HV; clear HV; replace HB := zT HB hb
    (try replace HJ := HJ.below hb)
    (try replace HK := HK.below hb)
    (try replace HY := HY.below hb)
    (try replace B1 := zI B1 hb)
    (try replace B2 := zI B2 hb)
    (try replace B3 := zI B3 hb)
    clear hb; obtain ⟨vA, vc, rfl⟩ := qF9 HV2; have HVL := Lib.hid HV2; clear HV2
    go_wp2_with (first
     | (refine qB7 rfl (.tmp 19) 46 9 rfl Tryz.underlying46 Tryz.underlying9 _ _ _ rfl HVL.out ?_))
    go_ret2; exact RwV.is HS.out HB
  ·have HSN := Lib.hid (qBi hs); have HS := Lib.hid (show qBz (er j) = (8, []) by unfold qBz; rw [if_neg hn, if_neg hs]); clear hn hs; go_enter Tryz.func11, Tryz.ntmps11
   go_wp2_with (first
    | (refine qAM rfl 25 (.tmp 0) rfl _ rfl ?_; intro w11 hw; have hb := qAD hw; have B1 := (qAC hw).1; replace HB := zT HB hb; (try replace HJ := HJ.below hb); (try replace HK := HK.below hb); (try replace HY := HY.below hb); (try replace B2 := zI B2 hb); (try replace B3 := zI B3 hb); clear hb hw)
    | ((with_reducible refine qAR ?_); refine qAL rfl 25 (.tmp 1) rfl _ rfl _ _ _ B1 Tryz.underlying25 rfl qAA ?_))
   refine (qDC HJ).mono ?_; rintro e w3 ⟨rfl, hb⟩; rw [HCT.out]; replace HB := zT HB hb
   (try replace HJ := HJ.below hb)
   (try replace HK := HK.below hb)
   (try replace HY := HY.below hb)
   (try replace B1 := zI B1 hb)
   (try replace B2 := zI B2 hb)
   (try replace B3 := zI B3 hb)
   clear hb
   go_wp2_with (first
    | ((with_reducible refine qAR ?_); refine qAL rfl 25 (.tmp 1) rfl _ rfl _ _ _ B1 Tryz.underlying25 rfl qAA ?_))
   refine (qGX HJ HZ.out).mono ?_; rintro e w4 ⟨rfl, hb⟩; rw [HSN.out]; replace HB := zT HB hb
   (try replace HJ := HJ.below hb)
   (try replace HK := HK.below hb)
   (try replace HY := HY.below hb)
   (try replace B1 := zI B1 hb)
   (try replace B2 := zI B2 hb)
   (try replace B3 := zI B3 hb)
   clear hb; go_wp2; go_ret2; exact RwV.is HS.out HB
end Go.Proofs.YtnjhmnolngdfaaaGreatDoor
namespace Go.Proofs.YtnjhmnolngdfaaaGreatDoor
open Go.RowKit Go.PlainAid
end Go.Proofs.YtnjhmnolngdfaaaGreatDoor
namespace Go.Proofs.YtnjhmnolngdfaaaGreatDoor
open Go.RowKit Go.PlainAid
def RR (w : World) (r : Nat) (s : ByteArray) (i : Nat) (c : Int) (p : Int) : Prop := qAW w r 85 #[.string s, .int .i64 i, .int .i64 c, .int .i64 p]
theorem RR.lt {w : World} {r : Nat} {s : ByteArray} {i : Nat} {c p : Int} (h : RR w r s i c p) : r < w.heap.size := qAW.lt h
theorem RR.c0 {w : World} {r : Nat} {s : ByteArray} {i : Nat} {c p : Int} (h : RR w r s i c p) : w.cell? ⟨r, 0, none⟩ = some (.string s) := qAW.cell h 0
theorem RR.c1 {w : World} {r : Nat} {s : ByteArray} {i : Nat} {c p : Int} (h : RR w r s i c p) : w.cell? ⟨r, 1, none⟩ = some (.int .i64 i) := qAW.cell h 1
theorem RR.c2 {w : World} {r : Nat} {s : ByteArray} {i : Nat} {c p : Int} (h : RR w r s i c p) : w.cell? ⟨r, 2, none⟩ = some (.int .i64 c) := qAW.cell h 2
theorem RR.c3 {w : World} {r : Nat} {s : ByteArray} {i : Nat} {c p : Int} (h : RR w r s i c p) : w.cell? ⟨r, 3, none⟩ = some (.int .i64 p) := qAW.cell h 3
theorem RR.f1 {w : World} {r : Nat} {s : ByteArray} {i : Nat} {c p : Int} (h : RR w r s i c p) : w.frozen? ⟨r, 1, none⟩ = false := qAW.frozen h 1
theorem RR.f2 {w : World} {r : Nat} {s : ByteArray} {i : Nat} {c p : Int} (h : RR w r s i c p) : w.frozen? ⟨r, 2, none⟩ = false := qAW.frozen h 2
theorem RR.f3 {w : World} {r : Nat} {s : ByteArray} {i : Nat} {c p : Int} (h : RR w r s i c p) : w.frozen? ⟨r, 3, none⟩ = false := qAW.frozen h 3
theorem RR.below {w w' : World} {r : Nat} {s : ByteArray} {i : Nat} {c p : Int} (h : RR w r s i c p) (hb : Below w.heap.size w w') : RR w' r s i c p := zI h hb
theorem RR.drewN {w : World} {r : Nat} {s : ByteArray} {i : Nat} {c p : Int} (h : RR w r s i c p) (n : Nat) : RR (w.drewN n) r s i c p := h
theorem RR.set {w : World} {r : Nat} {s : ByteArray} {i : Nat} {c p : Int} (h : RR w r s i c p) {x : Int} {k : Nat} (hx : x = (k : Int)) : RR (w.setCell ⟨r, 1, none⟩ (.int .i64 x)) r s k c p ∧ Mv r w (w.setCell ⟨r, 1, none⟩ (.int .i64 x)) := by
  subst hx; rw [setCell_eq_setRow w r 1 _ _ (0, 0) _ h]; exact ⟨qAW.row h _, Bes.row (X := fun k => k = r) (Lib.hid rfl) rfl⟩
theorem RR.flaw {w : World} {r : Nat} {s : ByteArray} {i : Nat} {c0 p0 : Int} (h : RR w r s i c0 p0) (c p : Int) : RR ((w.setCell ⟨r, 2, none⟩ (.int .i64 c)).setCell ⟨r, 3, none⟩ (.int .i64 p)) r s i c p ∧ Mv r w ((w.setCell ⟨r, 2, none⟩ (.int .i64 c)).setCell ⟨r, 3, none⟩ (.int .i64 p)) := by
  have e1 := setCell_eq_setRow w r 2 _ _ (0, 0) (.int .i64 c) h; (have h1 : qAW (w.setCell ⟨r, 2, none⟩ (.int .i64 c)) r 85 #[.string s, .int .i64 i, .int .i64 c, .int .i64 p0] := by rw [e1]; exact qAW.row h _); (have m1 : Mv r w (w.setCell ⟨r, 2, none⟩ (.int .i64 c)) := by rw [e1]; exact Bes.row (X := fun k => k = r) (Lib.hid rfl) rfl); have e2 := setCell_eq_setRow _ r 3 _ _ (0, 0) (.int .i64 p) h1; rw [e2]; exact ⟨qAW.row h1 _, m1.trans (Bes.row (X := fun k => k = r) (Lib.hid rfl) rfl)⟩
theorem RR.at {w : World} {r : Nat} {s : ByteArray} {i : Nat} {c p : Int} (h : RR w r s i c p) : qHW w r = i := by unfold qHW; rw [h.c1]; simp
def qP7 (r : Nat) (s : ByteArray) (i : Nat) (c : Int) (p : Int) (w : World) (e : Ending) (w' : World) : Prop := e = .returned (.tuple #[]) ∧ RR w' r s i c p ∧ Mv r w w'
theorem qAj {w : World} {r : Nat} {s : ByteArray} {i : Nat} (c : Int) (p : Int) (h : RR w r s i 0 0) : Calls Tryz.prog 73 #[At r, .int .i64 c, .int .i64 p] w (qP7 r s i c p w) := by
  have c2 := h.c2; have f2 := h.f2; have c3 := h.c3; have f3 := h.f3; go_enter Tryz.func73, Tryz.ntmps73; go_wp2; exact bodyPost_ret (results_none rfl _ _ _) rfl ⟨rfl, RR.flaw h c p⟩
theorem qDo {w : World} {r : Nat} {s : ByteArray} {i : Nat} {c p : Int} (h : RR w r s i c p) (hi : i < s.size) : Calls Tryz.prog 72 #[At r] w fun e w' => e = .returned (.tuple #[.int .u8 (bt s i), .bool true]) ∧ ∃ m, w' = w.drewN m := by
  have c0 := h.c0; have c1 := h.c1; have hb := get_bt s; have b0 := bt_nonneg s i; have b1 := bt_le s i; (have hlt' : (i : Int) < (s.size : Int) := by omega); (have h0 : ¬ (i : Int) < 0 := by omega); go_enter Tryz.func72, Tryz.ntmps72; go_wp2
  go_quiet (fail)
  go_wp2
  go_quiet (fail)
  go_wp2; go_ret2; exact ⟨rfl, _, World.drewN_drewN _ _ _⟩
theorem qFh {w : World} {r : Nat} {s : ByteArray} {i : Nat} {c p : Int} (h : RR w r s i c p) (hi : ¬ i < s.size) : Calls Tryz.prog 72 #[At r] w fun e w' => e = .returned (.tuple #[.int .u8 0, .bool false]) ∧ ∃ m, w' = w.drewN m := by
  have c0 := h.c0; have c1 := h.c1; (have hlt' : ¬ (i : Int) < (s.size : Int) := by omega); go_enter Tryz.func72, Tryz.ntmps72; go_wp2
  go_quiet (fail)
  go_wp2; go_ret2; exact ⟨rfl, _, rfl⟩
theorem qAS {w : World} {r : Nat} {s : ByteArray} {i : Nat} {c p : Int} (h : RR w r s i c p) (hi : i < s.size) : Calls Tryz.prog 72 #[At r] w fun e w' => e = .returned (.tuple #[.int .u8 (bt s i), .bool true]) ∧ RR w' r s i c p ∧ Mv r w w' :=
  (qDo h hi).mono fun e w' ⟨he, m, hw⟩ => ⟨he, by rw [hw]; exact h.drewN m, by rw [hw]; exact qAr r w m⟩
theorem qBT {w : World} {r : Nat} {s : ByteArray} {i : Nat} {c p : Int} (h : RR w r s i c p) (hi : ¬ i < s.size) : Calls Tryz.prog 72 #[At r] w fun e w' => e = .returned (.tuple #[.int .u8 0, .bool false]) ∧ RR w' r s i c p ∧ Mv r w w' :=
  (qFh h hi).mono fun e w' ⟨he, m, hw⟩ => ⟨he, by rw [hw]; exact h.drewN m, by rw [hw]; exact qAr r w m⟩
theorem qE6 (c : Int) (h0 : 0 ≤ c) (h1 : c ≤ 255) (w : World) : Calls Tryz.prog 137 #[.int .u8 c] w fun e w' => e = .returned (.int .i64 (qCZ c)) ∧ w' = w := by
 have HH : Hid (qCZ c = if 48 ≤ c ∧ c ≤ 57 then c - 48 else if 97 ≤ c ∧ c ≤ 102 then c - 87 else if 65 ≤ c ∧ c ≤ 70 then c - 55 else -1) := Lib.hid (by unfold qCZ qBa; simp)
 by_cases a : 48 ≤ c ∧ c ≤ 57
 ·have H : Hid (qCZ c = c - 48) := Lib.hid (by rw [HH.out, if_pos a]); obtain ⟨a1, a2⟩ := a; go_enter Tryz.func137, Tryz.ntmps137; go_wp2; go_ret; exact ⟨qBD (by rw [H.out]), rfl⟩
 ·by_cases b : 97 ≤ c ∧ c ≤ 102
  ·have H : Hid (qCZ c = c - 97 + 10) := Lib.hid (by rw [HH.out, if_neg a, if_pos b]; omega); obtain ⟨b1, b2⟩ := b; (have a1 : 48 ≤ c := by omega); (have a2 : ¬ c ≤ 57 := by omega); clear a; go_enter Tryz.func137, Tryz.ntmps137; go_wp2; go_ret; exact ⟨qBD (by rw [H.out]), rfl⟩
  ·by_cases d : 65 ≤ c ∧ c ≤ 70
   ·have H : Hid (qCZ c = c - 65 + 10) := Lib.hid (by rw [HH.out, if_neg a, if_neg b, if_pos d]; omega); obtain ⟨d1, d2⟩ := d; (have a1 : 48 ≤ c := by omega); (have a2 : ¬ c ≤ 57 := by omega); (have b1 : ¬ 97 ≤ c := by omega); clear a b; go_enter Tryz.func137, Tryz.ntmps137; go_wp2; go_ret; exact ⟨qBD (by rw [H.out]), rfl⟩
   ·have H : Hid (qCZ c = -1) := Lib.hid (by rw [HH.out, if_neg a, if_neg b, if_neg d]); (have hc : c < 48 ∨ (57 < c ∧ c < 65) ∨ (70 < c ∧ c < 97) ∨ 102 < c := by omega); clear a b d; rcases hc with hc | ⟨hc, hc2⟩ | ⟨hc, hc2⟩ | hc
    ·(have a1 : ¬ 48 ≤ c := by omega); (have b1 : ¬ 97 ≤ c := by omega); (have d1 : ¬ 65 ≤ c := by omega); go_enter Tryz.func137, Tryz.ntmps137; go_wp2; go_ret; exact ⟨qBD (by rw [H.out]), rfl⟩
    ·(have a1 : 48 ≤ c := by omega); (have a2 : ¬ c ≤ 57 := by omega); (have b1 : ¬ 97 ≤ c := by omega); (have d1 : ¬ 65 ≤ c := by omega); go_enter Tryz.func137, Tryz.ntmps137; go_wp2; go_ret; exact ⟨qBD (by rw [H.out]), rfl⟩
    ·(have a1 : 48 ≤ c := by omega); (have a2 : ¬ c ≤ 57 := by omega); (have b1 : ¬ 97 ≤ c := by omega); (have d1 : 65 ≤ c := by omega); (have d2 : ¬ c ≤ 70 := by omega); go_enter Tryz.func137, Tryz.ntmps137; go_wp2; go_ret; exact ⟨qBD (by rw [H.out]), rfl⟩
    ·(have a1 : 48 ≤ c := by omega); (have a2 : ¬ c ≤ 57 := by omega); (have b1 : 97 ≤ c := by omega); (have b2 : ¬ c ≤ 102 := by omega); (have d1 : 65 ≤ c := by omega); (have d2 : ¬ c ≤ 70 := by omega); go_enter Tryz.func137, Tryz.ntmps137; go_wp2; go_ret; exact ⟨qBD (by rw [H.out]), rfl⟩
theorem qKg : (Tryz.prog.info? 3).map (·.size) = some 1 := by kernel_rfl
theorem qAl {ops : Array Oper} {rest : List Oper} {o : Oper} {a : Act} {w : World} {Q : Exit → Act → World → Prop} {r : Nat} {s : ByteArray} {i : Nat} {c p : Int} (hgd : o.guard = none) (x y : Operand) (ho : o.op = .store 3 x y)
    (hx : a.eval x = .pointer (some ⟨r, 1, none⟩)) (k : Nat) (hy : a.eval y = .int .i64 (k : Int)) (HR : RR w r s i c p)
    (h : ∀ w', RR w' r s k c p → Mv r w w' → wpList Tryz.prog ops Q rest (a.put o.dst undef) w') : wpList Tryz.prog ops Q (o :: rest) a w :=
  qAs hgd 3 x y ho r 1 hx _ hy _ _ HR (by show 1 < 4; omega) qKg rfl fun w' hw => h w' (qAQ hw HR) (Bes.row (X := fun k => k = r) hw rfl)
def qBL {α : Type} (o : Out α) (r : Nat) (s : ByteArray) (w : World) (V : α → Ending → World → Prop) (Bd : Ending → Prop) (e : Ending) (w' : World) : Prop :=
  Mv r w w' ∧ (match o with
    | .ok x k => V x e w' ∧ RR w' r s k 0 0
    | .bad c p => Bd e ∧ c ≠ 0 ∧ ∃ i, RR w' r s i c p)
theorem qBL.ok {α : Type} {o : Out α} {r : Nat} {s : ByteArray} {w w' : World} {V : α → Ending → World → Prop} {Bd : Ending → Prop} {e : Ending} {x : α} {k : Nat} (ho : o = .ok x k) (hm : Mv r w w') (hv : V x e w') (hr : RR w' r s k 0 0) : qBL o r s w V Bd e w' := by subst ho; exact ⟨hm, hv, hr⟩
theorem qBL.bad {α : Type} {o : Out α} {r : Nat} {s : ByteArray} {w w' : World} {V : α → Ending → World → Prop} {Bd : Ending → Prop} {e : Ending} {c : Int} {p i : Nat} (ho : o = .bad c p) (hm : Mv r w w') (hb : Bd e) (hc : c ≠ 0) (hr : RR w' r s i c p) : qBL o r s w V Bd e w' := by subst ho; exact ⟨hm, hb, hc, i, hr⟩
abbrev Nix (e : Ending) : Prop := e = .returned (.tuple #[])
end Go.Proofs.YtnjhmnolngdfaaaGreatDoor
namespace Go.Proofs.YtnjhmnolngdfaaaGreatDoor
open Go.RowKit Go.PlainAid
theorem qC9 {P : Program} {fn : Func} {R : Ending → World → Prop} {a : Act} {w : World} {v : Value}
    (hr : (results fn a.tmps).run P w = .ok v w) (hd : a.defers = []) (hR : R (.returned v) w) : bodyPost P fn R .normal a w := ⟨hd, v, hr, hR⟩
theorem qJh {s : ByteArray} {k : Nat} (h : qCW (bt s k) = false) (hk : k < s.size) : qAd s k = k := qBu (by rw [qBh hk]; exact h)
theorem qLH {s : ByteArray} {k : Nat} (hk : s.size ≤ k) : qAd s k = k := qBu (by rw [qBb hk]; rfl)
theorem qE8 {s : ByteArray} {k : Nat} (hk : k < s.size) (h : qCW (bt s k) = true) : qAd s k = qAd s (k + 1) := qCU hk (by rw [qBh hk]; exact h)
theorem qAa {w : World} {r : Nat} {s : ByteArray} {i : Nat} (h : RR w r s i 0 0) (hi : i ≤ s.size) (hs : s.size ≤ 65536) :
    Calls Tryz.prog 50 #[At r] w fun e w' => e = .returned (.tuple #[]) ∧ RR w' r s (qAd s i) 0 0 ∧ Mv r w w' := by
  have hbs := get_bt s; go_enter Tryz.func50, Tryz.ntmps50; go_wp2
  go_loopw [] (fun wr => ∃ k : Nat, k ≤ s.size ∧ RR wr r s k 0 0 ∧ Hid (qAd s k = qAd s i) ∧ Mv r w wr) (fun wr => s.size - qHW wr r)
  case atStart => exact ⟨i, hi, h, Lib.hid rfl, Mv.refl _ _⟩
  case round =>
    obtain ⟨k, hk, HR, HS, HM⟩ := hrel; have c0 := HR.c0; have c1 := HR.c1; have f1 := HR.f1; have b0 := bt_nonneg s k; have b1 := bt_le s k; have hat := HR.at
    by_cases hlt : k < s.size
    · (have hlt' : (k : Int) < (s.size : Int) := by omega); have hd : decide ((k : Int) < (s.size : Int)) = true := decide_eq_true hlt'; have h0 : ¬ (k : Int) < 0 := by omega
      by_cases e32 : bt s k = 32
      · (have q32 : (bt s k == 32) = true := by rw [e32]; rfl); have hB : Hid (qCW (bt s k) = true) := Lib.hid (by rw [e32]; rfl); clear e32; go_wp2
        go_quiet (fail)
        go_wp2; have HQ := (HR.drewN nq).set (x := (k : Int) + 1) (k := k + 1) (by omega); exact ⟨⟨k + 1, by omega, HQ.1, Lib.hid ((qE8 hlt hB.out).symm.trans HS.out), (HM.trans (qAr r wr nq)).trans HQ.2⟩, by rw [HQ.1.at, hat]; omega⟩
      · have q32 : (bt s k == 32) = false := by simpa using e32
        by_cases e10 : bt s k = 10
        · (have q10 : (bt s k == 10) = true := by rw [e10]; rfl); have hB : Hid (qCW (bt s k) = true) := Lib.hid (by rw [e10]; rfl); clear e10; go_wp2
          go_quiet (fail)
          go_wp2; have HQ := (HR.drewN nq).set (x := (k : Int) + 1) (k := k + 1) (by omega); exact ⟨⟨k + 1, by omega, HQ.1, Lib.hid ((qE8 hlt hB.out).symm.trans HS.out), (HM.trans (qAr r wr nq)).trans HQ.2⟩, by rw [HQ.1.at, hat]; omega⟩
        · have q10 : (bt s k == 10) = false := by simpa using e10
          by_cases e13 : bt s k = 13
          · (have q13 : (bt s k == 13) = true := by rw [e13]; rfl); have hB : Hid (qCW (bt s k) = true) := Lib.hid (by rw [e13]; rfl); clear e13; go_wp2
            go_quiet (fail)
            go_wp2; have HQ := (HR.drewN nq).set (x := (k : Int) + 1) (k := k + 1) (by omega); exact ⟨⟨k + 1, by omega, HQ.1, Lib.hid ((qE8 hlt hB.out).symm.trans HS.out), (HM.trans (qAr r wr nq)).trans HQ.2⟩, by rw [HQ.1.at, hat]; omega⟩
          · have q13 : (bt s k == 13) = false := by simpa using e13
            by_cases e9 : bt s k = 9
            · (have q9 : (bt s k == 9) = true := by rw [e9]; rfl); have hB : Hid (qCW (bt s k) = true) := Lib.hid (by rw [e9]; rfl); clear e9; go_wp2
              go_quiet (fail)
              go_wp2; have HQ := (HR.drewN nq).set (x := (k : Int) + 1) (k := k + 1) (by omega); exact ⟨⟨k + 1, by omega, HQ.1, Lib.hid ((qE8 hlt hB.out).symm.trans HS.out), (HM.trans (qAr r wr nq)).trans HQ.2⟩, by rw [HQ.1.at, hat]; omega⟩
            · (have q9 : (bt s k == 9) = false := by simpa using e9); have hB : Hid (qCW (bt s k) = false) := Lib.hid (by unfold qCW; simp; omega); clear e32 e10 e13 e9; go_wp2
              go_quiet (fail)
              go_wp2; exact qC9 (results_none rfl _ _ _) rfl ⟨rfl, by rw [← HS.out, qJh hB.out hlt]; exact HR.drewN nq, HM.trans (qAr r wr nq)⟩
    · (have hlt' : ¬ (k : Int) < (s.size : Int) := by omega); have hd : decide ((k : Int) < (s.size : Int)) = false := decide_eq_false hlt'; go_wp2
      go_quiet (fail)
      go_wp2; exact qC9 (results_none rfl _ _ _) rfl ⟨rfl, by rw [← HS.out, qLH (by omega)]; exact HR.drewN nq, HM.trans (qAr r wr nq)⟩
theorem qEF (v : ByteArray) {w : World} {r : Nat} {s : ByteArray} {i : Nat} (h : RR w r s i 0 0) (hi : i ≤ s.size) (hs : s.size ≤ 65536) (hv : v.size ≤ 65536) :
    Calls Tryz.prog 74 #[At r, .string v] w (qBL (qBF s v v.size i) r s w qJ0 Nix) := by
  have hbs := get_bt v; go_enter Tryz.func74, Tryz.ntmps74; go_wp2
  go_loopw [4] (fun iv wr => ∃ j k : Nat, iv = .int .i64 j ∧ j ≤ v.size ∧ k ≤ s.size ∧ RR wr r s k 0 0 ∧ Hid (qBF s v (v.size - j) k = qBF s v v.size i) ∧ Mv r w wr) (fun iv _ => v.size - (intOf iv).toNat)
  case atStart => exact ⟨0, i, rfl, Nat.zero_le _, hi, h, Lib.hid rfl, Mv.refl _ _⟩
  case round =>
    obtain ⟨j, k, rfl, hj, hk, HR, HS, HM⟩ := hrel; have c0 := HR.c0; have c1 := HR.c1; have f1 := HR.f1; have b0 := bt_nonneg v j; have b1 := bt_le v j
    by_cases hlt : j < v.size
    · (have hlt' : (j : Int) < (v.size : Int) := by omega); have h0 : ¬ (j : Int) < 0 := by omega
      by_cases hks : k < s.size
      · have hpk := qBh hks
        by_cases hq : bt s k = bt v j
        · (have q1 : (bt s k == bt v j) = true := by simpa using hq); have HT := Lib.hid ((qHe hlt (hpk.trans hq)).symm.trans HS.out); clear hpk hq
          go_wp2_with (go_at_call 72; (with_reducible refine (qDo HR hks).mono ?_); rintro e w2 ⟨rfl, m, rfl⟩; replace HR := HR.drewN m; replace HM := HM.trans (qAr r _ m); replace c0 := HR.c0; replace c1 := HR.c1; replace f1 := HR.f1)
          have HQ := HR.set (x := (k : Int) + 1) (k := k + 1) (by omega); exact ⟨⟨j + 1, k + 1, by go_num, by omega, by omega, HQ.1, HT, HM.trans HQ.2⟩, by simp [intOf]; omega⟩
        · (have q1 : (bt s k == bt v j) = false := by simpa using hq); have HT := Lib.hid (HS.out.symm.trans (qGp hlt (fun e => hq (hpk.symm.trans e)))); clear hpk
          go_wp2_with (first
            | (go_at_call 72; (with_reducible refine (qDo HR hks).mono ?_); rintro e w2 ⟨rfl, m, rfl⟩; replace HR := HR.drewN m; replace HM := HM.trans (qAr r _ m); replace c0 := HR.c0; replace c1 := HR.c1; replace f1 := HR.f1)
            | (go_at_call 73; (with_reducible refine (qAj _ _ HR).mono ?_); rintro e w3 ⟨rfl, hr, hm⟩))
          exact bodyPost_ret (results_none rfl _ _ _) rfl (qBL.bad HT.out (HM.trans hm) rfl (by decide) hr)
      · have HT := Lib.hid (HS.out.symm.trans (qGp hlt (fun e => by rw [qBb (by omega)] at e; omega)))
        go_wp2_with (first
          | (go_at_call 72; (with_reducible refine (qFh HR hks).mono ?_); rintro e w2 ⟨rfl, m, rfl⟩; replace HR := HR.drewN m; replace HM := HM.trans (qAr r _ m); replace c0 := HR.c0; replace c1 := HR.c1; replace f1 := HR.f1)
          | (go_at_call 73; (with_reducible refine (qAj _ _ HR).mono ?_); rintro e w3 ⟨rfl, hr, hm⟩))
        exact bodyPost_ret (results_none rfl _ _ _) rfl (qBL.bad HT.out (HM.trans hm) rfl (by decide) hr)
    · go_wp2; exact qC9 (results_none rfl _ _ _) rfl (qBL.ok (HS.out ▸ qIs hlt) HM rfl HR)
def qB9 (s : ByteArray) (endc : Int) (i : Nat) : Out Bool :=
  if pk s (qAd s i) = 44 then .ok true (qAd s (qAd s i + 1)) else if pk s (qAd s i) = endc then .ok false (qAd s i + 1) else .bad 3 (qAd s i)
abbrev qQA (b : Bool) (e : Ending) (_ : World) : Prop := e = .returned (.bool b)
abbrev qP9 (e : Ending) : Prop := e = .returned (.bool false)
theorem qBp {endc : Int} {w : World} {r : Nat} {s : ByteArray} {i : Nat} (h : RR w r s i 0 0) (hi : i ≤ s.size) (hs : s.size ≤ 65536) (he : 44 < endc) :
    Calls Tryz.prog 94 #[At r, .int .u8 endc] w (qBL (qB9 s endc i) r s w qQA qP9) := by
  have HR := h; have HM := Mv.refl r w; obtain ⟨k, hk⟩ : ∃ k, k = qAd s i := ⟨_, rfl⟩; have hks : qAd s i ≤ s.size := qFj hi; rw [← hk] at hks; have HK := Lib.hid hk; (have hkm : qB9 s endc i = if pk s k = 44 then .ok true (qAd s (k + 1)) else if pk s k = endc then .ok false (k + 1) else .bad 3 k := by rw [hk]; rfl); clear hk
  by_cases hlt : k < s.size
  · have hpk := qBh hlt; rw [hpk] at hkm; clear hpk
    by_cases h44 : bt s k = 44
    · (have q1 : (bt s k == 44) = true := by rw [h44]; rfl); have HS : Hid (qB9 s endc i = .ok true (qAd s (k + 1))) := Lib.hid (by rw [hkm, if_pos h44]); clear hkm h44; go_enter Tryz.func94, Tryz.ntmps94
      go_wp2_with (first
      | (go_at_call 50; (with_reducible refine (qAa HR hi hs).mono ?_); rintro e w2 ⟨rfl, hr, hm⟩; rw [← HK.out] at hr; clear hi; have hi : k + 1 ≤ s.size := (by omega); replace HR := hr; replace HM := HM.trans hm; clear hr hm; have c0 := HR.c0; have c1 := HR.c1; have f1 := HR.f1)
      | (go_at_call 72; (with_reducible refine (qDo HR hlt).mono ?_); rintro e w2 ⟨rfl, m, rfl⟩; replace HR := HR.drewN m; replace HM := HM.trans (qAr r _ m); clear c0 c1 f1; have c0 := HR.c0; have c1 := HR.c1; have f1 := HR.f1)
      | ((with_reducible refine qAF ?_); refine qAl rfl (.tmp 25) (.tmp 23) rfl rfl (k + 1) (by rfl) HR ?_; intro w4 hr hm; clear c0 c1 f1; replace HR := hr; replace HM := HM.trans hm; clear hr hm; have c0 := HR.c0; have c1 := HR.c1; have f1 := HR.f1)
      | ((with_reducible refine qAF ?_); refine qAl rfl (.tmp 40) (.tmp 38) rfl rfl (k + 1) (by rfl) HR ?_; intro w4 hr hm; clear c0 c1 f1; replace HR := hr; replace HM := HM.trans hm; clear hr hm; have c0 := HR.c0; have c1 := HR.c1; have f1 := HR.f1)
      | (go_at_call 50; (with_reducible refine (qAa HR hi hs).mono ?_); rintro e w2 ⟨rfl, hr, hm⟩; clear c0 c1 f1; replace HR := hr; replace HM := HM.trans hm; clear hr hm; have c0 := HR.c0; have c1 := HR.c1; have f1 := HR.f1)
      | (go_at_call 73; (with_reducible refine (qAj _ _ HR).mono ?_); rintro e w3 ⟨rfl, hr, hm⟩; clear c0 c1 f1; replace HR := hr; replace HM := HM.trans hm))
      go_ret; exact qBL.ok HS.out HM rfl HR
    · have q1 : (bt s k == 44) = false := by simpa using h44
      by_cases hend : bt s k = endc
      · (have q2 : (bt s k == endc) = true := by rw [hend]; simp); have HS : Hid (qB9 s endc i = .ok false (k + 1)) := Lib.hid (by rw [hkm, if_neg h44, if_pos hend]); clear hkm h44 hend; go_enter Tryz.func94, Tryz.ntmps94
        go_wp2_with (first
      | (go_at_call 50; (with_reducible refine (qAa HR hi hs).mono ?_); rintro e w2 ⟨rfl, hr, hm⟩; rw [← HK.out] at hr; clear hi; have hi : k + 1 ≤ s.size := (by omega); replace HR := hr; replace HM := HM.trans hm; clear hr hm; have c0 := HR.c0; have c1 := HR.c1; have f1 := HR.f1)
      | (go_at_call 72; (with_reducible refine (qDo HR hlt).mono ?_); rintro e w2 ⟨rfl, m, rfl⟩; replace HR := HR.drewN m; replace HM := HM.trans (qAr r _ m); clear c0 c1 f1; have c0 := HR.c0; have c1 := HR.c1; have f1 := HR.f1)
      | ((with_reducible refine qAF ?_); refine qAl rfl (.tmp 25) (.tmp 23) rfl rfl (k + 1) (by rfl) HR ?_; intro w4 hr hm; clear c0 c1 f1; replace HR := hr; replace HM := HM.trans hm; clear hr hm; have c0 := HR.c0; have c1 := HR.c1; have f1 := HR.f1)
      | ((with_reducible refine qAF ?_); refine qAl rfl (.tmp 40) (.tmp 38) rfl rfl (k + 1) (by rfl) HR ?_; intro w4 hr hm; clear c0 c1 f1; replace HR := hr; replace HM := HM.trans hm; clear hr hm; have c0 := HR.c0; have c1 := HR.c1; have f1 := HR.f1)
      | (go_at_call 50; (with_reducible refine (qAa HR hi hs).mono ?_); rintro e w2 ⟨rfl, hr, hm⟩; clear c0 c1 f1; replace HR := hr; replace HM := HM.trans hm; clear hr hm; have c0 := HR.c0; have c1 := HR.c1; have f1 := HR.f1)
      | (go_at_call 73; (with_reducible refine (qAj _ _ HR).mono ?_); rintro e w3 ⟨rfl, hr, hm⟩; clear c0 c1 f1; replace HR := hr; replace HM := HM.trans hm))
        go_ret; exact qBL.ok HS.out HM rfl HR
      · (have q2 : (bt s k == endc) = false := by simpa using hend); have HS : Hid (qB9 s endc i = .bad 3 k) := Lib.hid (by rw [hkm, if_neg h44, if_neg hend]); clear hkm h44 hend; go_enter Tryz.func94, Tryz.ntmps94
        go_wp2_with (first
      | (go_at_call 50; (with_reducible refine (qAa HR hi hs).mono ?_); rintro e w2 ⟨rfl, hr, hm⟩; rw [← HK.out] at hr; clear hi; have hi : k + 1 ≤ s.size := (by omega); replace HR := hr; replace HM := HM.trans hm; clear hr hm; have c0 := HR.c0; have c1 := HR.c1; have f1 := HR.f1)
      | (go_at_call 72; (with_reducible refine (qDo HR hlt).mono ?_); rintro e w2 ⟨rfl, m, rfl⟩; replace HR := HR.drewN m; replace HM := HM.trans (qAr r _ m); clear c0 c1 f1; have c0 := HR.c0; have c1 := HR.c1; have f1 := HR.f1)
      | ((with_reducible refine qAF ?_); refine qAl rfl (.tmp 25) (.tmp 23) rfl rfl (k + 1) (by rfl) HR ?_; intro w4 hr hm; clear c0 c1 f1; replace HR := hr; replace HM := HM.trans hm; clear hr hm; have c0 := HR.c0; have c1 := HR.c1; have f1 := HR.f1)
      | ((with_reducible refine qAF ?_); refine qAl rfl (.tmp 40) (.tmp 38) rfl rfl (k + 1) (by rfl) HR ?_; intro w4 hr hm; clear c0 c1 f1; replace HR := hr; replace HM := HM.trans hm; clear hr hm; have c0 := HR.c0; have c1 := HR.c1; have f1 := HR.f1)
      | (go_at_call 50; (with_reducible refine (qAa HR hi hs).mono ?_); rintro e w2 ⟨rfl, hr, hm⟩; clear c0 c1 f1; replace HR := hr; replace HM := HM.trans hm; clear hr hm; have c0 := HR.c0; have c1 := HR.c1; have f1 := HR.f1)
      | (go_at_call 73; (with_reducible refine (qAj _ _ HR).mono ?_); rintro e w3 ⟨rfl, hr, hm⟩; clear c0 c1 f1; replace HR := hr; replace HM := HM.trans hm))
        go_ret; exact qBL.bad HS.out HM rfl (by decide) HR
  · have HS : Hid (qB9 s endc i = .bad 3 k) := Lib.hid (by rw [hkm, qBb (by omega), if_neg (by decide), if_neg (by omega)]); clear hkm; go_enter Tryz.func94, Tryz.ntmps94
    go_wp2_with (first
      | (go_at_call 50; (with_reducible refine (qAa HR hi hs).mono ?_); rintro e w2 ⟨rfl, hr, hm⟩; rw [← HK.out] at hr; clear hi; replace HR := hr; replace HM := HM.trans hm; clear hr hm; have c0 := HR.c0; have c1 := HR.c1; have f1 := HR.f1)
      | (go_at_call 72; (with_reducible refine (qFh HR hlt).mono ?_); rintro e w2 ⟨rfl, m, rfl⟩; replace HR := HR.drewN m; replace HM := HM.trans (qAr r _ m); clear c0 c1 f1; have c0 := HR.c0; have c1 := HR.c1; have f1 := HR.f1)
      | ((with_reducible refine qAF ?_); refine qAl rfl (.tmp 25) (.tmp 23) rfl rfl (k + 1) (by rfl) HR ?_; intro w4 hr hm; clear c0 c1 f1; replace HR := hr; replace HM := HM.trans hm; clear hr hm; have c0 := HR.c0; have c1 := HR.c1; have f1 := HR.f1)
      | ((with_reducible refine qAF ?_); refine qAl rfl (.tmp 40) (.tmp 38) rfl rfl (k + 1) (by rfl) HR ?_; intro w4 hr hm; clear c0 c1 f1; replace HR := hr; replace HM := HM.trans hm; clear hr hm; have c0 := HR.c0; have c1 := HR.c1; have f1 := HR.f1)
      | (go_at_call 50; (with_reducible refine (qAa HR hi hs).mono ?_); rintro e w2 ⟨rfl, hr, hm⟩; clear c0 c1 f1; replace HR := hr; replace HM := HM.trans hm; clear hr hm; have c0 := HR.c0; have c1 := HR.c1; have f1 := HR.f1)
      | (go_at_call 73; (with_reducible refine (qAj _ _ HR).mono ?_); rintro e w3 ⟨rfl, hr, hm⟩; clear c0 c1 f1; replace HR := hr; replace HM := HM.trans hm))
    go_ret; exact qBL.bad HS.out HM rfl (by decide) HR
end Go.Proofs.YtnjhmnolngdfaaaGreatDoor
