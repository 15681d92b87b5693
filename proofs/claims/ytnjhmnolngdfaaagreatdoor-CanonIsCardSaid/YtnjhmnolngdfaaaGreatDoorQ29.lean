/- Layer 3: the document's Is, and the law CanonIs, which answers true. The frame of a law's statement: a row's post, where the call only laid new blocks. From a row's reading of its arguments to what -/
import Derived.Test.YtnjhmnolngdfaaaGreatDoorQ23
import Derived.Test.YtnjhmnolngdfaaaGreatDoorQ28
import Derived.Test.YtnjhmnolngdfaaaGreatDoorQ19
import Derived.OpenShut
import Derived.ShutString
import Derived.HandedShaped
import Derived.Test.YtnjhmnolngdfaaaGreatDoorRows
import Derived.ChangeArms
import Derived.WideKeyArgs
import Derived.Test.YtnjhmnolngdfaaaGreatDoorCards
import Derived.Test.YtnjhmnolngdfaaaGreatDoorTie
import Derived.PinnedBridge
import Derived.Lib.LaidU8T
import Derived.LaidHandle
import Derived.LaidLaws
import Derived.Lay
import Derived.SevenTiedAt
import Derived.Test.YtnjhmnolngdfaaaGreatDoorQ00
import Derived.Test.YtnjhmnolngdfaaaGreatDoorQ09
import Derived.Test.YtnjhmnolngdfaaaGreatDoorQ17
import Derived.Test.YtnjhmnolngdfaaaGreatDoorQZip
set_option linter.unusedVariables false
set_option linter.unusedSimpArgs false
set_option maxHeartbeats 16000000
set_option maxRecDepth 100000
namespace Go.Proofs.YtnjhmnolngdfaaaGreatDoor
open Go.RowKit Go.PlainAid
theorem qNd {s : ByteArray} {w : World} (hr : s.size ≤ qAy) : Calls Tryz.prog 14 #[.string s] w fun e w' => e = .returned (.bool (isS s)) ∧ Below w.heap.size w w' := by
 have HB := Below.refl w.heap.size w
 by_cases h65 : 65536 < s.size
 ·have HF := Lib.hid (show isS s = false by unfold isS; rw [if_pos h65]); have H65 := Lib.hid h65; clear h65; go_enter Tryz.func14, Tryz.ntmps14
  go_wp2_with fail
  refine (qDa hr).mono ?_; rintro e wp ⟨hb, hp⟩; rw [if_pos H65.out] at hp; subst hp; replace HB := zT HB hb; clear hb; have L0 := HB.size
  go_wp2_with (first
   | ((with_reducible refine qAG ?_); refine qAE (o := ⟨some 3, _, _, _, _, _⟩) rfl 25 rfl _ qAY ?_; intro w3 hw; have hb := qAD hw; have B3 := qAI hw; replace HB := zT HB hb; (try replace HJ := HJ.below hb); (try replace B4 := zI B4 hb); clear hb hw; have L3 := qAW.lt B3)
   | ((with_reducible refine qAG ?_); refine qAE (o := ⟨some 4, _, _, _, _, _⟩) rfl 59 rfl _ qDS ?_; intro w4 hw; have hb := qAD hw; have B4 := qAI hw; replace HB := zT HB hb; (try replace HJ := HJ.below hb); (try replace B3 := zI B3 hb); clear hb hw; have L4 := qAW.lt B4)
   | ((with_reducible refine qAF ?_); refine qAH rfl 25 (.tmp 3) (.tmp 10) rfl _ JV.zero.cells rfl rfl _ _ B3 qAA rfl (qAP _) ?_; intro w13 hw; have hq := qAN hw (show w.heap.size ≤ wp.heap.size by omega) HB; replace HB := hq.1; replace B3 := qAQ hw B3; replace B4 := qAu hw (by omega) B4; clear hq hw)
   | ((with_reducible refine qAF ?_); refine qAH rfl 59 (.tmp 4) (.tmp 11) rfl _ #[.int .i64 2, .int .i64 (-1)] rfl rfl _ _ B4 qBx rfl (qDN _ _) ?_; intro w14 hw; have hq := qAN hw (show w.heap.size ≤ w3.heap.size by omega) HB; replace HB := hq.1; replace B4 := qAQ hw B4; replace B3 := qAu hw (by omega) B3; have c4_0 : w14.cell? ⟨w3.heap.size, 0, none⟩ = some (.int .i64 2) := B4.cell 0; clear hq hw))
  go_ret; exact ⟨qA5 HF.out.symm, HB⟩
 ·have H65 := Lib.hid h65
  cases hp0 : qBZ s with
  | bad c p =>
   have HF := Lib.hid (show isS s = false by unfold isS; rw [if_neg h65, hp0]); have hc : 3 ≤ c := (qL6 _ _ hp0).1; (have hcb : (c == 0) = false := by simp; omega); have HP0 := Lib.hid hp0; clear hp0 h65 hc; go_enter Tryz.func14, Tryz.ntmps14
   go_wp2_with fail
   refine (qDa hr).mono ?_; rintro e wp ⟨hb, hp⟩; rw [if_neg H65.out, HP0.out] at hp; subst hp; replace HB := zT HB hb; clear hb; have L0 := HB.size
   go_wp2_with (first
    | ((with_reducible refine qAG ?_); refine qAE (o := ⟨some 3, _, _, _, _, _⟩) rfl 25 rfl _ qAY ?_; intro w3 hw; have hb := qAD hw; have B3 := qAI hw; replace HB := zT HB hb; (try replace HJ := HJ.below hb); (try replace B4 := zI B4 hb); clear hb hw; have L3 := qAW.lt B3)
    | ((with_reducible refine qAG ?_); refine qAE (o := ⟨some 4, _, _, _, _, _⟩) rfl 59 rfl _ qDS ?_; intro w4 hw; have hb := qAD hw; have B4 := qAI hw; replace HB := zT HB hb; (try replace HJ := HJ.below hb); (try replace B3 := zI B3 hb); clear hb hw; have L4 := qAW.lt B4)
    | ((with_reducible refine qAF ?_); refine qAH rfl 25 (.tmp 3) (.tmp 10) rfl _ JV.zero.cells rfl rfl _ _ B3 qAA rfl (qAP _) ?_; intro w13 hw; have hq := qAN hw (show w.heap.size ≤ wp.heap.size by omega) HB; replace HB := hq.1; replace B3 := qAQ hw B3; replace B4 := qAu hw (by omega) B4; clear hq hw)
    | ((with_reducible refine qAF ?_); refine qAH rfl 59 (.tmp 4) (.tmp 11) rfl _ #[.int .i64 c, .int .i64 p] rfl rfl _ _ B4 qBx rfl (qDN _ _) ?_; intro w14 hw; have hq := qAN hw (show w.heap.size ≤ w3.heap.size by omega) HB; replace HB := hq.1; replace B4 := qAQ hw B4; replace B3 := qAu hw (by omega) B3; have c4_0 : w14.cell? ⟨w3.heap.size, 0, none⟩ = some (.int .i64 c) := B4.cell 0; clear hq hw))
   go_ret; exact ⟨qA5 HF.out.symm, HB⟩
  | ok t k =>
   have HZT := Lib.hid (qJR (by omega) hp0); have HP0 := Lib.hid hp0; obtain ⟨⟨c, l⟩, hs⟩ : ∃ p, qBz t = p := ⟨_, rfl⟩; have HS0 := Lib.hid hs; have HF := Lib.hid (show isS s = (c == 0 && l == s.data.toList) by unfold isS; rw [if_neg h65, hp0]; simp only [hs]); clear hp0 h65 hs; cases hcb : (c == 0)
   ·go_enter Tryz.func14, Tryz.ntmps14
    go_wp2_with fail
    refine (qDa hr).mono ?_; rintro e wp ⟨hb, hp⟩; rw [if_neg H65.out, HP0.out] at hp; obtain ⟨j, hp, HJ, hej⟩ := hp; subst hp; replace HB := zT HB hb; clear hb; have L0 := HB.size; have HOJ := Lib.hid (qCD HJ); have HS : Hid (qBz (er j) = (c, l)) := Lib.hid (by rw [hej]; exact HS0.out); have HZ : Hid (SzT (er j) ≤ 1048576) := Lib.hid (by rw [hej]; exact HZT.out); clear hej
    go_wp2_with (first
     | ((with_reducible refine qAG ?_); refine qAE (o := ⟨some 3, _, _, _, _, _⟩) rfl 25 rfl _ qAY ?_; intro w3 hw; have hb := qAD hw; have B3 := qAI hw; replace HB := zT HB hb; (try replace HJ := HJ.below hb); (try replace B4 := zI B4 hb); clear hb hw; have L3 := qAW.lt B3)
     | ((with_reducible refine qAG ?_); refine qAE (o := ⟨some 4, _, _, _, _, _⟩) rfl 59 rfl _ qDS ?_; intro w4 hw; have hb := qAD hw; have B4 := qAI hw; replace HB := zT HB hb; (try replace HJ := HJ.below hb); (try replace B3 := zI B3 hb); clear hb hw; have L4 := qAW.lt B4)
     | ((with_reducible refine qAF ?_); refine qAH rfl 25 (.tmp 3) (.tmp 10) rfl _ j.cells rfl rfl _ _ B3 qAA rfl (qAP _) ?_; intro w13 hw; have hq := qAN hw (show w.heap.size ≤ wp.heap.size by omega) HB; replace HB := hq.1; replace B3 := qAQ hw B3; replace B4 := qAu hw (by omega) B4; replace HJ := qAi.bes (Bes.row (X := fun q => q = wp.heap.size) hw rfl) HJ (Off.mono (fun q e => by have e2 : q = wp.heap.size := e; show wp.heap.size ≤ q; omega) HOJ.out); clear hq hw)
     | ((with_reducible refine qAF ?_); refine qAH rfl 59 (.tmp 4) (.tmp 11) rfl _ #[.int .i64 0, .int .i64 0] rfl rfl _ _ B4 qBx rfl (qDN _ _) ?_; intro w14 hw; have hq := qAN hw (show w.heap.size ≤ w3.heap.size by omega) HB; replace HB := hq.1; replace B4 := qAQ hw B4; replace B3 := qAu hw (by omega) B3; replace HJ := qAi.bes (Bes.row (X := fun q => q = w3.heap.size) hw rfl) HJ (Off.mono (fun q e => by have e2 : q = w3.heap.size := e; show wp.heap.size ≤ q; omega) HOJ.out); have c4_0 : w14.cell? ⟨w3.heap.size, 0, none⟩ = some (.int .i64 0) := B4.cell 0; clear hq hw)
     | ((with_reducible refine qAR ?_); refine qAL rfl 25 (.tmp 3) rfl _ rfl _ _ _ B3 Tryz.underlying25 rfl qAA ?_))
    refine (qGI HJ HZ.out).mono ?_; intro e w16 hnm; obtain ⟨he, hb⟩ := RwV.get HS.out hnm; subst he; clear hnm; replace HB := zT HB hb
    (try replace HJ := HJ.below hb)
    (try replace B3 := zI B3 hb)
    (try replace B4 := zI B4 hb)
    clear hb; go_wp2; go_ret; exact ⟨qA5 (by rw [HF.out]; first | rfl | (rw [qBN]; done) | (rw [qBN]; rfl) | (simp [qBN]; done) | (rw [qBN, qBN]; rfl) | (simp_all [qBN]; done)), HB⟩
   ·go_enter Tryz.func14, Tryz.ntmps14
    go_wp2_with fail
    refine (qDa hr).mono ?_; rintro e wp ⟨hb, hp⟩; rw [if_neg H65.out, HP0.out] at hp; obtain ⟨j, hp, HJ, hej⟩ := hp; subst hp; replace HB := zT HB hb; clear hb; have L0 := HB.size; have HOJ := Lib.hid (qCD HJ); have HS : Hid (qBz (er j) = (c, l)) := Lib.hid (by rw [hej]; exact HS0.out); have HZ : Hid (SzT (er j) ≤ 1048576) := Lib.hid (by rw [hej]; exact HZT.out); clear hej
    go_wp2_with (first
     | ((with_reducible refine qAG ?_); refine qAE (o := ⟨some 3, _, _, _, _, _⟩) rfl 25 rfl _ qAY ?_; intro w3 hw; have hb := qAD hw; have B3 := qAI hw; replace HB := zT HB hb; (try replace HJ := HJ.below hb); (try replace B4 := zI B4 hb); clear hb hw; have L3 := qAW.lt B3)
     | ((with_reducible refine qAG ?_); refine qAE (o := ⟨some 4, _, _, _, _, _⟩) rfl 59 rfl _ qDS ?_; intro w4 hw; have hb := qAD hw; have B4 := qAI hw; replace HB := zT HB hb; (try replace HJ := HJ.below hb); (try replace B3 := zI B3 hb); clear hb hw; have L4 := qAW.lt B4)
     | ((with_reducible refine qAF ?_); refine qAH rfl 25 (.tmp 3) (.tmp 10) rfl _ j.cells rfl rfl _ _ B3 qAA rfl (qAP _) ?_; intro w13 hw; have hq := qAN hw (show w.heap.size ≤ wp.heap.size by omega) HB; replace HB := hq.1; replace B3 := qAQ hw B3; replace B4 := qAu hw (by omega) B4; replace HJ := qAi.bes (Bes.row (X := fun q => q = wp.heap.size) hw rfl) HJ (Off.mono (fun q e => by have e2 : q = wp.heap.size := e; show wp.heap.size ≤ q; omega) HOJ.out); clear hq hw)
     | ((with_reducible refine qAF ?_); refine qAH rfl 59 (.tmp 4) (.tmp 11) rfl _ #[.int .i64 0, .int .i64 0] rfl rfl _ _ B4 qBx rfl (qDN _ _) ?_; intro w14 hw; have hq := qAN hw (show w.heap.size ≤ w3.heap.size by omega) HB; replace HB := hq.1; replace B4 := qAQ hw B4; replace B3 := qAu hw (by omega) B3; replace HJ := qAi.bes (Bes.row (X := fun q => q = w3.heap.size) hw rfl) HJ (Off.mono (fun q e => by have e2 : q = w3.heap.size := e; show wp.heap.size ≤ q; omega) HOJ.out); have c4_0 : w14.cell? ⟨w3.heap.size, 0, none⟩ = some (.int .i64 0) := B4.cell 0; clear hq hw)
     | ((with_reducible refine qAR ?_); refine qAL rfl 25 (.tmp 3) rfl _ rfl _ _ _ B3 Tryz.underlying25 rfl qAA ?_))
    refine (qGI HJ HZ.out).mono ?_; intro e w16 hnm; obtain ⟨he, hb⟩ := RwV.get HS.out hnm; subst he; clear hnm; replace HB := zT HB hb
    (try replace HJ := HJ.below hb)
    (try replace B3 := zI B3 hb)
    (try replace B4 := zI B4 hb)
    clear hb; go_wp2; go_ret; exact ⟨qA5 (by rw [HF.out]; first | rfl | (rw [qBN]; done) | (rw [qBN]; rfl) | (simp [qBN]; done) | (rw [qBN, qBN]; rfl) | (simp_all [qBN]; done)), HB⟩
theorem qPl {s : ByteArray} {w : World} (hr : s.size ≤ qAy) (hW : Wc w) : Calls Tryz.prog 4 #[.string s] w fun e w' => e = .returned (.bool true) ∧ Below w.heap.size w w' := by
  have HW := Lib.hid hW; have HB := Below.refl w.heap.size w; clear hW; obtain ⟨sb, hsb⟩ : ∃ b, b = isS s := ⟨_, rfl⟩; have HSB := Lib.hid hsb.symm; clear hsb; go_enter Tryz.func4, Tryz.ntmps4
  go_wp2_with fail
  refine (qKi (Wc.below HB HW.out)).mono ?_; rintro e w2 ⟨rfl, hb⟩; replace HB := zT HB hb; clear hb
  go_wp2_with fail
  refine (qIR (Wc.below HB HW.out) hr).mono ?_; rintro e w3 ⟨rfl, hb⟩; rw [HSB.out]; replace HB := zT HB hb; clear hb
  go_wp2_with fail
  refine (qNd hr).mono ?_; rintro e w4 ⟨rfl, hb⟩; rw [HSB.out]; replace HB := zT HB hb; clear hb; go_wp2; go_ret; exact ⟨rfl, HB⟩
end Go.Proofs.YtnjhmnolngdfaaaGreatDoor
namespace Go.Proofs.YtnjhmnolngdfaaaGreatDoor
section
open Go.RowKit
variable {H : Type} {enc : TypeId × Value → H} {P : Program}
theorem qGr {f : Func} {s : ChangeSpec} {apart fresh handsOn : Bool} {W W' : World} {args : Array Value} {v : Value} {ds gs : List (DataW H)} {before pa pv : List MemPlace}
    (hW : DataW.Whole enc P f.params.toList s.vars apart W args.toList ds gs before)
    (hres : ∀ (b : Nat) (sp : Nat → Bool) (hd : Bool), DataW.TrodAll enc P W' b sp hd f.resultTypes.toList (v.resultList f.resultTypes.size) (s.fn H (ds ++ gs)).results [])
    (hargs : ∀ sp : Nat → Bool, (∀ p ∈ before, sp p.block = true) → DataW.TrodAll enc P W' 0 sp true f.params.toList args.toList (s.fn H (ds ++ gs)).args pa)
    (hvars : ∀ sp : Nat → Bool, (∀ p ∈ before, sp p.block = true) → DataW.TrodVars enc P W' sp s.vars (s.fn H (ds ++ gs)).vars pv)
    (hps : before = pa ++ pv) (hb : Below W.heap.size W W') : s.post enc P f apart fresh handsOn false W args v W' := by
  (have hold : ∀ p ∈ before, (fun b => decide (b < W.heap.size)) p.block = true := fun p hp => by simpa using hW.lt p hp); refine ⟨ds, gs, before, [], pa, pv, hW, hres _ _ _, hargs _ hold, hvars _ hold, World.keptBut_mono (fun p hp => ⟨hp, ?_⟩) (hb.frame (· ∈ before)), fun h => by cases h⟩; rw [hps, List.mem_append] at hp; exact Or.inr hp
theorem own : ownKnob Tryz.prog.godebug = none := by kernel_rfl
end
end Go.Proofs.YtnjhmnolngdfaaaGreatDoor
namespace Go.Proofs.YtnjhmnolngdfaaaGreatDoor
section
open Go.RowKit
section
variable {w : World}
end
section
variable {H : Type} {enc : TypeId × Value → H} {w : World} {sp : Nat → Bool} {hd : Bool}
def qQT (t : TypeId) (d : DataW H) : Prop := ∀ k ∈ d.weights Tryz.prog t, k ≤ reachBytes
end
section
variable {H : Type} {enc : TypeId × Value → H} {w : World}
end
end
end Go.Proofs.YtnjhmnolngdfaaaGreatDoor
namespace Go.Proofs.YtnjhmnolngdfaaaGreatDoor
section
open Go.RowKit Go.Shelf Go.Lib
theorem qHZ {P : Program} {l : List (String × DataW Unit)} {W : World} (h : laidMetH P l W) : laidMet P (l.filter fun x => x.2.handleName?.isNone) W ∧ handlesMet P (l.filter fun x => x.2.handleName?.isSome) W := by
 unfold laidMetH at h; generalize hf : (l.filter fun x => x.2.handleName?.isSome) = fl at h
 cases fl with
 | nil =>
  have e : (l.filter fun x => x.2.handleName?.isNone) = l := by
   rw [List.filter_eq_self]; intro x hx
   cases hn : x.2.handleName? with
   | none => rfl
   | some y =>
    have := List.filter_eq_nil_iff.1 hf x hx; rw [hn] at this; simp at this
  rw [e]; exact ⟨h, fun x hx => by cases hx⟩
 | cons a r => exact h
theorem qDk {l : List (String × DataW Unit)} {n : String} {d : DataW Unit} (hm : (n, d) ∈ l) (hd : d.handleName?.isNone = true) : (n, d) ∈ l.filter fun x => x.2.handleName?.isNone := List.mem_filter.2 ⟨hm, hd⟩
abbrev qPa : Ren := ⟨fun x => x, fun k => if k = 5 then 5 else if k = 119 then 152 else if k = 138 then 154 else 155, fun k => if k = 3 then 1 else 2⟩
theorem qOO : U8Types Tryz.prog qPa := ⟨Tryz.underlying5, Tryz.underlying152, Tryz.underlying154, Tryz.underlying155⟩
theorem qOQ : U8Extra Tryz.prog qPa := ⟨by kernel_rfl, by kernel_rfl, by kernel_rfl, by kernel_rfl, by kernel_rfl, by kernel_rfl, by kernel_rfl⟩
theorem qKx : (Rows.laid_unicode_utf8_acceptRanges : DataW Unit) = acceptData := by kernel_rfl
theorem qNM {W : World} {n nm : String} {g : Nat} {d : DataW Unit} (hg : Tryz.prog.globalNamed n = some g) (ht : (Tryz.prog.globals[g]?).map (·.type) = some 28) (h : VarReads Tryz.prog W n (.iface nm d)) : qFx W g := by
  obtain ⟨g', t, cs, fuel, p, h1, h2, h3, h4⟩ := h; obtain rfl := Option.some.inj (hg.symm.trans h1); obtain rfl := Option.some.inj (ht.symm.trans h2); obtain ⟨f1, u, v, e, _⟩ := iface_of_trod Tryz.underlying28 h4; refine ⟨.iface u v, ?_, .inr ⟨u, v, rfl⟩⟩; rw [World.var?_cell h1 h3 0, ← Array.getElem?_toList, e]; rfl
abbrev LL : List (String × DataW Unit) := [("math/bits.deBruijn32tab", Rows.laid_math_bits_deBruijn32tab), ("math/bits.deBruijn64tab", Rows.laid_math_bits_deBruijn64tab), ("internal/strconv.uint64pow10", Rows.laid_internal_strconv_uint64pow10), ("unicode/utf8.acceptRanges", Rows.laid_unicode_utf8_acceptRanges), ("strconv.ErrRange", Rows.laid_strconv_ErrRange), ("strconv.ErrSyntax", Rows.laid_strconv_ErrSyntax), ("unicode/utf8.first", Rows.laid_unicode_utf8_first)]
theorem qP5 {W : World} (h : laidMetH Tryz.prog LL W) : Gl W W.heap.size := by
  obtain ⟨h1, h2⟩ := qHZ h; have r1 := laidMet.reads h1 (qDk (show ("unicode/utf8.first", Rows.laid_unicode_utf8_first) ∈ LL by simp [LL]) (by kernel_rfl)); have r2 := laidMet.reads h1 (qDk (show ("unicode/utf8.acceptRanges", Rows.laid_unicode_utf8_acceptRanges) ∈ LL by simp [LL]) (by kernel_rfl)); have r3 := laidMet.reads h1 (qDk (show ("strconv.ErrSyntax", Rows.laid_strconv_ErrSyntax) ∈ LL by simp [LL]) (by kernel_rfl)); have r4 := laidMet.reads h1 (qDk (show ("strconv.ErrRange", Rows.laid_strconv_ErrRange) ∈ LL by simp [LL]) (by kernel_rfl)); have hT : Lib.Utf8Tabs 1 2 W := utf8Tabs_of_readsT qOO qOQ (Pinned.utf8First_eq ▸ r1) (qKx ▸ r2); have E1 : qFx W 4 := qNM (by kernel_rfl) (by kernel_rfl) r3; have E2 : qFx W 5 := qNM (by kernel_rfl) (by kernel_rfl) r4; (have lt : ∀ {g k : Nat} {v : Value}, W.cell? ⟨g, k, none⟩ = some v → g < W.heap.size := fun hc => World.block_lt_of_cell? W _ hc); obtain ⟨v3, c3, _⟩ := id E1; obtain ⟨v4, c4, _⟩ := id E2; exact ⟨E1, E2, hT, lt c3, lt c4, lt (hT.1 0 (by decide)), lt (hT.2 0 (by decide)).1⟩
theorem qO2 : (Rows.laid_internal_strconv_uint64pow10 : DataW Unit) = Lib.tabData .u64 Lib.pow10Tab := by kernel_rfl
def qNR : List Int := [0, 1, 56, 2, 57, 49, 28, 3, 61, 58, 42, 50, 38, 29, 17, 4, 62, 47, 59, 36, 45, 43, 51, 22, 53, 39, 33, 30, 24, 18, 12, 5, 63, 55, 48, 27, 60, 41, 37, 16, 46, 35, 44, 21, 52, 32, 23, 11, 54, 26, 40, 15, 34, 20, 31, 10, 25, 14, 19, 9, 13, 8, 7, 6]
theorem qOv : (Rows.laid_math_bits_deBruijn64tab : DataW Unit) = Lib.tabData .u8 qNR := by kernel_rfl
theorem qP0 {W : World} (h : laidMetH Tryz.prog LL W) : Wc W := by
  obtain ⟨h1, _⟩ := qHZ h; have r := laidMet.reads h1 (qDk (show ("internal/strconv.uint64pow10", Rows.laid_internal_strconv_uint64pow10) ∈ LL by simp [LL]) (by kernel_rfl)); obtain ⟨g', t', cs, fuel, p, hg', ht', hvar, hd⟩ := r; obtain rfl := Option.some.inj ((show Tryz.prog.globalNamed "internal/strconv.uint64pow10" = some 3 by kernel_rfl).symm.trans hg'); obtain rfl := Option.some.inj ((show (Tryz.prog.globals[3]?).map (·.type) = some 166 by kernel_rfl).symm.trans ht'); rw [qO2] at hd; have hc := Lib.cells_of_tab (n := 20) Tryz.underlying166 Tryz.underlying119 (by kernel_rfl) (by kernel_rfl) hd
  have hW : qL4 W := by
    show W.var? Tryz.prog "internal/strconv.uint64pow10" = _; rw [hvar, ← hc]
  have r2 := laidMet.reads h1 (qDk (show ("math/bits.deBruijn64tab", Rows.laid_math_bits_deBruijn64tab) ∈ LL by simp [LL]) (by kernel_rfl)); obtain ⟨g', t', cs2, fuel2, p2, hg', ht', hvar2, hd2⟩ := r2; obtain rfl := Option.some.inj ((show Tryz.prog.globalNamed "math/bits.deBruijn64tab" = some 7 by kernel_rfl).symm.trans hg'); obtain rfl := Option.some.inj ((show (Tryz.prog.globals[7]?).map (·.type) = some 185 by kernel_rfl).symm.trans ht'); rw [qOv] at hd2; have hc2 := Lib.cells_of_tab (n := 64) Tryz.underlying185 Tryz.underlying5 (by kernel_rfl) (by kernel_rfl) hd2
  have hW2 : Lib.TabIs Tryz.prog W "math/bits.deBruijn64tab" .u8 qNR := by
    show W.var? Tryz.prog "math/bits.deBruijn64tab" = _; rw [hvar2, ← hc2]
  have c0 := Lib.TabIs.cell hW (g := 3) (by kernel_rfl) 0 (by decide); have hlt := World.block_lt_of_cell? W _ c0; have d0 := Lib.TabIs.cell hW2 (g := 7) (by kernel_rfl) 15 (by decide); have dlt : 7 < W.heap.size := World.block_lt_of_cell? W _ d0; refine ⟨qP5 h, fun W' hb => ⟨?_, ?_⟩, dlt⟩
  · show W'.var? Tryz.prog "internal/strconv.uint64pow10" = _; rw [← show W.var? Tryz.prog "internal/strconv.uint64pow10" = _ from hW]; have hb2 := hb.block 3 hlt; unfold World.var?; rw [show Tryz.prog.globalNamed "internal/strconv.uint64pow10" = some 3 by kernel_rfl]; simp [hb2]
  · exact qAB hb d0
noncomputable def laidW (os : Os) : World := (World.holding Tryz.prog os ⟨#[], #[], []⟩).layVars Tryz.prog LL
theorem qM3 (os : Os) : (laidW os).os = os := World.layVars_os _ _ _
theorem qHR (os : Os) : (laidW os).Shaped Tryz.prog := World.shaped_of_ZipB (by kernel_rfl) (by kernel_rfl)
theorem qP4 : (LL.filter fun x => x.2.handleName?.isNone) = LL := by kernel_rfl
theorem qK5 (os : Os) : laidMet Tryz.prog LL (laidW os) := by
  (have e1 : (LL.filter fun x => (LL.map (·.1)).contains x.1) = LL := List.filter_eq_self.2 fun x hx => List.contains_iff_mem.2 (List.mem_map.2 ⟨x, hx, rfl⟩)); (have e2 : (LL.filter fun x => !(LL.map (·.1)).contains x.1) = [] := List.filter_eq_nil_iff.2 fun x hx => by rw [List.contains_iff_mem.2 (List.mem_map.2 ⟨x, hx, rfl⟩)]; simp); exact laidMet_layVars (w0 := World.holding Tryz.prog os ⟨#[], #[], []⟩) (LL.map (·.1)) [] (by rw [e1]; rfl) (by rw [e1]; kernel_rfl) (by rw [e1]; kernel_rfl) (by rw [e2]; exact LaidIn.none)
theorem qMu (os : Os) (args : Array Value) : laidMetH Tryz.prog LL ((laidW os).forCall (fun _ _ => 0) ⟨#[], args, []⟩).memory := by
  refine laidMetH_of_parts (l := LL) ?_ (by kernel_rfl); rw [qP4]; exact (qK5 os).of_heap (by simp [World.memory, World.forCall, Input.heap])
end
end Go.Proofs.YtnjhmnolngdfaaaGreatDoor
