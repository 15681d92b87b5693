/- Layer 3: the one form of a value, by the document (coveyref03.Normed): whole. The document's layer 2: how many values a value holds, exactly (coveyref02.Count). Layer 3, the document's: are an obje -/
import Derived.Test.YtnjhmnolngdfaaaGreatDoorQ19
import Derived.Test.YtnjhmnolngdfaaaGreatDoorQ20
import Derived.Test.YtnjhmnolngdfaaaGreatDoorQ21
import Derived.Test.YtnjhmnolngdfaaaGreatDoorQ11
import Derived.Test.YtnjhmnolngdfaaaGreatDoorQZip
set_option linter.unusedVariables false
set_option linter.unusedSimpArgs false
set_option maxHeartbeats 16000000
set_option maxRecDepth 100000
namespace Go.Proofs.YtnjhmnolngdfaaaGreatDoor
open Go.RowKit Go.PlainAid
theorem qLS (sz : Nat) : ∀ (j : JV) (w : World), SizeOf.sizeOf j < sz → qAi w j → SzT (er j) ≤ 1048576 → qKm (er j) → Calls Tryz.prog 29 #[.agg j.cells] w (NdV j w) := by
  induction sz with
  | zero => intro j w h; omega
  | succ sz ih =>
    intro j w hsz HJ hs hse; have IH : Hid (∀ (x : JV) (w : World), SizeOf.sizeOf x < SizeOf.sizeOf j → qAi w x → SzT (er x) ≤ 1048576 → qKm (er x) → Calls Tryz.prog 29 #[.agg x.cells] w (NdV x w)) := Lib.hid fun x w h => ih x w (by omega)
    by_cases h4 : j.v.kind = 4
    · exact qOf HJ hs hse IH h4
    · by_cases h5 : j.v.kind = 5
      · exact qPV HJ hs hse IH h5
      · exact qLD HJ hs h4 h5
theorem qF2 {j : JV} {w : World} (HJ : qAi w j) (hs : SzT (er j) ≤ 1048576) (hse : qKm (er j)) : Calls Tryz.prog 29 #[.agg j.cells] w (NdV j w) := qLS _ j w (Nat.lt_succ_self _) HJ hs hse
end Go.Proofs.YtnjhmnolngdfaaaGreatDoor
namespace Go.Proofs.YtnjhmnolngdfaaaGreatDoor
open Go.RowKit Go.PlainAid
def qQC (j : JV) (n : Int) (w : World) (e : Ending) (w' : World) : Prop := e = .returned (.int .i64 (qDz (er j) n)) ∧ Below w.heap.size w w'
theorem qKl {l : List JV} {q : Nat} {r : Int} (h : l.length ≤ q) : qDs ((erL l).drop q) r = r := by
  rw [List.drop_eq_nil_of_le (by rw [qBj]; exact h)]; unfold qDs; rfl
theorem qP2 (sz : Nat) : ∀ (j : JV) (n : Int) (w : World), SizeOf.sizeOf j < sz → qAi w j → 0 ≤ n → n ≤ 65536 →
    Calls Tryz.prog 46 #[.agg j.cells, .int .i64 n] w (qQC j n w) := by
  induction sz with
  | zero => intro j n w h; omega
  | succ sz ih =>
    intro j n w hsz HJ hn0 hn1; obtain ⟨l1, l2, l3, l4, l5⟩ := qCI HJ; have LL := Lib.hid l1; have LV := Lib.hid l2; have SZ := Lib.hid hsz; have IH := Lib.hid ih; have HC := Lib.hid (qKw j n); clear ih l1 l2 l3 hsz; have HB := Below.refl w.heap.size w
    by_cases hk4 : j.v.kind = 4
    · have HKD := Lib.hid hk4; have HK : Hid (qDz (er j) n = qDs (erL j.l) (n + 1)) := Lib.hid (by rw [HC.out]; simp [hk4]); clear hk4; go_enter Tryz.func46, Tryz.ntmps46
      go_wp2_with (first
        | (refine qAM rfl 25 (.tmp 0) rfl _ rfl ?_; intro w1 hw; have hb := qAD hw; have B2 := (qAC hw).1; replace HB := zT HB hb; replace HJ := HJ.below hb; clear hb hw; have c2_0 : w1.cell? ⟨_, 0, none⟩ = some (.int .i64 4) := (B2.cell 0).trans (by rw [← HKD.out]; rfl); have c2_4 : w1.cell? ⟨_, 4, none⟩ = some (.slice j.v.LA j.v.Ln j.v.Lc) := (B2.cell 4).trans (by rfl)))
      go_loopw [1, 5] (fun m i wr => ∃ (q : Nat) (r : Int), q ≤ j.v.Ln ∧ i = .int .i64 q ∧ m = .int .i64 r ∧ 0 ≤ r ∧ r ≤ 65537 ∧ Hid (qDs (erL j.l) (n + 1) = qDs ((erL j.l).drop q) r) ∧ Below w1.heap.size w1 wr) (fun m i _ => j.v.Ln - (intOf i).toNat)
      case atStart => exact ⟨0, n + 1, Nat.zero_le _, rfl, rfl, by omega, by omega, Lib.hid rfl, Below.refl _ _⟩
      case round =>
        obtain ⟨q, r, hq, rfl, rfl, hr0, hr1, HR, hb⟩ := hrel; have HBW := Lib.hid hb; replace HB := zT HB hb; replace HJ := HJ.below hb; replace c2_0 := qAB hb c2_0; replace c2_4 := qAB hb c2_4; clear hb
        by_cases hlt : q < j.v.Ln
        · by_cases hrn : r ≤ 65536
          · obtain ⟨bl, off, x, hA, hx, RX, HX⟩ := qDv HJ (show q < j.l.length by have := LL.out; omega); have HSZ := Lib.hid (show SizeOf.sizeOf x < sz by have := qFB hx; have := SZ.out; omega); have HST := Lib.hid (qD2 hx hrn); have hle := qFN (er x) r hrn; (have hbd : 0 ≤ (q : Int) ∧ (q : Int) < j.v.Ln := by omega); (have hlt2 : (q : Int) < j.v.Ln := by omega); rw [hA] at c2_4; clear hx hA
            go_wp2_with (first
              | ((with_reducible refine qAR ?_); refine qAX rfl 25 (.tmp 26) rfl _ _ rfl x.cells _ RX Tryz.underlying25 rfl qAA ?_)
              | (go_at_call 46; (refine (IH.out x r _ HSZ.out HX hr0 hrn).mono ?_); rintro e w3 ⟨rfl, hb⟩; replace HB := zT HB hb; replace HJ := HJ.below hb; replace c2_0 := qAB hb c2_0; replace c2_4 := qAB hb c2_4; (try replace HX := HX.below hb); (try replace RX := qBm hb RX); replace HBW := Lib.hid (HBW.out.trans (hb.mono HBW.out.size)); clear hb))
            go_roundw
            case rel => exact ⟨q + 1, qDz (er x) r, by omega, by go_num, rfl, by omega, hle.2, Lib.hid (HR.out.trans HST.out), HBW.out⟩
            case measure => simp [intOf]; omega
          · (have hlt2 : (q : Int) < j.v.Ln := by omega); (have hbd : 0 ≤ (q : Int) ∧ (q : Int) < j.v.Ln := by omega); go_wp2; go_ret; exact ⟨qBD (((qEB _ (by omega)).symm.trans HR.out.symm).trans HK.out.symm), HB⟩
        · (have hlt2 : ¬ (q : Int) < j.v.Ln := by omega); go_wp2; go_ret; exact ⟨qBD (((qKl (l := j.l) (q := q) (r := r) (by have := LL.out; omega)).symm.trans HR.out.symm).trans HK.out.symm), HB⟩
    · by_cases hk5 : j.v.kind = 5
      · have HKD := Lib.hid hk5; have HK : Hid (qDz (er j) n = qDs (erL j.vs) (n + 1)) := Lib.hid (by rw [HC.out]; simp [hk5]); clear hk4 hk5; go_enter Tryz.func46, Tryz.ntmps46
        go_wp2_with (first
          | (refine qAM rfl 25 (.tmp 0) rfl _ rfl ?_; intro w1 hw; have hb := qAD hw; have B2 := (qAC hw).1; replace HB := zT HB hb; replace HJ := HJ.below hb; clear hb hw; have c2_0 : w1.cell? ⟨_, 0, none⟩ = some (.int .i64 5) := (B2.cell 0).trans (by rw [← HKD.out]; rfl); have c2_5 : w1.cell? ⟨_, 5, none⟩ = some (.slice j.v.FA j.v.Fn j.v.Fc) := (B2.cell 5).trans (by rfl)))
        go_loopw [1, 6] (fun m i wr => ∃ (q : Nat) (r : Int), q ≤ j.v.Fn ∧ i = .int .i64 q ∧ m = .int .i64 r ∧ 0 ≤ r ∧ r ≤ 65537 ∧ Hid (qDs (erL j.vs) (n + 1) = qDs ((erL j.vs).drop q) r) ∧ Below w1.heap.size w1 wr) (fun m i _ => j.v.Fn - (intOf i).toNat)
        case atStart => exact ⟨0, n + 1, Nat.zero_le _, rfl, rfl, by omega, by omega, Lib.hid rfl, Below.refl _ _⟩
        case round =>
          obtain ⟨q, r, hq, rfl, rfl, hr0, hr1, HR, hb⟩ := hrel; have HBW := Lib.hid hb; replace HB := zT HB hb; replace HJ := HJ.below hb; replace c2_5 := qAB hb c2_5; clear hb
          by_cases hlt : q < j.v.Fn
          · by_cases hrn : r ≤ 65536
            · obtain ⟨bl, off, nm, x, hA, hx, hnx, n1, RX, HX⟩ := qEI HJ (show q < j.vs.length by have := LV.out; omega); have HSZ := Lib.hid (show SizeOf.sizeOf x < sz by have := qDu hx; have := SZ.out; omega); have HST := Lib.hid (qD2 hx hrn); have hle := qFN (er x) r hrn; (have hbd : 0 ≤ (q : Int) ∧ (q : Int) < j.v.Fn := by omega); (have hlt2 : (q : Int) < j.v.Fn := by omega); rw [hA] at c2_5; clear hx hA hnx n1
              go_wp2_with (first
                | ((with_reducible refine qAR ?_); refine qAX rfl 25 (.tmp 48) rfl _ _ rfl x.cells _ RX Tryz.underlying25 rfl qAA ?_)
                | (go_at_call 46; (refine (IH.out x r _ HSZ.out HX hr0 hrn).mono ?_); rintro e w3 ⟨rfl, hb⟩; replace HB := zT HB hb; replace HJ := HJ.below hb; replace c2_5 := qAB hb c2_5; (try replace HX := HX.below hb); (try replace RX := qBm hb RX); replace HBW := Lib.hid (HBW.out.trans (hb.mono HBW.out.size)); clear hb))
              go_roundw
              case rel => exact ⟨q + 1, qDz (er x) r, by omega, by go_num, rfl, by omega, hle.2, Lib.hid (HR.out.trans HST.out), HBW.out⟩
              case measure => simp [intOf]; omega
            · (have hlt2 : (q : Int) < j.v.Fn := by omega); (have hbd : 0 ≤ (q : Int) ∧ (q : Int) < j.v.Fn := by omega); go_wp2; go_ret; exact ⟨qBD (((qEB _ (by omega)).symm.trans HR.out.symm).trans HK.out.symm), HB⟩
          · (have hlt2 : ¬ (q : Int) < j.v.Fn := by omega); go_wp2; go_ret; exact ⟨qBD (((qKl (l := j.vs) (q := q) (r := r) (by have := LV.out; omega)).symm.trans HR.out.symm).trans HK.out.symm), HB⟩
      · have HK : Hid (n + 1 = qDz (er j) n) := Lib.hid (by rw [HC.out, if_neg hk4, if_neg hk5]); (have q4 : (j.v.kind == 4) = false := by simpa using hk4); (have q5 : (j.v.kind == 5) = false := by simpa using hk5); clear hk4 hk5; go_enter Tryz.func46, Tryz.ntmps46
        go_wp2_with (first
          | (refine qAM rfl 25 (.tmp 0) rfl _ rfl ?_; intro w1 hw; have hb := qAD hw; have B2 := (qAC hw).1; replace HB := zT HB hb; replace HJ := HJ.below hb; clear hb hw; have c2_0 : w1.cell? ⟨_, 0, none⟩ = some (.int .i64 j.v.kind) := (B2.cell 0).trans (by rfl)))
        go_ret; exact ⟨qBD HK.out, HB⟩
theorem qJ3 {j : JV} {w : World} (HJ : qAi w j) : Calls Tryz.prog 46 #[.agg j.cells, .int .i64 0] w (qQC j 0 w) := qP2 _ j 0 w (Nat.lt_succ_self _) HJ (by omega) (by omega)
end Go.Proofs.YtnjhmnolngdfaaaGreatDoor
namespace Go.Proofs.YtnjhmnolngdfaaaGreatDoor
section
open Go.RowKit Go.PlainAid
def IfB (c b : Bool) (P : Prop) : Prop := b = c → P
def qMV (ns : List ByteArray) : Bool := qKn [] ns (ns.map fun _ => qJf) 0
theorem qGT (ns : List ByteArray) : qMV ns = true ↔ (∀ n ∈ ns, qCk n < 0) ∧ ns.Pairwise fun a b => a ≠ b := by
  unfold qMV; rw [qCe _ _ _ _ (by simp)]; constructor
  · exact fun h => ⟨fun n hn => (h.1 n hn).1, h.2.2⟩
  · (refine fun h => ⟨fun n hn => ⟨h.1 n hn, by simp⟩, fun x hx => ?_, h.2⟩); obtain ⟨_, _, rfl⟩ := List.mem_map.1 hx; exact qMm
theorem qKX {ns : List ByteArray} (h : ¬ ((∀ n ∈ ns, qCk n < 0) ∧ ns.Pairwise fun a b => a ≠ b)) : qMV ns = false := qBi fun e => h ((qGT ns).1 e)
theorem qKs {w : World} {j : JV} (h : qAi w j) {i : Nat} (hi : i < j.vs.length) : ∃ bl off n, j.v.FA = some ⟨bl, off, none⟩ ∧ j.ns[i]? = some n ∧ w.cell? ⟨bl, off + i * 7, none⟩ = some (.string n) := by
  obtain ⟨bl, off, nm, x, hA, hx, hnx, n1, RX, HX⟩ := qEI h hi; exact ⟨bl, off, nm, hA, hnx, n1⟩
theorem qKQ {l : List ByteArray} {q : Nat} {x : ByteArray} (hx : l[q]? = some x) (h : (l.take q).Pairwise fun a b => a ≠ b) (hd : ∀ i n, i < q → l[i]? = some n → n ≠ x) : (l.take (q + 1)).Pairwise fun a b => a ≠ b := by
  rw [qBe hx, List.pairwise_append]; refine ⟨h, List.pairwise_singleton _ _, fun a ha b hb => ?_⟩; (obtain rfl : b = x := by simpa using hb); obtain ⟨i, hi⟩ := List.getElem?_of_mem ha; rw [List.getElem?_take] at hi
  split at hi
  · rename_i h1; exact hd i a h1 hi
  · cases hi
theorem qNk {l : List ByteArray} {k q : Nat} {x : ByteArray} (hk : k < q) (h1 : l[k]? = some x) (h2 : l[q]? = some x) : ¬ l.Pairwise fun a b => a ≠ b := fun h => by
  obtain ⟨g1, e1⟩ := List.getElem?_eq_some_iff.1 h1; obtain ⟨g2, e2⟩ := List.getElem?_eq_some_iff.1 h2; exact List.pairwise_iff_getElem.1 h k q g1 g2 hk (e1.trans e2.symm)
theorem qG6 {j : JV} {w : World} (HJ : qAi w j) (hz : SzT (er j) ≤ 1048576) : Calls Tryz.prog 48 #[.slice j.v.FA j.v.Fn j.v.Fc] w fun e w' => e = .returned (.bool (qMV j.ns)) ∧ Below w.heap.size w w' := by
 obtain ⟨l1, l2, l3, l4, l5⟩ := qCI HJ; have LV := Lib.hid l2; have LN := Lib.hid l3; have HZ := Lib.hid hz; have HJ0 := Lib.hid HJ; have HFN : Hid (j.v.Fn ≤ 1048576) := Lib.hid (by have := (qDZ j).2.1; omega); clear l1 l2 l3 hz HJ; go_enter Tryz.func48, Tryz.ntmps48; go_wp2
 go_loopw [3] (fun i wr => ∃ q : Nat, q ≤ j.v.Fn ∧ i = .int .i64 q ∧ Hid (∀ n ∈ j.ns.take q, qCk n < 0) ∧ Hid ((j.ns.take q).Pairwise fun a b => a ≠ b) ∧ Below w.heap.size w wr) (fun i _ => j.v.Fn - (intOf i).toNat)
 case atStart => exact ⟨0, Nat.zero_le _, rfl, Lib.hid (fun n hn => by simp at hn), Lib.hid (by simp), Below.refl _ _⟩
 case round =>
  obtain ⟨q, hq, rfl, H1, H2, HB⟩ := hrel
  by_cases hlt : q < j.v.Fn
  ·obtain ⟨bl, off, nm, hA, hnx, n1⟩ := qKs (HJ0.out.below HB) (show q < j.vs.length by have := LV.out; omega); have HNX := Lib.hid hnx; (have hnsz : nm.size ≤ 17592186044400 := by have := qGs j (List.mem_of_getElem? hnx); have := HZ.out; omega); (have hbd : 0 ≤ (q : Int) ∧ (q : Int) < j.v.Fn := by omega); (have hlt2 : (q : Int) < j.v.Fn := by omega); have HA := Lib.hid hA; clear hnx hA; rw [HA.out]; obtain ⟨bi, hbi⟩ : ∃ bi, bi = qCk nm := ⟨_, rfl⟩; have HBI := Lib.hid hbi; clear hbi
   by_cases hbn : bi < 0
   ·(have hbn2 : ¬ (0 : Int) ≤ bi := by omega); have HBN := Lib.hid (show qCk nm < 0 by rw [← HBI.out]; exact hbn)
    go_wp2_with (first
     | (go_at_call 47; (refine (qGh hnsz _).mono ?_); rw [← HBI.out]; rintro e w3 ⟨rfl, hb⟩; replace HB := zT HB hb; replace n1 := qAB hb n1; clear hb))
    go_loopw [5] (fun i wk => ∃ k : Nat, k ≤ q ∧ i = .int .i64 k ∧ Hid (∀ i n, i < k → j.ns[i]? = some n → n ≠ nm) ∧ Below w3.heap.size w3 wk) (fun i _ => q - (intOf i).toNat)
    case atStart => exact ⟨0, Nat.zero_le _, rfl, Lib.hid (fun i n h => by omega), Below.refl _ _⟩
    case round =>
     obtain ⟨k, hk, rfl, HK, hbk⟩ := hrel; have HBK := zT HB hbk; replace n1 := qAB hbk n1; have HBW := Lib.hid hbk; clear hbk
     by_cases hkq : k < q
     ·obtain ⟨bl2, off2, nk, hA2, hnk, n2⟩ := qKs (HJ0.out.below HBK) (show k < j.vs.length by have := LV.out; omega); rw [HA.out] at hA2; injection hA2 with hA2; injection hA2 with e1 e2; subst e1 e2; have HNK := Lib.hid hnk; (have hbk2 : 0 ≤ (k : Int) ∧ (k : Int) < j.v.Fn := by omega); (have hkq2 : (k : Int) < q := by omega); clear hnk; go_wp2
      by_cases hnm : (nk.toList == nm.toList) = true
      ·have HF := Lib.hid (show qMV j.ns = false from qKX (fun h => qNk hkq HNK.out (by rw [toList_inj (a := nk) (b := nm) (by simpa using hnm)]; exact HNX.out) h.2)); refine qCJ (by kernel_rfl) (by kernel_rfl) ?_; (repeat (refine QL.step (fun K hK => ?_); go_simp; first | (refine hK _ ?_; clear hK K) | (apply Exists.intro; refine ⟨fun _ => ?_, hK _ ?_⟩; clear hK K))); refine QL.nil ?_; intro _ hw'; obtain ⟨nq, hw''⟩ := hw'; subst hw''; generalize hw2 : World.drewN _ nq = w10; have hb := qDE hw2; replace HBK := zT HBK hb; clear hw2 hb; go_wp2; go_ret; exact ⟨qA5 HF.out.symm, HBK⟩
      ·have HNE := Lib.hid (show nk ≠ nm from fun e => hnm (by rw [e]; simp)); have hnm2 := qBi hnm; clear hnm; refine qCJ (by kernel_rfl) (by kernel_rfl) ?_; (repeat (refine QL.step (fun K hK => ?_); go_simp; first | (refine hK _ ?_; clear hK K) | (apply Exists.intro; refine ⟨fun _ => ?_, hK _ ?_⟩; clear hK K))); refine QL.nil ?_; intro _ hw'; obtain ⟨nq, hw''⟩ := hw'; subst hw''; generalize hw2 : World.drewN _ nq = w10; have hb := qDE hw2; replace HBW := Lib.hid (HBW.out.trans (hb.mono HBW.out.size)); clear hw2 hb; go_wp2; go_roundw
       case rel =>
        refine ⟨k + 1, by omega, by go_num, Lib.hid (fun i n hi hn => ?_), HBW.out⟩
        by_cases e : i = k
        ·subst e; have h1 := HNK.out; rw [h1] at hn; injection hn with hn; rw [← hn]; exact HNE.out
        ·exact HK.out i n (by omega) hn
       case measure => simp [intOf]; omega
     ·(obtain rfl : k = q := by omega); (have hkq2 : ¬ ((k : Nat) : Int) < k := by omega); go_wp2; go_roundw
      case rel => exact ⟨k + 1, by omega, by go_num, Lib.hid (qF7 HNX.out H1.out HBN.out), Lib.hid (qKQ HNX.out H2.out HK.out), HBK⟩
      case measure => simp [intOf]; omega
   ·(have hbn2 : (0 : Int) ≤ bi := by omega); have HF := Lib.hid (show qMV j.ns = false from qKX (fun h => hbn (by rw [HBI.out]; exact h.1 nm (List.mem_of_getElem? HNX.out))))
    go_wp2_with (first
     | (go_at_call 47; (refine (qGh hnsz _).mono ?_); rw [← HBI.out]; rintro e w3 ⟨rfl, hb⟩; replace HB := zT HB hb; replace n1 := qAB hb n1; clear hb))
    go_ret; exact ⟨qA5 HF.out.symm, HB⟩
  ·(obtain rfl : q = j.v.Fn := by omega); (have hlt2 : ¬ ((j.v.Fn : Nat) : Int) < j.v.Fn := by omega); have HF := Lib.hid (show qMV j.ns = true from (qGT _).2 ⟨by have := H1.out; rwa [List.take_of_length_le (by have := LN.out; have := LV.out; omega)] at this, by have := H2.out; rwa [List.take_of_length_le (by have := LN.out; have := LV.out; omega)] at this⟩); go_wp2; go_ret; exact ⟨qA5 HF.out.symm, HB⟩
theorem qMC {j : JV} {D : Int} (hk : j.v.kind = 4) (h0 : 0 ≤ D) (h1 : D ≤ 4294967296) : qBc (er j) (32 - D) = true ↔ (∀ x ∈ erL j.l, qBc x (32 - (D + 1)) = true) ∧ D < 32 := by
  (have e : qEm (32 - D) = 32 - (D + 1) := by unfold qEm; rw [if_neg (by omega)]; omega); rw [qBs, hk, qHv, e, Bool.and_eq_true, qC0, decide_eq_true_eq]; constructor
  · exact fun h => ⟨h.1, by omega⟩
  · exact fun h => ⟨h.1, by omega⟩
theorem qOi {j : JV} {D : Int} (hk : j.v.kind = 5) (hl : j.ns.length = j.vs.length) (h0 : 0 ≤ D) (h1 : D ≤ 4294967296) : qBc (er j) (32 - D) = true ↔ qMV j.ns = true ∧ (∀ x ∈ erL j.vs, qBc x (32 - (D + 1)) = true) ∧ D < 32 := by
  (have e : qEm (32 - D) = 32 - (D + 1) := by unfold qEm; rw [if_neg (by omega)]; omega); rw [qBs, hk, qIX, e, Bool.and_eq_true, qCe _ _ _ _ (by rw [qBj]; exact hl), decide_eq_true_eq, qGT]; constructor
  · exact fun h => ⟨⟨fun n hn => (h.1.1 n hn).1, h.1.2.2⟩, h.1.2.1, by omega⟩
  · exact fun h => ⟨⟨fun n hn => ⟨h.1.1 n hn, by simp⟩, h.2.1, h.1.2⟩, by omega⟩
theorem qOy {j : JV} : (∀ (i : Nat) (x : JV), j.l[i]? = some x → SzT (er x) + 1 ≤ SzT (er j)) ∧ (∀ (i : Nat) (x : JV), j.vs[i]? = some x → SzT (er x) + 1 ≤ SzT (er j)) := by
  rw [qBs, qDr]; refine ⟨fun i x hx => ?_, fun i x hx => ?_⟩
  · have := qGV hx; omega
  · have := qGV hx; omega
theorem qQR {j : JV} {d : Int} (hk : j.v.kind = 0 ∨ j.v.kind = 1) : qBc (er j) d = true := by
  rw [qBs]; rcases hk with hk | hk
  · rw [hk, qMm]
  · rw [hk, qN0]
theorem qPx {j : JV} {d : Int} (hk : j.v.kind = 2) : qBc (er j) d = (decide (j.v.i ≤ 9007199254740991) && decide (-9007199254740991 ≤ j.v.i)) := by rw [qBs, hk, qMr]
theorem qQY {j : JV} {d : Int} (hk : j.v.kind = 3) : qBc (er j) d = decide (qCk j.v.t < 0) := by rw [qBs, hk, qMF]
theorem qQf {j : JV} {d : Int} (h0 : j.v.kind ≠ 0) (h1 : j.v.kind ≠ 1) (h2 : j.v.kind ≠ 2) (h3 : j.v.kind ≠ 3) (h4 : j.v.kind ≠ 4) (h5 : j.v.kind ≠ 5) : qBc (er j) d = false := by rw [qBs, qE9 h0 h1 h2 h3 h4 h5]
theorem qNr (sz : Nat) : ∀ (j : JV) (D : Int) (w : World), SizeOf.sizeOf j < sz → qAi w j → SzT (er j) ≤ 1048576 → 0 ≤ D → D + SzT (er j) ≤ 4294967296 →
    Calls Tryz.prog 28 #[.agg j.cells, .int .i64 D] w fun e w' => e = .returned (.bool (qBc (er j) (32 - D))) ∧ Below w.heap.size w w' := by
  induction sz with
  | zero => intro j D w h; omega
  | succ sz ih =>
    intro j D w hsz HJ hz hD0 hD1; obtain ⟨l1, l2, l3, l4, l5⟩ := qCI HJ; (have hzt : j.v.t.size ≤ 17592186044400 := by have := qNf j; omega); (have hDm : D ≤ 4294967296 := by omega); have LL := Lib.hid l1; have LV := Lib.hid l2; have LN := Lib.hid l3; have SZ := Lib.hid hsz; have HZ := Lib.hid hz; have HD1 := Lib.hid hD1; have HJ0 := Lib.hid HJ; have IH := Lib.hid ih; clear ih l1 l2 l3 hsz hz hD1 HJ; have HB := Below.refl w.heap.size w
    by_cases hk0 : j.v.kind = 0
    · have HKD := Lib.hid hk0; have HS := Lib.hid (qQR (d := 32 - D) (.inl hk0)); clear hk0; go_enter Tryz.func28, Tryz.ntmps28
      go_wp2_with (first
        | (refine qAM rfl 25 (.tmp 0) rfl _ rfl ?_; intro w1 hw; have hb := qAD hw; have B2 := (qAC hw).1; replace HB := zT HB hb; clear hb hw; have c2_0 : w1.cell? ⟨_, 0, none⟩ = some (.int .i64 0) := (B2.cell 0).trans (by rw [← HKD.out]; rfl); have c2_1 : w1.cell? ⟨_, 1, none⟩ = some (.bool j.v.b) := B2.cell 1; have c2_2 : w1.cell? ⟨_, 2, none⟩ = some (.int .i64 j.v.i) := B2.cell 2; have c2_3 : w1.cell? ⟨_, 3, none⟩ = some (.string j.v.t) := B2.cell 3; have c2_4 : w1.cell? ⟨_, 4, none⟩ = some (.slice j.v.LA j.v.Ln j.v.Lc) := B2.cell 4; have c2_5 : w1.cell? ⟨_, 5, none⟩ = some (.slice j.v.FA j.v.Fn j.v.Fc) := B2.cell 5))
      go_ret; exact ⟨qA5 HS.out.symm, HB⟩
    · by_cases hk1 : j.v.kind = 1
      · have HKD := Lib.hid hk1; have HS := Lib.hid (qQR (d := 32 - D) (.inr hk1)); clear hk1; go_enter Tryz.func28, Tryz.ntmps28
        go_wp2_with (first
          | (refine qAM rfl 25 (.tmp 0) rfl _ rfl ?_; intro w1 hw; have hb := qAD hw; have B2 := (qAC hw).1; replace HB := zT HB hb; clear hb hw; have c2_0 : w1.cell? ⟨_, 0, none⟩ = some (.int .i64 1) := (B2.cell 0).trans (by rw [← HKD.out]; rfl); have c2_1 : w1.cell? ⟨_, 1, none⟩ = some (.bool j.v.b) := B2.cell 1; have c2_2 : w1.cell? ⟨_, 2, none⟩ = some (.int .i64 j.v.i) := B2.cell 2; have c2_3 : w1.cell? ⟨_, 3, none⟩ = some (.string j.v.t) := B2.cell 3; have c2_4 : w1.cell? ⟨_, 4, none⟩ = some (.slice j.v.LA j.v.Ln j.v.Lc) := B2.cell 4; have c2_5 : w1.cell? ⟨_, 5, none⟩ = some (.slice j.v.FA j.v.Fn j.v.Fc) := B2.cell 5))
        go_ret; exact ⟨qA5 HS.out.symm, HB⟩
      · by_cases hk2 : j.v.kind = 2
        · have HKD := Lib.hid hk2
          by_cases hlo : -9007199254740991 ≤ j.v.i
          · by_cases hhi : j.v.i ≤ 9007199254740991
            · have HS := Lib.hid (show qBc (er j) (32 - D) = true by rw [qPx hk2, decide_eq_true hlo, decide_eq_true hhi]; rfl); clear hk2; go_enter Tryz.func28, Tryz.ntmps28
              go_wp2_with (first
                | (refine qAM rfl 25 (.tmp 0) rfl _ rfl ?_; intro w1 hw; have hb := qAD hw; have B2 := (qAC hw).1; replace HB := zT HB hb; clear hb hw; have c2_0 : w1.cell? ⟨_, 0, none⟩ = some (.int .i64 2) := (B2.cell 0).trans (by rw [← HKD.out]; rfl); have c2_1 : w1.cell? ⟨_, 1, none⟩ = some (.bool j.v.b) := B2.cell 1; have c2_2 : w1.cell? ⟨_, 2, none⟩ = some (.int .i64 j.v.i) := B2.cell 2; have c2_3 : w1.cell? ⟨_, 3, none⟩ = some (.string j.v.t) := B2.cell 3; have c2_4 : w1.cell? ⟨_, 4, none⟩ = some (.slice j.v.LA j.v.Ln j.v.Lc) := B2.cell 4; have c2_5 : w1.cell? ⟨_, 5, none⟩ = some (.slice j.v.FA j.v.Fn j.v.Fc) := B2.cell 5))
              go_ret; exact ⟨qA5 HS.out.symm, HB⟩
            · have HS := Lib.hid (show qBc (er j) (32 - D) = false by rw [qPx hk2, decide_eq_true hlo, decide_eq_false hhi]; rfl); clear hk2; (have hhi2 : 9007199254740991 < j.v.i := by omega); go_enter Tryz.func28, Tryz.ntmps28
              go_wp2_with (first
                | (refine qAM rfl 25 (.tmp 0) rfl _ rfl ?_; intro w1 hw; have hb := qAD hw; have B2 := (qAC hw).1; replace HB := zT HB hb; clear hb hw; have c2_0 : w1.cell? ⟨_, 0, none⟩ = some (.int .i64 2) := (B2.cell 0).trans (by rw [← HKD.out]; rfl); have c2_1 : w1.cell? ⟨_, 1, none⟩ = some (.bool j.v.b) := B2.cell 1; have c2_2 : w1.cell? ⟨_, 2, none⟩ = some (.int .i64 j.v.i) := B2.cell 2; have c2_3 : w1.cell? ⟨_, 3, none⟩ = some (.string j.v.t) := B2.cell 3; have c2_4 : w1.cell? ⟨_, 4, none⟩ = some (.slice j.v.LA j.v.Ln j.v.Lc) := B2.cell 4; have c2_5 : w1.cell? ⟨_, 5, none⟩ = some (.slice j.v.FA j.v.Fn j.v.Fc) := B2.cell 5))
              go_ret; exact ⟨qA5 HS.out.symm, HB⟩
          · have HS := Lib.hid (show qBc (er j) (32 - D) = false by rw [qPx hk2, decide_eq_false hlo, Bool.and_false]); clear hk2; (have hlo2 : j.v.i < -9007199254740991 := by omega); go_enter Tryz.func28, Tryz.ntmps28
            go_wp2_with (first
              | (refine qAM rfl 25 (.tmp 0) rfl _ rfl ?_; intro w1 hw; have hb := qAD hw; have B2 := (qAC hw).1; replace HB := zT HB hb; clear hb hw; have c2_0 : w1.cell? ⟨_, 0, none⟩ = some (.int .i64 2) := (B2.cell 0).trans (by rw [← HKD.out]; rfl); have c2_1 : w1.cell? ⟨_, 1, none⟩ = some (.bool j.v.b) := B2.cell 1; have c2_2 : w1.cell? ⟨_, 2, none⟩ = some (.int .i64 j.v.i) := B2.cell 2; have c2_3 : w1.cell? ⟨_, 3, none⟩ = some (.string j.v.t) := B2.cell 3; have c2_4 : w1.cell? ⟨_, 4, none⟩ = some (.slice j.v.LA j.v.Ln j.v.Lc) := B2.cell 4; have c2_5 : w1.cell? ⟨_, 5, none⟩ = some (.slice j.v.FA j.v.Fn j.v.Fc) := B2.cell 5))
            go_ret; exact ⟨qA5 HS.out.symm, HB⟩
        · by_cases hk3 : j.v.kind = 3
          · have HKD := Lib.hid hk3; obtain ⟨bi, hbi⟩ : ∃ bi, bi = qCk j.v.t := ⟨_, rfl⟩; have HBI := Lib.hid hbi; have HS := Lib.hid (show qBc (er j) (32 - D) = decide (bi < 0) by rw [qQY hk3, hbi]); clear hk3 hbi; go_enter Tryz.func28, Tryz.ntmps28
            go_wp2_with (first
              | (refine qAM rfl 25 (.tmp 0) rfl _ rfl ?_; intro w1 hw; have hb := qAD hw; have B2 := (qAC hw).1; replace HB := zT HB hb; clear hb hw; have c2_0 : w1.cell? ⟨_, 0, none⟩ = some (.int .i64 3) := (B2.cell 0).trans (by rw [← HKD.out]; rfl); have c2_1 : w1.cell? ⟨_, 1, none⟩ = some (.bool j.v.b) := B2.cell 1; have c2_2 : w1.cell? ⟨_, 2, none⟩ = some (.int .i64 j.v.i) := B2.cell 2; have c2_3 : w1.cell? ⟨_, 3, none⟩ = some (.string j.v.t) := B2.cell 3; have c2_4 : w1.cell? ⟨_, 4, none⟩ = some (.slice j.v.LA j.v.Ln j.v.Lc) := B2.cell 4; have c2_5 : w1.cell? ⟨_, 5, none⟩ = some (.slice j.v.FA j.v.Fn j.v.Fc) := B2.cell 5)
              | (go_at_call 47; (refine (qGh hzt _).mono ?_); rw [← HBI.out]; rintro e w3 ⟨rfl, hb⟩; replace HB := zT HB hb; clear hb))
            go_ret; exact ⟨qA5 HS.out.symm, HB⟩
          · by_cases hk4 : j.v.kind = 4
            · have HKD := Lib.hid hk4; have HSI := Lib.hid (qMC hk4 hD0 hDm); clear hk4; go_enter Tryz.func28, Tryz.ntmps28
              go_wp2_with (first
                | (refine qAM rfl 25 (.tmp 0) rfl _ rfl ?_; intro w1 hw; have hb := qAD hw; have B2 := (qAC hw).1; replace HB := zT HB hb; clear hb hw; have c2_0 : w1.cell? ⟨_, 0, none⟩ = some (.int .i64 4) := (B2.cell 0).trans (by rw [← HKD.out]; rfl); have c2_1 : w1.cell? ⟨_, 1, none⟩ = some (.bool j.v.b) := B2.cell 1; have c2_2 : w1.cell? ⟨_, 2, none⟩ = some (.int .i64 j.v.i) := B2.cell 2; have c2_3 : w1.cell? ⟨_, 3, none⟩ = some (.string j.v.t) := B2.cell 3; have c2_4 : w1.cell? ⟨_, 4, none⟩ = some (.slice j.v.LA j.v.Ln j.v.Lc) := B2.cell 4; have c2_5 : w1.cell? ⟨_, 5, none⟩ = some (.slice j.v.FA j.v.Fn j.v.Fc) := B2.cell 5))
              clear c2_0 c2_1 c2_2 c2_3 c2_4 c2_5
              go_loopw [5] (fun i wr => ∃ q : Nat, q ≤ j.v.Ln ∧ i = .int .i64 q ∧ Hid (∀ x ∈ (erL j.l).take q, qBc x (32 - (D + 1)) = true) ∧ qAW wr w.heap.size 25 j.cells ∧ Below w.heap.size w wr) (fun i _ => j.v.Ln - (intOf i).toNat)
              case atStart => exact ⟨0, Nat.zero_le _, rfl, Lib.hid (fun n hn => by simp at hn), B2, HB⟩
              case round =>
                clear B2 HB; obtain ⟨q, hq, rfl, H4, B2, HB⟩ := hrel; have c2_4 : wr.cell? ⟨_, 4, none⟩ = some (.slice j.v.LA j.v.Ln j.v.Lc) := B2.cell 4
                by_cases hlt : q < j.v.Ln
                · obtain ⟨bl, off, x, hA, hx, RX, HX⟩ := qDv (HJ0.out.below HB) (show q < j.l.length by have := LL.out; omega); have HSZ := Lib.hid (show SizeOf.sizeOf x < sz by have := qFB hx; have := SZ.out; omega); have hszx := (qOy (j := j)).1 _ _ hx; have HZX := Lib.hid (show SzT (er x) ≤ 1048576 by have := HZ.out; omega); have HDX := Lib.hid (show (D + 1) + SzT (er x) ≤ 4294967296 by have := HD1.out; omega); have HXX := Lib.hid hx; (have hbd : 0 ≤ (q : Int) ∧ (q : Int) < j.v.Ln := by omega); (have hlt2 : (q : Int) < j.v.Ln := by omega); rw [hA] at c2_4; clear hx hA hszx; obtain ⟨sx, hsx⟩ : ∃ sx, sx = qBc (er x) (32 - (D + 1)) := ⟨_, rfl⟩; have HSX := Lib.hid hsx; clear hsx
                  cases sx with
                  | true =>
                    go_wp2_with (first
                      | ((with_reducible refine qAR ?_); refine qAX rfl 25 (.tmp 42) rfl _ _ rfl x.cells _ RX Tryz.underlying25 rfl qAA ?_)
                      | (go_at_call 28; (refine (IH.out x _ _ HSZ.out HX HZX.out (by omega) HDX.out).mono ?_); rw [← HSX.out]; rintro e w3 ⟨rfl, hb⟩; replace HB := zT HB hb; replace B2 := zI B2 hb; clear hb c2_4))
                    go_roundw
                    case rel => exact ⟨q + 1, by omega, by go_num, Lib.hid (qEp HXX.out H4.out HSX.out.symm), B2, HB⟩
                    case measure => simp [intOf]; omega
                  | false =>
                    have HS := Lib.hid (show qBc (er j) (32 - D) = false from qBi (fun h => by have h1 := (HSI.out.1 h).1 _ (qIu HXX.out); rw [← HSX.out] at h1; cases h1))
                    go_wp2_with (first
                      | ((with_reducible refine qAR ?_); refine qAX rfl 25 (.tmp 42) rfl _ _ rfl x.cells _ RX Tryz.underlying25 rfl qAA ?_)
                      | (go_at_call 28; (refine (IH.out x _ _ HSZ.out HX HZX.out (by omega) HDX.out).mono ?_); rw [← HSX.out]; rintro e w3 ⟨rfl, hb⟩; replace HB := zT HB hb; replace B2 := zI B2 hb; clear hb c2_4))
                    go_ret; exact ⟨qA5 HS.out.symm, HB⟩
                · (obtain rfl : q = j.v.Ln := by omega); (have hlt2 : ¬ ((j.v.Ln : Nat) : Int) < j.v.Ln := by omega); have HS := Lib.hid (show qBc (er j) (32 - D) = decide (D < 32) by rw [Bool.eq_iff_iff, HSI.out, decide_eq_true_eq]; exact ⟨fun h => h.2, fun h => ⟨by have := H4.out; rwa [List.take_of_length_le (by rw [qBj]; have := LL.out; omega)] at this, h⟩⟩); go_wp2; go_ret; exact ⟨qA5 HS.out.symm, HB⟩
            · by_cases hk5 : j.v.kind = 5
              · have HKD := Lib.hid hk5; have HSI := Lib.hid (qOi hk5 LN.out hD0 hDm); clear hk5; obtain ⟨nb, hnb⟩ : ∃ nb, nb = qMV j.ns := ⟨_, rfl⟩; have HNB := Lib.hid hnb; clear hnb
                cases nb with
                | false =>
                  have HS := Lib.hid (show qBc (er j) (32 - D) = false from qBi (fun h => by have h1 := (HSI.out.1 h).1; rw [← HNB.out] at h1; cases h1)); go_enter Tryz.func28, Tryz.ntmps28
                  go_wp2_with (first
                    | (refine qAM rfl 25 (.tmp 0) rfl _ rfl ?_; intro w1 hw; have hb := qAD hw; have B2 := (qAC hw).1; replace HB := zT HB hb; clear hb hw; have c2_0 : w1.cell? ⟨_, 0, none⟩ = some (.int .i64 5) := (B2.cell 0).trans (by rw [← HKD.out]; rfl); have c2_1 : w1.cell? ⟨_, 1, none⟩ = some (.bool j.v.b) := B2.cell 1; have c2_2 : w1.cell? ⟨_, 2, none⟩ = some (.int .i64 j.v.i) := B2.cell 2; have c2_3 : w1.cell? ⟨_, 3, none⟩ = some (.string j.v.t) := B2.cell 3; have c2_4 : w1.cell? ⟨_, 4, none⟩ = some (.slice j.v.LA j.v.Ln j.v.Lc) := B2.cell 4; have c2_5 : w1.cell? ⟨_, 5, none⟩ = some (.slice j.v.FA j.v.Fn j.v.Fc) := B2.cell 5)
                    | (go_at_call 48; (refine (qG6 (HJ0.out.below HB) HZ.out).mono ?_); rw [← HNB.out]; rintro e w3 ⟨rfl, hb⟩; replace HB := zT HB hb; replace B2 := zI B2 hb; replace c2_5 := qAB hb c2_5; clear hb))
                  go_loopw [7, 8] (fun s i wr => s = .bool false ∧ i = .int .i64 0 ∧ wr = w3) (fun _ _ _ => 0)
                  case atStart => exact ⟨rfl, rfl, rfl⟩
                  case round =>
                    obtain ⟨rfl, rfl, rfl⟩ := hrel
                    by_cases hz0 : (0 : Int) < j.v.Fn
                    · go_wp2; go_ret; exact ⟨qA5 HS.out.symm, HB⟩
                    · go_wp2; go_ret; exact ⟨qA5 HS.out.symm, HB⟩
                | true =>
                  go_enter Tryz.func28, Tryz.ntmps28
                  go_wp2_with (first
                    | (refine qAM rfl 25 (.tmp 0) rfl _ rfl ?_; intro w1 hw; have hb := qAD hw; have B2 := (qAC hw).1; replace HB := zT HB hb; clear hb hw; have c2_0 : w1.cell? ⟨_, 0, none⟩ = some (.int .i64 5) := (B2.cell 0).trans (by rw [← HKD.out]; rfl); have c2_1 : w1.cell? ⟨_, 1, none⟩ = some (.bool j.v.b) := B2.cell 1; have c2_2 : w1.cell? ⟨_, 2, none⟩ = some (.int .i64 j.v.i) := B2.cell 2; have c2_3 : w1.cell? ⟨_, 3, none⟩ = some (.string j.v.t) := B2.cell 3; have c2_4 : w1.cell? ⟨_, 4, none⟩ = some (.slice j.v.LA j.v.Ln j.v.Lc) := B2.cell 4; have c2_5 : w1.cell? ⟨_, 5, none⟩ = some (.slice j.v.FA j.v.Fn j.v.Fc) := B2.cell 5)
                    | (go_at_call 48; (refine (qG6 (HJ0.out.below HB) HZ.out).mono ?_); rw [← HNB.out]; rintro e w3 ⟨rfl, hb⟩; replace HB := zT HB hb; replace B2 := zI B2 hb; clear hb))
                  clear c2_0 c2_1 c2_2 c2_3 c2_4 c2_5
                  go_loopw [7, 8] (fun s i wr => ∃ (q : Nat) (tb : Bool), q ≤ j.v.Fn ∧ i = .int .i64 q ∧ s = .bool tb ∧ Hid (IfB true tb (∀ x ∈ (erL j.vs).take q, qBc x (32 - (D + 1)) = true)) ∧ Hid (IfB false tb (qBc (er j) (32 - D) = false)) ∧ qAW wr w.heap.size 25 j.cells ∧ Below w.heap.size w wr) (fun _ i _ => j.v.Fn - (intOf i).toNat)
                  case atStart => exact ⟨0, true, Nat.zero_le _, rfl, rfl, Lib.hid (fun _ n hn => by simp at hn), Lib.hid (fun h => by cases h), B2, HB⟩
                  case round =>
                    clear B2 HB; obtain ⟨q, tb, hq, rfl, rfl, H4, H5, B2, HB⟩ := hrel; have c2_5 : wr.cell? ⟨_, 5, none⟩ = some (.slice j.v.FA j.v.Fn j.v.Fc) := B2.cell 5
                    cases tb with
                    | false =>
                      have HS := Lib.hid (H5.out rfl)
                      by_cases hz0 : (q : Int) < j.v.Fn
                      · go_wp2; go_ret; exact ⟨qA5 HS.out.symm, HB⟩
                      · go_wp2; go_ret; exact ⟨qA5 HS.out.symm, HB⟩
                    | true =>
                      by_cases hlt : q < j.v.Fn
                      · obtain ⟨bl, off, nm, x, hA, hx, hnx, n1, RX, HX⟩ := qEI (HJ0.out.below HB) (show q < j.vs.length by have := LV.out; omega); have HSZ := Lib.hid (show SizeOf.sizeOf x < sz by have := qDu hx; have := SZ.out; omega); have hszx := (qOy (j := j)).2 _ _ hx; have HZX := Lib.hid (show SzT (er x) ≤ 1048576 by have := HZ.out; omega); have HDX := Lib.hid (show (D + 1) + SzT (er x) ≤ 4294967296 by have := HD1.out; omega); have HXX := Lib.hid hx; (have hbd : 0 ≤ (q : Int) ∧ (q : Int) < j.v.Fn := by omega); (have hlt2 : (q : Int) < j.v.Fn := by omega); rw [hA] at c2_5; clear hx hA hszx hnx n1; obtain ⟨sx, hsx⟩ : ∃ sx, sx = qBc (er x) (32 - (D + 1)) := ⟨_, rfl⟩; have HSX := Lib.hid hsx; clear hsx
                        go_wp2_with (first
                          | ((with_reducible refine qAR ?_); refine qAX rfl 25 (.tmp 70) rfl _ _ rfl x.cells _ RX Tryz.underlying25 rfl qAA ?_)
                          | (go_at_call 28; (refine (IH.out x _ _ HSZ.out HX HZX.out (by omega) HDX.out).mono ?_); rw [← HSX.out]; rintro e w3 ⟨rfl, hb⟩; replace HB := zT HB hb; replace B2 := zI B2 hb; clear hb c2_5))
                        go_roundw
                        case rel =>
                          refine ⟨q + 1, sx, by omega, by go_num, rfl, Lib.hid (fun h => qEp HXX.out (H4.out rfl) (HSX.out.symm.trans h)), Lib.hid (fun h => qBi (fun h2 => ?_)), B2, HB⟩; have h1 := (HSI.out.1 h2).2.1 _ (qIu HXX.out); rw [← HSX.out, h] at h1; cases h1
                        case measure => simp [intOf]; omega
                      · (obtain rfl : q = j.v.Fn := by omega); (have hlt2 : ¬ ((j.v.Fn : Nat) : Int) < j.v.Fn := by omega); have HS := Lib.hid (show qBc (er j) (32 - D) = decide (D < 32) by rw [Bool.eq_iff_iff, HSI.out, decide_eq_true_eq]; exact ⟨fun h => h.2.2, fun h => ⟨HNB.out.symm, by have := H4.out rfl; rwa [List.take_of_length_le (by rw [qBj]; have := LV.out; omega)] at this, h⟩⟩); go_wp2; go_ret; exact ⟨qA5 HS.out.symm, HB⟩
              · have HS := Lib.hid (qQf (d := 32 - D) hk0 hk1 hk2 hk3 hk4 hk5); (have q0 : (j.v.kind == 0) = false := by simpa using hk0); (have q1 : (j.v.kind == 1) = false := by simpa using hk1); (have q2 : (j.v.kind == 2) = false := by simpa using hk2); (have q3 : (j.v.kind == 3) = false := by simpa using hk3); (have q4 : (j.v.kind == 4) = false := by simpa using hk4); (have q5 : (j.v.kind == 5) = false := by simpa using hk5); clear hk0 hk1 hk2 hk3 hk4 hk5; go_enter Tryz.func28, Tryz.ntmps28
                go_wp2_with (first
                  | (refine qAM rfl 25 (.tmp 0) rfl _ rfl ?_; intro w1 hw; have hb := qAD hw; have B2 := (qAC hw).1; replace HB := zT HB hb; clear hb hw; have c2_0 : w1.cell? ⟨_, 0, none⟩ = some (.int .i64 j.v.kind) := (B2.cell 0).trans (by rfl); have c2_1 : w1.cell? ⟨_, 1, none⟩ = some (.bool j.v.b) := B2.cell 1; have c2_2 : w1.cell? ⟨_, 2, none⟩ = some (.int .i64 j.v.i) := B2.cell 2; have c2_3 : w1.cell? ⟨_, 3, none⟩ = some (.string j.v.t) := B2.cell 3; have c2_4 : w1.cell? ⟨_, 4, none⟩ = some (.slice j.v.LA j.v.Ln j.v.Lc) := B2.cell 4; have c2_5 : w1.cell? ⟨_, 5, none⟩ = some (.slice j.v.FA j.v.Fn j.v.Fc) := B2.cell 5))
                go_ret; exact ⟨qA5 HS.out.symm, HB⟩
theorem qGX {j : JV} {w : World} (HJ : qAi w j) (hz : SzT (er j) ≤ 1048576) : Calls Tryz.prog 28 #[.agg j.cells, .int .i64 0] w fun e w' => e = .returned (.bool (qBc (er j) 32)) ∧ Below w.heap.size w w' := qNr _ j 0 w (Nat.lt_succ_self _) HJ hz (by omega) (by omega)
end
end Go.Proofs.YtnjhmnolngdfaaaGreatDoor
