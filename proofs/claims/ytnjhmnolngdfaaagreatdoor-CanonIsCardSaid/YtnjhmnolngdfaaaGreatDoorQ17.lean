/- Layer 3: a value's one form (canon.norm), walked. Layer 3: a value's one form and its one text (canon.both), walked. Layer 3, plain: what is read holds no more than eight times what was read. Layer -/
import Derived.Test.YtnjhmnolngdfaaaGreatDoorQ12
import Derived.Test.YtnjhmnolngdfaaaGreatDoorQ13
import Derived.Test.YtnjhmnolngdfaaaGreatDoorQ09
import Derived.Test.YtnjhmnolngdfaaaGreatDoorQ16
import Derived.Test.YtnjhmnolngdfaaaGreatDoorQZip
set_option linter.unusedVariables false
set_option linter.unusedSimpArgs false
set_option maxHeartbeats 16000000
set_option maxRecDepth 100000
namespace Go.Proofs.YtnjhmnolngdfaaaGreatDoor
section
open Go.RowKit Go.PlainAid
theorem qME (k : Int) (b : Bool) : (lfJ k false 0 ⟨#[]⟩).cells.setIfInBounds 1 (.bool b) = (lfJ k b 0 ⟨#[]⟩).cells := rfl
theorem qMZ (k i : Int) : (lfJ k false 0 ⟨#[]⟩).cells.setIfInBounds 2 (.int .i64 i) = (lfJ k false i ⟨#[]⟩).cells := rfl
theorem qMh (k : Int) (t : ByteArray) : (lfJ k false 0 ⟨#[]⟩).cells.setIfInBounds 3 (.string t) = (lfJ k false 0 t).cells := rfl
theorem qLZ (k : Int) (b : Bool) (i : Int) (t : ByteArray) {n : Nat} (h : n < 6) : n < (lfJ k b i t).cells.size := h
theorem qOM {j : JV} {d : Int} (hk : j.v.kind = 0) : qBc (er j) d = true := by rw [qBs, hk, qMm]
theorem qN9 {j : JV} {d : Int} (hk : j.v.kind = 1) : qBc (er j) d = true := by rw [qBs, hk, qN0]
theorem qIW {j : JV} {d : Int} (hk : j.v.kind = 2) : qBc (er j) d = (decide (j.v.i ≤ 9007199254740991) && decide (-9007199254740991 ≤ j.v.i)) := by rw [qBs, hk, qMr]
theorem qLv {j : JV} {d : Int} (hk : j.v.kind = 3) : qBc (er j) d = decide (qCk j.v.t < 0) := by rw [qBs, hk, qMF]
theorem qNj {j : JV} {d : Int} (h0 : j.v.kind ≠ 0) (h1 : j.v.kind ≠ 1) (h2 : j.v.kind ≠ 2) (h3 : j.v.kind ≠ 3) (h4 : j.v.kind ≠ 4) (h5 : j.v.kind ≠ 5) : qBc (er j) d = false := by rw [qBs, qE9 h0 h1 h2 h3 h4 h5]
theorem qOh {j : JV} (hk : j.v.kind = 0) : er (lfJ 0 false 0 ⟨#[]⟩) = qBP (er j) := by rw [qBs j, hk, qJ1, qJ5]
theorem qOd {j : JV} (hk : j.v.kind = 1) : er (lfJ 1 j.v.b 0 ⟨#[]⟩) = qBP (er j) := by rw [qBs j, hk, qHw, qJ5]
theorem qNy {j : JV} (hk : j.v.kind = 2) : er (lfJ 2 false j.v.i ⟨#[]⟩) = qBP (er j) := by rw [qBs j, hk, qH0, qJ5]
theorem qNx {j : JV} (hk : j.v.kind = 3) : er (lfJ 3 false 0 j.v.t) = qBP (er j) := by rw [qBs j, hk, qIB, qJ5]
theorem mi1 : I64 1 := by unfold I64; decide
theorem mi2 : I64 2 := by unfold I64; decide
theorem mi3 : I64 3 := by unfold I64; decide
theorem qON (sz : Nat) : qQO sz := by
 induction sz with
 | zero => intro j D w h; omega
 | succ sz ih =>
  intro j D w hsz HJ hz hG hD0 hD1; (have hi64 : I64 j.v.i := by obtain ⟨v, _, _, _⟩ := j; unfold qAi at HJ; exact HJ.1.2.1); (have htr : j.v.t.size ≤ qAy := by obtain ⟨v, _, _, _⟩ := j; unfold qAi at HJ; exact HJ.1.2.2.1); obtain ⟨l1, l2, l3, l4, l5⟩ := qCI HJ; have LL := Lib.hid l1; have LV := Lib.hid l2; have LN := Lib.hid l3; have SZ := Lib.hid hsz; have HZ := Lib.hid hz; have HG := Lib.hid hG; have HJ0 := Lib.hid HJ; have HSP := Lib.hid (qDZ j); clear l1 l2 l3 hsz hz hG HJ; have HB := Below.refl w.heap.size w; have HI64 := Lib.hid hi64; have HTR := Lib.hid htr; have hts : j.v.t.size ≤ 140737488355328 := htr; have OBJ := Lib.hid (qOr ih); have IHH := Lib.hid ih; clear ih hi64 htr
  by_cases hk0 : j.v.kind = 0
  ·have HKD := Lib.hid hk0; have HS := Lib.hid (qOM (d := 32 - D) hk0); have HER := Lib.hid (qOh hk0); clear hk0; go_enter Tryz.func42, Tryz.ntmps42
   go_wp2_with (first
    | (refine qAM rfl 25 (.tmp 0) rfl _ rfl ?_; intro w1 hw; have hb := qAD hw; have B2 := (qAC hw).1; replace HB := zT HB hb; clear hb hw; have c2_0 : w1.cell? ⟨_, 0, none⟩ = some (.int .i64 0) := (B2.cell 0).trans (by rw [← HKD.out]; rfl); have c2_1 : w1.cell? ⟨_, 1, none⟩ = some (.bool j.v.b) := B2.cell 1; have c2_2 : w1.cell? ⟨_, 2, none⟩ = some (.int .i64 j.v.i) := B2.cell 2; have c2_3 : w1.cell? ⟨_, 3, none⟩ = some (.string j.v.t) := B2.cell 3; have c2_4 : w1.cell? ⟨_, 4, none⟩ = some (.slice j.v.LA j.v.Ln j.v.Lc) := B2.cell 4; have c2_5 : w1.cell? ⟨_, 5, none⟩ = some (.slice j.v.FA j.v.Fn j.v.Fc) := B2.cell 5; have L12 := qAW.lt B2)
    | ((with_reducible refine qAG ?_); refine qAO 6 rfl rfl 25 rfl rfl (.tmp 13) rfl _ qAY (lfJ 0 false 0 ⟨#[]⟩).cells rfl rfl qAA rfl (qAP _) ?_; intro w3 hw; have hb := qAD hw; have B6 := (qAC hw).1; replace HB := zT HB hb; replace B2 := zI B2 hb; replace B4 := zI B4 hb; (try replace c2_0 := qAB hb c2_0); (try replace c2_1 := qAB hb c2_1); (try replace c2_2 := qAB hb c2_2); (try replace c2_3 := qAB hb c2_3); (try replace c2_4 := qAB hb c2_4); (try replace c2_5 := qAB hb c2_5); clear hb hw; have L23 := qAW.lt B6)
    | ((with_reducible refine qAG ?_); refine qAE rfl 25 rfl _ qAY ?_; intro w2 hw; have hb := qAD hw; have B4 := qAI hw; replace HB := zT HB hb; replace B2 := zI B2 hb; (try replace c2_0 := qAB hb c2_0); (try replace c2_1 := qAB hb c2_1); (try replace c2_2 := qAB hb c2_2); (try replace c2_3 := qAB hb c2_3); (try replace c2_4 := qAB hb c2_4); (try replace c2_5 := qAB hb c2_5); clear hb hw; have L14 := qAW.lt B4)
    | ((with_reducible refine qAT ?_); refine qAK (qBS 0) rfl _ rfl rfl ?_)
    | ((with_reducible refine qAR ?_); refine qAL rfl 25 (.tmp 6) rfl _ rfl _ _ _ B6 Tryz.underlying25 rfl qAA ?_)
    | ((with_reducible refine qAF ?_); refine qAH rfl 25 (.tmp 4) (.tmp 89) rfl _ (lfJ 0 false 0 ⟨#[]⟩).cells rfl rfl _ _ B4 qAA rfl (qAP _) ?_; intro w7 hw; have hq := qAN hw (show w.heap.size ≤ w1.heap.size by omega) HB; replace HB := hq.1; (try replace NH := NH.bes (Bes.row (X := fun q => q = w1.heap.size) hw rfl) (fun q e => by have e2 : q = w1.heap.size := e; omega)); replace B4 := qAQ hw B4; clear hq hw))
   exact bodyPost_ret (qA6 rfl _ _ w1.heap.size (lfJ 0 false 0 ⟨#[]⟩).cells .nilIface rfl rfl B4 qAA) rfl (NmV.ok HS.out HB (qIF mi0 mi0 mze) HER.out (qJa _ _ _ _ _) (qIn (by decide)))
  ·by_cases hk1 : j.v.kind = 1
   ·have HKD := Lib.hid hk1; have HS := Lib.hid (qN9 (d := 32 - D) hk1); have HER := Lib.hid (qOd hk1); clear hk1; go_enter Tryz.func42, Tryz.ntmps42
    go_wp2_with (first
     | (refine qAM rfl 25 (.tmp 0) rfl _ rfl ?_; intro w1 hw; have hb := qAD hw; have B2 := (qAC hw).1; replace HB := zT HB hb; clear hb hw; have c2_0 : w1.cell? ⟨_, 0, none⟩ = some (.int .i64 1) := (B2.cell 0).trans (by rw [← HKD.out]; rfl); have c2_1 : w1.cell? ⟨_, 1, none⟩ = some (.bool j.v.b) := B2.cell 1; have c2_2 : w1.cell? ⟨_, 2, none⟩ = some (.int .i64 j.v.i) := B2.cell 2; have c2_3 : w1.cell? ⟨_, 3, none⟩ = some (.string j.v.t) := B2.cell 3; have c2_4 : w1.cell? ⟨_, 4, none⟩ = some (.slice j.v.LA j.v.Ln j.v.Lc) := B2.cell 4; have c2_5 : w1.cell? ⟨_, 5, none⟩ = some (.slice j.v.FA j.v.Fn j.v.Fc) := B2.cell 5; have L12 := qAW.lt B2)
     | ((with_reducible refine qAG ?_); refine qAO 6 rfl rfl 25 rfl rfl (.tmp 13) rfl _ qAY (lfJ 1 false 0 ⟨#[]⟩).cells rfl rfl qAA rfl (qAP _) ?_; intro w3 hw; have hb := qAD hw; have B6 := (qAC hw).1; replace HB := zT HB hb; replace B2 := zI B2 hb; replace B4 := zI B4 hb; (try replace c2_0 := qAB hb c2_0); (try replace c2_1 := qAB hb c2_1); (try replace c2_2 := qAB hb c2_2); (try replace c2_3 := qAB hb c2_3); (try replace c2_4 := qAB hb c2_4); (try replace c2_5 := qAB hb c2_5); clear hb hw; have L23 := qAW.lt B6)
     | ((with_reducible refine qAG ?_); refine qAE rfl 25 rfl _ qAY ?_; intro w2 hw; have hb := qAD hw; have B4 := qAI hw; replace HB := zT HB hb; replace B2 := zI B2 hb; (try replace c2_0 := qAB hb c2_0); (try replace c2_1 := qAB hb c2_1); (try replace c2_2 := qAB hb c2_2); (try replace c2_3 := qAB hb c2_3); (try replace c2_4 := qAB hb c2_4); (try replace c2_5 := qAB hb c2_5); clear hb hw; have L14 := qAW.lt B4)
     | ((with_reducible refine qAT ?_); refine qAK (qBS 1) rfl _ rfl rfl ?_)
     | ((with_reducible refine qAF ?_); refine qAs rfl 4 (.tmp 24) (.tmp 23) rfl _ 1 rfl (.bool j.v.b) rfl _ _ B6 (qLZ _ _ _ _ (by decide)) qKJ rfl ?_; intro w5 hw; have hq := qAN hw (show w.heap.size ≤ w2.heap.size by omega) HB; replace HB := hq.1; replace B4 := qAu hw (show w1.heap.size ≠ w2.heap.size by omega) B4; replace B6 := qAQ hw B6; rw [qME] at B6; clear hq hw)
     | ((with_reducible refine qAR ?_); refine qAL rfl 25 (.tmp 6) rfl _ rfl _ _ _ B6 Tryz.underlying25 rfl qAA ?_)
     | ((with_reducible refine qAF ?_); refine qAH rfl 25 (.tmp 4) (.tmp 89) rfl _ (lfJ 1 j.v.b 0 ⟨#[]⟩).cells rfl rfl _ _ B4 qAA rfl (qAP _) ?_; intro w7 hw; have hq := qAN hw (show w.heap.size ≤ w1.heap.size by omega) HB; replace HB := hq.1; (try replace NH := NH.bes (Bes.row (X := fun q => q = w1.heap.size) hw rfl) (fun q e => by have e2 : q = w1.heap.size := e; omega)); replace B4 := qAQ hw B4; clear hq hw))
    exact bodyPost_ret (qA6 rfl _ _ w1.heap.size (lfJ 1 j.v.b 0 ⟨#[]⟩).cells .nilIface rfl rfl B4 qAA) rfl (NmV.ok HS.out HB (qIF mi1 mi0 mze) HER.out (qJa _ _ _ _ _) (qIn (by decide)))
   ·by_cases hk2 : j.v.kind = 2
    ·have HKD := Lib.hid hk2
     by_cases hhi : 9007199254740991 < j.v.i
     ·have HS := Lib.hid (show qBc (er j) (32 - D) = false by rw [qIW hk2, decide_eq_false (by omega), Bool.false_and]); clear hk2; go_enter Tryz.func42, Tryz.ntmps42
      go_wp2_with (first
       | (refine qAM rfl 25 (.tmp 0) rfl _ rfl ?_; intro w1 hw; have hb := qAD hw; have B2 := (qAC hw).1; replace HB := zT HB hb; clear hb hw; have c2_0 : w1.cell? ⟨_, 0, none⟩ = some (.int .i64 2) := (B2.cell 0).trans (by rw [← HKD.out]; rfl); have c2_1 : w1.cell? ⟨_, 1, none⟩ = some (.bool j.v.b) := B2.cell 1; have c2_2 : w1.cell? ⟨_, 2, none⟩ = some (.int .i64 j.v.i) := B2.cell 2; have c2_3 : w1.cell? ⟨_, 3, none⟩ = some (.string j.v.t) := B2.cell 3; have c2_4 : w1.cell? ⟨_, 4, none⟩ = some (.slice j.v.LA j.v.Ln j.v.Lc) := B2.cell 4; have c2_5 : w1.cell? ⟨_, 5, none⟩ = some (.slice j.v.FA j.v.Fn j.v.Fc) := B2.cell 5; have L12 := qAW.lt B2)
       | ((with_reducible refine qAG ?_); refine qAO 6 rfl rfl 25 rfl rfl (.tmp 13) rfl _ qAY (lfJ 2 false 0 ⟨#[]⟩).cells rfl rfl qAA rfl (qAP _) ?_; intro w3 hw; have hb := qAD hw; have B6 := (qAC hw).1; replace HB := zT HB hb; replace B2 := zI B2 hb; replace B4 := zI B4 hb; (try replace c2_0 := qAB hb c2_0); (try replace c2_1 := qAB hb c2_1); (try replace c2_2 := qAB hb c2_2); (try replace c2_3 := qAB hb c2_3); (try replace c2_4 := qAB hb c2_4); (try replace c2_5 := qAB hb c2_5); clear hb hw; have L23 := qAW.lt B6)
       | ((with_reducible refine qAG ?_); refine qAE rfl 25 rfl _ qAY ?_; intro w2 hw; have hb := qAD hw; have B4 := qAI hw; replace HB := zT HB hb; replace B2 := zI B2 hb; (try replace c2_0 := qAB hb c2_0); (try replace c2_1 := qAB hb c2_1); (try replace c2_2 := qAB hb c2_2); (try replace c2_3 := qAB hb c2_3); (try replace c2_4 := qAB hb c2_4); (try replace c2_5 := qAB hb c2_5); clear hb hw; have L14 := qAW.lt B4)
       | ((with_reducible refine qAT ?_); refine qAK (qBS 2) rfl _ rfl rfl ?_)
       | ((with_reducible refine qAT ?_); refine qAK (qBH) rfl _ rfl rfl ?_)
       | ((with_reducible refine qAF ?_); refine qAH rfl 25 (.tmp 4) (.tmp 35) rfl _ JV.zero.cells rfl rfl _ _ B4 qAA rfl (qAP _) ?_; intro w7 hw; have hq := qAN hw (show w.heap.size ≤ w1.heap.size by omega) HB; replace HB := hq.1; (try replace NH := NH.bes (Bes.row (X := fun q => q = w1.heap.size) hw rfl) (fun q e => by have e2 : q = w1.heap.size := e; omega)); replace B4 := qAQ hw B4; clear hq hw))
      exact bodyPost_ret (qA6 rfl _ _ w1.heap.size JV.zero.cells (.iface 31 (.int .i64 8)) rfl rfl B4 qAA) rfl (NmV.no HS.out HB)
     ·by_cases hlo : j.v.i < -9007199254740991
      ·have HS := Lib.hid (show qBc (er j) (32 - D) = false by rw [qIW hk2, show decide (-9007199254740991 ≤ j.v.i) = false from decide_eq_false (by omega), Bool.and_false]); clear hk2; go_enter Tryz.func42, Tryz.ntmps42
       go_wp2_with (first
        | (refine qAM rfl 25 (.tmp 0) rfl _ rfl ?_; intro w1 hw; have hb := qAD hw; have B2 := (qAC hw).1; replace HB := zT HB hb; clear hb hw; have c2_0 : w1.cell? ⟨_, 0, none⟩ = some (.int .i64 2) := (B2.cell 0).trans (by rw [← HKD.out]; rfl); have c2_1 : w1.cell? ⟨_, 1, none⟩ = some (.bool j.v.b) := B2.cell 1; have c2_2 : w1.cell? ⟨_, 2, none⟩ = some (.int .i64 j.v.i) := B2.cell 2; have c2_3 : w1.cell? ⟨_, 3, none⟩ = some (.string j.v.t) := B2.cell 3; have c2_4 : w1.cell? ⟨_, 4, none⟩ = some (.slice j.v.LA j.v.Ln j.v.Lc) := B2.cell 4; have c2_5 : w1.cell? ⟨_, 5, none⟩ = some (.slice j.v.FA j.v.Fn j.v.Fc) := B2.cell 5; have L12 := qAW.lt B2)
        | ((with_reducible refine qAG ?_); refine qAO 6 rfl rfl 25 rfl rfl (.tmp 13) rfl _ qAY (lfJ 2 false 0 ⟨#[]⟩).cells rfl rfl qAA rfl (qAP _) ?_; intro w3 hw; have hb := qAD hw; have B6 := (qAC hw).1; replace HB := zT HB hb; replace B2 := zI B2 hb; replace B4 := zI B4 hb; (try replace c2_0 := qAB hb c2_0); (try replace c2_1 := qAB hb c2_1); (try replace c2_2 := qAB hb c2_2); (try replace c2_3 := qAB hb c2_3); (try replace c2_4 := qAB hb c2_4); (try replace c2_5 := qAB hb c2_5); clear hb hw; have L23 := qAW.lt B6)
        | ((with_reducible refine qAG ?_); refine qAE rfl 25 rfl _ qAY ?_; intro w2 hw; have hb := qAD hw; have B4 := qAI hw; replace HB := zT HB hb; replace B2 := zI B2 hb; (try replace c2_0 := qAB hb c2_0); (try replace c2_1 := qAB hb c2_1); (try replace c2_2 := qAB hb c2_2); (try replace c2_3 := qAB hb c2_3); (try replace c2_4 := qAB hb c2_4); (try replace c2_5 := qAB hb c2_5); clear hb hw; have L14 := qAW.lt B4)
        | ((with_reducible refine qAT ?_); refine qAK (qBS 2) rfl _ rfl rfl ?_)
        | ((with_reducible refine qAT ?_); refine qAK (qBH) rfl _ rfl rfl ?_)
        | ((with_reducible refine qAF ?_); refine qAH rfl 25 (.tmp 4) (.tmp 35) rfl _ JV.zero.cells rfl rfl _ _ B4 qAA rfl (qAP _) ?_; intro w7 hw; have hq := qAN hw (show w.heap.size ≤ w1.heap.size by omega) HB; replace HB := hq.1; (try replace NH := NH.bes (Bes.row (X := fun q => q = w1.heap.size) hw rfl) (fun q e => by have e2 : q = w1.heap.size := e; omega)); replace B4 := qAQ hw B4; clear hq hw))
       exact bodyPost_ret (qA6 rfl _ _ w1.heap.size JV.zero.cells (.iface 31 (.int .i64 8)) rfl rfl B4 qAA) rfl (NmV.no HS.out HB)
      ·have HS := Lib.hid (show qBc (er j) (32 - D) = true by rw [qIW hk2, decide_eq_true (by omega), decide_eq_true (by omega)]; rfl); have HER := Lib.hid (qNy hk2); clear hk2; go_enter Tryz.func42, Tryz.ntmps42
       go_wp2_with (first
        | (refine qAM rfl 25 (.tmp 0) rfl _ rfl ?_; intro w1 hw; have hb := qAD hw; have B2 := (qAC hw).1; replace HB := zT HB hb; clear hb hw; have c2_0 : w1.cell? ⟨_, 0, none⟩ = some (.int .i64 2) := (B2.cell 0).trans (by rw [← HKD.out]; rfl); have c2_1 : w1.cell? ⟨_, 1, none⟩ = some (.bool j.v.b) := B2.cell 1; have c2_2 : w1.cell? ⟨_, 2, none⟩ = some (.int .i64 j.v.i) := B2.cell 2; have c2_3 : w1.cell? ⟨_, 3, none⟩ = some (.string j.v.t) := B2.cell 3; have c2_4 : w1.cell? ⟨_, 4, none⟩ = some (.slice j.v.LA j.v.Ln j.v.Lc) := B2.cell 4; have c2_5 : w1.cell? ⟨_, 5, none⟩ = some (.slice j.v.FA j.v.Fn j.v.Fc) := B2.cell 5; have L12 := qAW.lt B2)
        | ((with_reducible refine qAG ?_); refine qAO 6 rfl rfl 25 rfl rfl (.tmp 13) rfl _ qAY (lfJ 2 false 0 ⟨#[]⟩).cells rfl rfl qAA rfl (qAP _) ?_; intro w3 hw; have hb := qAD hw; have B6 := (qAC hw).1; replace HB := zT HB hb; replace B2 := zI B2 hb; replace B4 := zI B4 hb; (try replace c2_0 := qAB hb c2_0); (try replace c2_1 := qAB hb c2_1); (try replace c2_2 := qAB hb c2_2); (try replace c2_3 := qAB hb c2_3); (try replace c2_4 := qAB hb c2_4); (try replace c2_5 := qAB hb c2_5); clear hb hw; have L23 := qAW.lt B6)
        | ((with_reducible refine qAG ?_); refine qAE rfl 25 rfl _ qAY ?_; intro w2 hw; have hb := qAD hw; have B4 := qAI hw; replace HB := zT HB hb; replace B2 := zI B2 hb; (try replace c2_0 := qAB hb c2_0); (try replace c2_1 := qAB hb c2_1); (try replace c2_2 := qAB hb c2_2); (try replace c2_3 := qAB hb c2_3); (try replace c2_4 := qAB hb c2_4); (try replace c2_5 := qAB hb c2_5); clear hb hw; have L14 := qAW.lt B4)
        | ((with_reducible refine qAT ?_); refine qAK (qBS 2) rfl _ rfl rfl ?_)
        | ((with_reducible refine qAF ?_); refine qAs rfl 2 (.tmp 39) (.tmp 38) rfl _ 2 rfl (.int .i64 j.v.i) rfl _ _ B6 (qLZ _ _ _ _ (by decide)) qKe rfl ?_; intro w5 hw; have hq := qAN hw (show w.heap.size ≤ w2.heap.size by omega) HB; replace HB := hq.1; replace B4 := qAu hw (show w1.heap.size ≠ w2.heap.size by omega) B4; replace B6 := qAQ hw B6; rw [qMZ] at B6; clear hq hw)
        | ((with_reducible refine qAR ?_); refine qAL rfl 25 (.tmp 6) rfl _ rfl _ _ _ B6 Tryz.underlying25 rfl qAA ?_)
        | ((with_reducible refine qAF ?_); refine qAH rfl 25 (.tmp 4) (.tmp 89) rfl _ (lfJ 2 false j.v.i ⟨#[]⟩).cells rfl rfl _ _ B4 qAA rfl (qAP _) ?_; intro w7 hw; have hq := qAN hw (show w.heap.size ≤ w1.heap.size by omega) HB; replace HB := hq.1; (try replace NH := NH.bes (Bes.row (X := fun q => q = w1.heap.size) hw rfl) (fun q e => by have e2 : q = w1.heap.size := e; omega)); replace B4 := qAQ hw B4; clear hq hw))
       exact bodyPost_ret (qA6 rfl _ _ w1.heap.size (lfJ 2 false j.v.i ⟨#[]⟩).cells .nilIface rfl rfl B4 qAA) rfl (NmV.ok HS.out HB (qIF mi2 HI64.out mze) HER.out (qJa _ _ _ _ _) (qIn (by decide)))
    ·by_cases hk3 : j.v.kind = 3
     ·have HKD := Lib.hid hk3
      by_cases hbn : qCk j.v.t < 0
      ·(have hbn2 : ¬ (0 : Int) ≤ qCk j.v.t := by omega); have HS0 := Lib.hid (show qBc (er j) (32 - D) = true by rw [qLv hk3, decide_eq_true hbn]); obtain ⟨bi, hbi⟩ : ∃ bi, bi = qCk j.v.t := ⟨_, rfl⟩; have HBI := Lib.hid hbi; rw [← hbi] at hbn hbn2; clear hbi; have HS := Lib.hid (HS0.out); have HER := Lib.hid (qNx hk3); clear hk3; go_enter Tryz.func42, Tryz.ntmps42
       go_wp2_with (first
        | (refine qAM rfl 25 (.tmp 0) rfl _ rfl ?_; intro w1 hw; have hb := qAD hw; have B2 := (qAC hw).1; replace HB := zT HB hb; clear hb hw; have c2_0 : w1.cell? ⟨_, 0, none⟩ = some (.int .i64 3) := (B2.cell 0).trans (by rw [← HKD.out]; rfl); have c2_1 : w1.cell? ⟨_, 1, none⟩ = some (.bool j.v.b) := B2.cell 1; have c2_2 : w1.cell? ⟨_, 2, none⟩ = some (.int .i64 j.v.i) := B2.cell 2; have c2_3 : w1.cell? ⟨_, 3, none⟩ = some (.string j.v.t) := B2.cell 3; have c2_4 : w1.cell? ⟨_, 4, none⟩ = some (.slice j.v.LA j.v.Ln j.v.Lc) := B2.cell 4; have c2_5 : w1.cell? ⟨_, 5, none⟩ = some (.slice j.v.FA j.v.Fn j.v.Fc) := B2.cell 5; have L12 := qAW.lt B2)
        | ((with_reducible refine qAG ?_); refine qAO 6 rfl rfl 25 rfl rfl (.tmp 13) rfl _ qAY (lfJ 3 false 0 ⟨#[]⟩).cells rfl rfl qAA rfl (qAP _) ?_; intro w3 hw; have hb := qAD hw; have B6 := (qAC hw).1; replace HB := zT HB hb; replace B2 := zI B2 hb; replace B4 := zI B4 hb; (try replace c2_0 := qAB hb c2_0); (try replace c2_1 := qAB hb c2_1); (try replace c2_2 := qAB hb c2_2); (try replace c2_3 := qAB hb c2_3); (try replace c2_4 := qAB hb c2_4); (try replace c2_5 := qAB hb c2_5); clear hb hw; have L23 := qAW.lt B6)
        | ((with_reducible refine qAG ?_); refine qAE rfl 25 rfl _ qAY ?_; intro w2 hw; have hb := qAD hw; have B4 := qAI hw; replace HB := zT HB hb; replace B2 := zI B2 hb; (try replace c2_0 := qAB hb c2_0); (try replace c2_1 := qAB hb c2_1); (try replace c2_2 := qAB hb c2_2); (try replace c2_3 := qAB hb c2_3); (try replace c2_4 := qAB hb c2_4); (try replace c2_5 := qAB hb c2_5); clear hb hw; have L14 := qAW.lt B4)
        | ((with_reducible refine qAT ?_); refine qAK (qBS 3) rfl _ rfl rfl ?_)
        | (go_at_call 64; (refine (qEv (glN HB HG.out) hts).mono ?_); rw [← HBI.out]; rintro e w4 ⟨rfl, hb⟩; replace HB := zT HB hb; replace B2 := zI B2 hb; replace B4 := zI B4 hb; replace B6 := zI B6 hb; (try replace c2_0 := qAB hb c2_0); (try replace c2_1 := qAB hb c2_1); (try replace c2_2 := qAB hb c2_2); (try replace c2_3 := qAB hb c2_3); (try replace c2_4 := qAB hb c2_4); (try replace c2_5 := qAB hb c2_5); clear hb)
        | ((with_reducible refine qAF ?_); refine qAs rfl 9 (.tmp 50) (.tmp 49) rfl _ 3 rfl (.string j.v.t) rfl _ _ B6 (qLZ _ _ _ _ (by decide)) qKV rfl ?_; intro w5 hw; have hq := qAN hw (show w.heap.size ≤ w2.heap.size by omega) HB; replace HB := hq.1; replace B4 := qAu hw (show w1.heap.size ≠ w2.heap.size by omega) B4; replace B6 := qAQ hw B6; rw [qMh] at B6; clear hq hw)
        | ((with_reducible refine qAR ?_); refine qAL rfl 25 (.tmp 6) rfl _ rfl _ _ _ B6 Tryz.underlying25 rfl qAA ?_)
        | ((with_reducible refine qAF ?_); refine qAH rfl 25 (.tmp 4) (.tmp 89) rfl _ (lfJ 3 false 0 j.v.t).cells rfl rfl _ _ B4 qAA rfl (qAP _) ?_; intro w7 hw; have hq := qAN hw (show w.heap.size ≤ w1.heap.size by omega) HB; replace HB := hq.1; (try replace NH := NH.bes (Bes.row (X := fun q => q = w1.heap.size) hw rfl) (fun q e => by have e2 : q = w1.heap.size := e; omega)); replace B4 := qAQ hw B4; clear hq hw))
       exact bodyPost_ret (qA6 rfl _ _ w1.heap.size (lfJ 3 false 0 j.v.t).cells .nilIface rfl rfl B4 qAA) rfl (NmV.ok HS.out HB (qIF mi3 mi0 HTR.out) HER.out (qJa _ _ _ _ _) (qIn (by decide)))
      ·(have hbn2 : (0 : Int) ≤ qCk j.v.t := by omega); have HS0 := Lib.hid (show qBc (er j) (32 - D) = false by rw [qLv hk3, decide_eq_false hbn]); obtain ⟨bi, hbi⟩ : ∃ bi, bi = qCk j.v.t := ⟨_, rfl⟩; have HBI := Lib.hid hbi; rw [← hbi] at hbn hbn2; clear hbi; have HS := Lib.hid (HS0.out); clear hk3; go_enter Tryz.func42, Tryz.ntmps42
       go_wp2_with (first
        | (refine qAM rfl 25 (.tmp 0) rfl _ rfl ?_; intro w1 hw; have hb := qAD hw; have B2 := (qAC hw).1; replace HB := zT HB hb; clear hb hw; have c2_0 : w1.cell? ⟨_, 0, none⟩ = some (.int .i64 3) := (B2.cell 0).trans (by rw [← HKD.out]; rfl); have c2_1 : w1.cell? ⟨_, 1, none⟩ = some (.bool j.v.b) := B2.cell 1; have c2_2 : w1.cell? ⟨_, 2, none⟩ = some (.int .i64 j.v.i) := B2.cell 2; have c2_3 : w1.cell? ⟨_, 3, none⟩ = some (.string j.v.t) := B2.cell 3; have c2_4 : w1.cell? ⟨_, 4, none⟩ = some (.slice j.v.LA j.v.Ln j.v.Lc) := B2.cell 4; have c2_5 : w1.cell? ⟨_, 5, none⟩ = some (.slice j.v.FA j.v.Fn j.v.Fc) := B2.cell 5; have L12 := qAW.lt B2)
        | ((with_reducible refine qAG ?_); refine qAO 6 rfl rfl 25 rfl rfl (.tmp 13) rfl _ qAY (lfJ 3 false 0 ⟨#[]⟩).cells rfl rfl qAA rfl (qAP _) ?_; intro w3 hw; have hb := qAD hw; have B6 := (qAC hw).1; replace HB := zT HB hb; replace B2 := zI B2 hb; replace B4 := zI B4 hb; (try replace c2_0 := qAB hb c2_0); (try replace c2_1 := qAB hb c2_1); (try replace c2_2 := qAB hb c2_2); (try replace c2_3 := qAB hb c2_3); (try replace c2_4 := qAB hb c2_4); (try replace c2_5 := qAB hb c2_5); clear hb hw; have L23 := qAW.lt B6)
        | ((with_reducible refine qAG ?_); refine qAE rfl 25 rfl _ qAY ?_; intro w2 hw; have hb := qAD hw; have B4 := qAI hw; replace HB := zT HB hb; replace B2 := zI B2 hb; (try replace c2_0 := qAB hb c2_0); (try replace c2_1 := qAB hb c2_1); (try replace c2_2 := qAB hb c2_2); (try replace c2_3 := qAB hb c2_3); (try replace c2_4 := qAB hb c2_4); (try replace c2_5 := qAB hb c2_5); clear hb hw; have L14 := qAW.lt B4)
        | ((with_reducible refine qAT ?_); refine qAK (qBS 3) rfl _ rfl rfl ?_)
        | (go_at_call 64; (refine (qEv (glN HB HG.out) hts).mono ?_); rw [← HBI.out]; rintro e w4 ⟨rfl, hb⟩; replace HB := zT HB hb; replace B2 := zI B2 hb; replace B4 := zI B4 hb; replace B6 := zI B6 hb; (try replace c2_0 := qAB hb c2_0); (try replace c2_1 := qAB hb c2_1); (try replace c2_2 := qAB hb c2_2); (try replace c2_3 := qAB hb c2_3); (try replace c2_4 := qAB hb c2_4); (try replace c2_5 := qAB hb c2_5); clear hb)
        | ((with_reducible refine qAT ?_); refine qAK (qBH) rfl _ rfl rfl ?_)
        | ((with_reducible refine qAF ?_); refine qAH rfl 25 (.tmp 4) (.tmp 46) rfl _ JV.zero.cells rfl rfl _ _ B4 qAA rfl (qAP _) ?_; intro w7 hw; have hq := qAN hw (show w.heap.size ≤ w1.heap.size by omega) HB; replace HB := hq.1; (try replace NH := NH.bes (Bes.row (X := fun q => q = w1.heap.size) hw rfl) (fun q e => by have e2 : q = w1.heap.size := e; omega)); replace B4 := qAQ hw B4; clear hq hw))
       exact bodyPost_ret (qA6 rfl _ _ w1.heap.size JV.zero.cells (.iface 31 (.int .i64 8)) rfl rfl B4 qAA) rfl (NmV.no HS.out HB)
     ·by_cases hk4 : j.v.kind = 4
      ·have HKD := Lib.hid hk4
       by_cases hD : D = 32
       ·have HS := Lib.hid (show qBc (er j) (32 - D) = false by rw [hD]; exact qJH (.inl hk4)); clear hk4; subst hD; go_enter Tryz.func42, Tryz.ntmps42
        go_wp2_with (first
         | (refine qAM rfl 25 (.tmp 0) rfl _ rfl ?_; intro w1 hw; have hb := qAD hw; have B2 := (qAC hw).1; replace HB := zT HB hb; clear hb hw; have c2_0 : w1.cell? ⟨_, 0, none⟩ = some (.int .i64 4) := (B2.cell 0).trans (by rw [← HKD.out]; rfl); have c2_1 : w1.cell? ⟨_, 1, none⟩ = some (.bool j.v.b) := B2.cell 1; have c2_2 : w1.cell? ⟨_, 2, none⟩ = some (.int .i64 j.v.i) := B2.cell 2; have c2_3 : w1.cell? ⟨_, 3, none⟩ = some (.string j.v.t) := B2.cell 3; have c2_4 : w1.cell? ⟨_, 4, none⟩ = some (.slice j.v.LA j.v.Ln j.v.Lc) := B2.cell 4; have c2_5 : w1.cell? ⟨_, 5, none⟩ = some (.slice j.v.FA j.v.Fn j.v.Fc) := B2.cell 5; have L12 := qAW.lt B2)
         | ((with_reducible refine qAG ?_); refine qAO 6 rfl rfl 25 rfl rfl (.tmp 13) rfl _ qAY (lfJ 4 false 0 ⟨#[]⟩).cells rfl rfl qAA rfl (qAP _) ?_; intro w3 hw; have hb := qAD hw; have B6 := (qAC hw).1; replace HB := zT HB hb; replace B2 := zI B2 hb; replace B4 := zI B4 hb; (try replace c2_0 := qAB hb c2_0); (try replace c2_1 := qAB hb c2_1); (try replace c2_2 := qAB hb c2_2); (try replace c2_3 := qAB hb c2_3); (try replace c2_4 := qAB hb c2_4); (try replace c2_5 := qAB hb c2_5); clear hb hw; have L23 := qAW.lt B6)
         | ((with_reducible refine qAG ?_); refine qAE rfl 25 rfl _ qAY ?_; intro w2 hw; have hb := qAD hw; have B4 := qAI hw; replace HB := zT HB hb; replace B2 := zI B2 hb; (try replace c2_0 := qAB hb c2_0); (try replace c2_1 := qAB hb c2_1); (try replace c2_2 := qAB hb c2_2); (try replace c2_3 := qAB hb c2_3); (try replace c2_4 := qAB hb c2_4); (try replace c2_5 := qAB hb c2_5); clear hb hw; have L14 := qAW.lt B4)
         | ((with_reducible refine qAT ?_); refine qAK (qBS 4) rfl _ rfl rfl ?_)
         | ((with_reducible refine qAT ?_); refine qAK (qBH) rfl _ rfl rfl ?_)
         | ((with_reducible refine qAF ?_); refine qAH rfl 25 (.tmp 4) (.tmp 55) rfl _ JV.zero.cells rfl rfl _ _ B4 qAA rfl (qAP _) ?_; intro w7 hw; have hq := qAN hw (show w.heap.size ≤ w1.heap.size by omega) HB; replace HB := hq.1; (try replace NH := NH.bes (Bes.row (X := fun q => q = w1.heap.size) hw rfl) (fun q e => by have e2 : q = w1.heap.size := e; omega)); replace B4 := qAQ hw B4; clear hq hw))
        exact bodyPost_ret (qA6 rfl _ _ w1.heap.size JV.zero.cells (.iface 31 (.int .i64 8)) rfl rfl B4 qAA) rfl (NmV.no HS.out HB)
       ·(have hD2 : D < 32 := by omega); (have hDb : (D == 32) = false := by simp; omega); have HSI := Lib.hid (qHS hk4 hD0 hD2); (have hDw : D + 1 ≤ 32 := by omega); obtain ⟨ie, z, hie1, hie2, hie3, hie4, hzz⟩ := qFJ; subst hzz; have HFN : Hid (j.v.Ln ≤ 1048576) := Lib.hid (by have := HSP.out.1; have := LL.out; have := HZ.out; omega); clear hk4 hD; go_enter Tryz.func42, Tryz.ntmps42
        go_wp2_with (first
         | (refine qAM rfl 25 (.tmp 0) rfl _ rfl ?_; intro w1 hw; have hb := qAD hw; have B2 := (qAC hw).1; replace HB := zT HB hb; clear hb hw; have c2_0 : w1.cell? ⟨_, 0, none⟩ = some (.int .i64 4) := (B2.cell 0).trans (by rw [← HKD.out]; rfl); have c2_1 : w1.cell? ⟨_, 1, none⟩ = some (.bool j.v.b) := B2.cell 1; have c2_2 : w1.cell? ⟨_, 2, none⟩ = some (.int .i64 j.v.i) := B2.cell 2; have c2_3 : w1.cell? ⟨_, 3, none⟩ = some (.string j.v.t) := B2.cell 3; have c2_4 : w1.cell? ⟨_, 4, none⟩ = some (.slice j.v.LA j.v.Ln j.v.Lc) := B2.cell 4; have c2_5 : w1.cell? ⟨_, 5, none⟩ = some (.slice j.v.FA j.v.Fn j.v.Fc) := B2.cell 5; have L12 := qAW.lt B2)
         | ((with_reducible refine qAG ?_); refine qAO 6 rfl rfl 25 rfl rfl (.tmp 13) rfl _ qAY (lfJ 4 false 0 ⟨#[]⟩).cells rfl rfl qAA rfl (qAP _) ?_; intro w3 hw; have hb := qAD hw; have B6 := (qAC hw).1; replace HB := zT HB hb; replace B2 := zI B2 hb; replace B4 := zI B4 hb; (try replace c2_0 := qAB hb c2_0); (try replace c2_1 := qAB hb c2_1); (try replace c2_2 := qAB hb c2_2); (try replace c2_3 := qAB hb c2_3); (try replace c2_4 := qAB hb c2_4); (try replace c2_5 := qAB hb c2_5); clear hb hw; have L23 := qAW.lt B6)
         | ((with_reducible refine qAG ?_); refine qAE rfl 25 rfl _ qAY ?_; intro w2 hw; have hb := qAD hw; have B4 := qAI hw; replace HB := zT HB hb; replace B2 := zI B2 hb; (try replace c2_0 := qAB hb c2_0); (try replace c2_1 := qAB hb c2_1); (try replace c2_2 := qAB hb c2_2); (try replace c2_3 := qAB hb c2_3); (try replace c2_4 := qAB hb c2_4); (try replace c2_5 := qAB hb c2_5); clear hb hw; have L14 := qAW.lt B4)
         | ((with_reducible refine qAT ?_); refine qAK (qBS 4) rfl _ rfl rfl ?_))
        clear c2_0 c2_1 c2_2 c2_3 c2_4 c2_5; have hbase : w.heap.size ≤ w3.heap.size := HB.size; replace B6 : qAW w3 w2.heap.size 25 (LC (.slice none 0 0)) := B6
        go_loopw [60] (fun i wr => ∃ (q : Nat) (L : List JV) (v : Value), q ≤ j.v.Ln ∧ i = .int .i64 q ∧ Hid (L.map er = ((erL j.l).take q).map qBP) ∧ Hid (∀ x ∈ (erL j.l).take q, qBc x (32 - (D + 1)) = true) ∧ Hid (L.length = q) ∧ NK w3.heap.size 25 6 v L.length (qDK L) L wr ∧ qAW wr w1.heap.size 25 JV.zero.cells ∧ qAW wr w2.heap.size 25 (LC v) ∧ Below w.heap.size w wr) (fun i _ => j.v.Ln - (intOf i).toNat)
        case atStart => exact ⟨0, [], .slice none 0 0, Nat.zero_le _, rfl, Lib.hid rfl, Lib.hid (fun n hn => by simp at hn), Lib.hid rfl, NK.start (Nat.le_refl _), B4, B6, HB⟩
        case round =>
         clear B2 B4 B6 HB; obtain ⟨q, L, v, hq, rfl, H2, H4, HLq, NH, B4, B6, HB⟩ := hrel; have c6 : wr.cell? ⟨w2.heap.size, 4, none⟩ = some v := (B6.cell 4).trans rfl
         by_cases hlt : q < j.v.Ln
         ·have HJ := HJ0.out.below HB; obtain ⟨bl, off, x, hA, hx, RX, HX⟩ := qDv HJ (show q < j.l.length by have := LL.out; omega); clear HJ; have HSZ := Lib.hid (show SizeOf.sizeOf x < sz by have := qFB hx; have := SZ.out; omega); have HZX := Lib.hid (show SzT (er x) ≤ 1048576 from Nat.le_trans (HSP.out.2.2.1 _ _ hx) HZ.out); have HXX := Lib.hid hx; (have hbd : 0 ≤ (q : Int) ∧ (q : Int) < j.v.Ln := by omega); (have hlt2 : (q : Int) < j.v.Ln := by omega); have HA := Lib.hid hA; clear hx hA; rw [HA.out]
          by_cases hsx : qBc (er x) (32 - (D + 1)) = true
          ·have HSX := Lib.hid hsx; clear hsx
           go_wp2_with (first
            | ((with_reducible refine qAR ?_); refine qAX rfl 25 (.tmp 62) rfl _ _ rfl x.cells _ RX Tryz.underlying25 rfl qAA ?_)
            | ((with_reducible refine qAG ?_); refine qAO 8 rfl rfl 25 rfl rfl (.tmp 63) rfl _ qAY x.cells rfl rfl qAA rfl (qAP _) ?_; intro w5 hw; have hb := qAD hw; have B8 := (qAC hw).1; clear RX; replace HB := zT HB hb; (try replace B2 := zI B2 hb); (try replace B4 := zI B4 hb); (try replace B6 := zI B6 hb); (try replace B9 := zI B9 hb); (try replace HX := HX.below hb); (try replace hy := hy.below hb); (try replace NH := NH.below hb); (try replace c6 : World.cell? _ ⟨w2.heap.size, 4, none⟩ = some v := (B6.cell 4).trans rfl); clear hb hw)
            | ((with_reducible refine qAR ?_); refine qAL rfl 25 (.tmp 8) rfl _ rfl _ _ _ B8 Tryz.underlying25 rfl qAA ?_)
            | (go_at_call 42; (refine (IHH.out x _ _ HSZ.out HX HZX.out (glN HB HG.out) (by omega) (by omega)).mono ?_); intro e w6 hnm; obtain ⟨y, he, hy, hey, hoy, _, hb⟩ := NmV.yes HSX.out hnm; subst he; clear hnm; have HEY := Lib.hid hey; have HOY := Lib.hid (NH.new hoy); clear hey hoy; replace HB := zT HB hb; (try replace B2 := zI B2 hb); (try replace B4 := zI B4 hb); (try replace B6 := zI B6 hb); (try replace B8 := zI B8 hb); (try replace B9 := zI B9 hb); (try replace NH := NH.below hb); (try replace c6 : World.cell? _ ⟨w2.heap.size, 4, none⟩ = some v := (B6.cell 4).trans rfl); clear hb)
            | ((with_reducible refine qAG ?_); refine qAO 9 rfl rfl 25 rfl rfl (.tmp 69) rfl _ qAY y.cells rfl rfl qAA rfl (qAP _) ?_; intro w5 hw; have hb := qAD hw; have B9 := (qAC hw).1; replace HB := zT HB hb; (try replace B2 := zI B2 hb); (try replace B4 := zI B4 hb); (try replace B6 := zI B6 hb); (try replace B8 := zI B8 hb); (try replace HX := HX.below hb); (try replace hy := hy.below hb); (try replace NH := NH.below hb); (try replace c6 : World.cell? _ ⟨w2.heap.size, 4, none⟩ = some v := (B6.cell 4).trans rfl); clear hb hw)
            | ((with_reducible refine qAR ?_); refine qAL rfl 25 (.tmp 9) rfl _ rfl _ _ _ B9 Tryz.underlying25 rfl qAA ?_)
            | ((with_reducible refine qAm ?_); refine qAU 1 [(0, .agg y.cells)] y.cells ie _ (by rw [hie3]; exact qK6 _) rfl 22 25 _ rfl rfl Tryz.underlying22 hie1 hie2 (by rw [hie3]; decide) (by rw [hie3]; decide) ?_; intro w5 hw; have hb := qAD hw; have B10 := (qAC hw).1; replace HB := zT HB hb; (try replace B2 := zI B2 hb); (try replace B4 := zI B4 hb); (try replace B6 := zI B6 hb); (try replace B8 := zI B8 hb); (try replace B9 := zI B9 hb); (try replace HX := HX.below hb); (try replace hy := hy.below hb); (try replace NH := NH.below hb); (try replace c6 : World.cell? _ ⟨w2.heap.size, 4, none⟩ = some v := (B6.cell 4).trans rfl); clear hb hw)
            | (at_builtin; refine qEH rfl (.tmp 76) (.tmp 78) 22 rfl w3.heap.size 25 ie _ 6 88 Tryz.underlying22 hie1 hie2 hie3 hie4 rfl (by decide) v L.length (qDK L) L y rfl NH _ 1 y.cells _ B10 rfl rfl (qAP _) hy HOY.out (by have := HLq.out; unfold maxLen; omega) (by have := HLq.out; have := HFN.out; omega) ?_; intro v9 w10 hn9 hb9; replace NH := hn9; replace HB := HB.trans (hb9.mono hbase); replace B4 := qAW.below B4 hb9 (by omega); replace B6 := qAW.below B6 hb9 (by omega); clear hn9 hb9 B8 B9 B10 c6 hy HX)
            | ((with_reducible refine qAF ?_); refine qAs rfl 22 (.tmp 80) (.tmp 79) rfl _ 4 rfl v9 rfl _ _ B6 (qP8 _) qLs (qKP NH.own) ?_; intro w11 hw; have hq := qAN hw (show w.heap.size ≤ w2.heap.size by omega) HB; replace HB := hq.1; replace NH := NH.bes (Bes.row (X := fun q => q = w2.heap.size) hw rfl) (fun q e => by have e2 : q = w2.heap.size := e; omega); replace B4 := qAu hw (show w1.heap.size ≠ w2.heap.size by omega) B4; replace B6 := qAQ hw B6; rw [qPH] at B6; clear hq hw))
           go_roundw
           case rel =>
            refine ⟨q + 1, L ++ [y], v9, by omega, by go_num, Lib.hid (qLP HXX.out H2.out HEY.out), Lib.hid (qEp HXX.out H4.out HSX.out), Lib.hid (by rw [List.length_append, HLq.out]; rfl), ?_, B4, B6, HB⟩; rw [List.length_append, qEz, qEw]; exact NH
           case measure => simp [intOf]; omega
          ·have HS := Lib.hid (qBi (fun h => hsx (HSI.out.1 h _ (qIu HXX.out)))); have HSX := Lib.hid (qBi hsx); clear hsx
           go_wp2_with (first
            | ((with_reducible refine qAR ?_); refine qAX rfl 25 (.tmp 62) rfl _ _ rfl x.cells _ RX Tryz.underlying25 rfl qAA ?_)
            | ((with_reducible refine qAG ?_); refine qAO 8 rfl rfl 25 rfl rfl (.tmp 63) rfl _ qAY x.cells rfl rfl qAA rfl (qAP _) ?_; intro w5 hw; have hb := qAD hw; have B8 := (qAC hw).1; clear RX; replace HB := zT HB hb; (try replace B2 := zI B2 hb); (try replace B4 := zI B4 hb); (try replace B6 := zI B6 hb); (try replace B9 := zI B9 hb); (try replace HX := HX.below hb); (try replace hy := hy.below hb); (try replace NH := NH.below hb); (try replace c6 : World.cell? _ ⟨w2.heap.size, 4, none⟩ = some v := (B6.cell 4).trans rfl); clear hb hw)
            | ((with_reducible refine qAR ?_); refine qAL rfl 25 (.tmp 8) rfl _ rfl _ _ _ B8 Tryz.underlying25 rfl qAA ?_)
            | (go_at_call 42; (refine (IHH.out x _ _ HSZ.out HX HZX.out (glN HB HG.out) (by omega) (by omega)).mono ?_); intro e w6 hnm; obtain ⟨he, hb⟩ := NmV.not HSX.out hnm; subst he; clear hnm; replace HB := zT HB hb; (try replace B2 := zI B2 hb); (try replace B4 := zI B4 hb); (try replace B6 := zI B6 hb); (try replace B8 := zI B8 hb); (try replace B9 := zI B9 hb); (try replace HX := HX.below hb); (try replace hy := hy.below hb); (try replace NH := NH.below hb); (try replace c6 : World.cell? _ ⟨w2.heap.size, 4, none⟩ = some v := (B6.cell 4).trans rfl); clear hb)
            | ((with_reducible refine qAG ?_); refine qAO 9 rfl rfl 25 rfl rfl (.tmp 69) rfl _ qAY JV.zero.cells rfl rfl qAA rfl (qAP _) ?_; intro w5 hw; have hb := qAD hw; have B9 := (qAC hw).1; replace HB := zT HB hb; (try replace B2 := zI B2 hb); (try replace B4 := zI B4 hb); (try replace B6 := zI B6 hb); (try replace B8 := zI B8 hb); (try replace HX := HX.below hb); (try replace hy := hy.below hb); (try replace NH := NH.below hb); (try replace c6 : World.cell? _ ⟨w2.heap.size, 4, none⟩ = some v := (B6.cell 4).trans rfl); clear hb hw)
            | ((with_reducible refine qAT ?_); refine qAK (qBH) rfl _ rfl rfl ?_)
            | ((with_reducible refine qAF ?_); refine qAH rfl 25 (.tmp 4) (.tmp 73) rfl _ JV.zero.cells rfl rfl _ _ B4 qAA rfl (qAP _) ?_; intro w7 hw; have hq := qAN hw (show w.heap.size ≤ w1.heap.size by omega) HB; replace HB := hq.1; (try replace NH := NH.bes (Bes.row (X := fun q => q = w1.heap.size) hw rfl) (fun q e => by have e2 : q = w1.heap.size := e; omega)); replace B4 := qAQ hw B4; clear hq hw))
           exact bodyPost_ret (qA6 rfl _ _ w1.heap.size JV.zero.cells (.iface 31 (.int .i64 8)) rfl rfl B4 qAA) rfl (NmV.no HS.out HB)
         ·(obtain rfl : q = j.v.Ln := by omega); (have hlt2 : ¬ ((j.v.Ln : Nat) : Int) < j.v.Ln := by omega); have G2 : Hid (L.map er = (erL j.l).map qBP) := Lib.hid (by rw [H2.out, List.take_of_length_le (by rw [qBj]; have := LL.out; omega)]); have HSN := Lib.hid (HSI.out.2 (by have := H4.out; rwa [List.take_of_length_le (by rw [qBj]; have := LL.out; omega)] at this)); have hlz : Hid (L.length * 80 ≤ qAy) := Lib.hid (by have := HLq.out; have := HFN.out; unfold qAy; omega); clear H2 H4 hlt hq; obtain ⟨A, c, hv⟩ := qHB NH.own; subst hv
          go_wp2_with (first
           | ((with_reducible refine qAR ?_); refine qAL rfl 25 (.tmp 6) rfl _ rfl _ _ _ B6 Tryz.underlying25 rfl qAA ?_)
           | ((with_reducible refine qAF ?_); refine qAH rfl 25 (.tmp 4) (.tmp 89) rfl _ (LC (.slice A L.length c)) rfl rfl _ _ B4 qAA rfl (qPk _ _ _) ?_; intro w7 hw; have hq := qAN hw (show w.heap.size ≤ w1.heap.size by omega) HB; replace HB := hq.1; (try replace NH := NH.bes (Bes.row (X := fun q => q = w1.heap.size) hw rfl) (fun q e => by have e2 : q = w1.heap.size := e; omega)); replace B4 := qAQ hw B4; clear hq hw))
          obtain ⟨x, hx1, hx2, hx3, hx4, hx5⟩ := qOJ (w0 := w) (base := w3.heap.size) HKD.out hbase NH G2.out hlz.out; rw [hx1] at B4; exact bodyPost_ret (qA6 rfl _ _ w1.heap.size x.cells .nilIface rfl rfl B4 qAA) rfl (NmV.ok HSN.out HB hx2 hx3 hx4 hx5)
      ·by_cases hk5 : j.v.kind = 5
       ·have HKD := Lib.hid hk5
        by_cases hsx : qBc (er j) (32 - D) = true
        ·have HSX := Lib.hid hsx; clear hsx hk5; go_enter Tryz.func42, Tryz.ntmps42
         go_wp2_with (first
          | (refine qAM rfl 25 (.tmp 0) rfl _ rfl ?_; intro w1 hw; have hb := qAD hw; have B2 := (qAC hw).1; replace HB := zT HB hb; clear hb hw; have c2_0 : w1.cell? ⟨_, 0, none⟩ = some (.int .i64 5) := (B2.cell 0).trans (by rw [← HKD.out]; rfl); have c2_1 : w1.cell? ⟨_, 1, none⟩ = some (.bool j.v.b) := B2.cell 1; have c2_2 : w1.cell? ⟨_, 2, none⟩ = some (.int .i64 j.v.i) := B2.cell 2; have c2_3 : w1.cell? ⟨_, 3, none⟩ = some (.string j.v.t) := B2.cell 3; have c2_4 : w1.cell? ⟨_, 4, none⟩ = some (.slice j.v.LA j.v.Ln j.v.Lc) := B2.cell 4; have c2_5 : w1.cell? ⟨_, 5, none⟩ = some (.slice j.v.FA j.v.Fn j.v.Fc) := B2.cell 5; have L12 := qAW.lt B2)
          | ((with_reducible refine qAG ?_); refine qAO 6 rfl rfl 25 rfl rfl (.tmp 13) rfl _ qAY (lfJ 5 false 0 ⟨#[]⟩).cells rfl rfl qAA rfl (qAP _) ?_; intro w3 hw; have hb := qAD hw; have B6 := (qAC hw).1; replace HB := zT HB hb; replace B2 := zI B2 hb; replace B4 := zI B4 hb; (try replace c2_0 := qAB hb c2_0); (try replace c2_1 := qAB hb c2_1); (try replace c2_2 := qAB hb c2_2); (try replace c2_3 := qAB hb c2_3); (try replace c2_4 := qAB hb c2_4); (try replace c2_5 := qAB hb c2_5); clear hb hw; have L23 := qAW.lt B6)
          | ((with_reducible refine qAG ?_); refine qAE rfl 25 rfl _ qAY ?_; intro w2 hw; have hb := qAD hw; have B4 := qAI hw; replace HB := zT HB hb; replace B2 := zI B2 hb; (try replace c2_0 := qAB hb c2_0); (try replace c2_1 := qAB hb c2_1); (try replace c2_2 := qAB hb c2_2); (try replace c2_3 := qAB hb c2_3); (try replace c2_4 := qAB hb c2_4); (try replace c2_5 := qAB hb c2_5); clear hb hw; have L14 := qAW.lt B4)
          | ((with_reducible refine qAT ?_); refine qAK (qBS 5) rfl _ rfl rfl ?_)
          | ((with_reducible refine qAR ?_); refine qAL rfl 25 (.tmp 2) rfl _ rfl _ _ _ B2 Tryz.underlying25 rfl qAA ?_)
          | (go_at_call 65; (refine (OBJ.out j D _ SZ.out (HJ0.out.below HB) HZ.out (glN HB HG.out) hD0 hD1 HKD.out).mono ?_); intro e w6 hnm; obtain ⟨y, he, hy, hey, hoy, how, hb⟩ := NmV.yes HSX.out hnm; subst he; clear hnm; have HEY := Lib.hid hey; have HOZ : Hid (Off (fun q => q = w1.heap.size) y) := Lib.hid (Off.mono (fun q e => by have e2 : q = w1.heap.size := e; have := qAW.lt B4; show q < _; omega) hoy); have HOY := Lib.hid (Off.mono (fun q h => Nat.lt_of_lt_of_le h HB.size) hoy); have HWB := Lib.hid (qAW.lt B4); have HWW := Lib.hid HB.size; have HOW := Lib.hid how; clear hey hoy how; replace HB := zT HB hb; replace B4 := zI B4 hb; clear c2_0 c2_1 c2_2 c2_3 c2_4 c2_5)
          | ((with_reducible refine qAF ?_); refine qAH rfl 25 (.tmp 4) (.tmp 87) rfl _ y.cells rfl rfl _ _ B4 qAA rfl (qAP _) ?_; intro w7 hw; have hq := qAN hw (show w.heap.size ≤ w1.heap.size by omega) HB; replace HB := hq.1; replace hy := qAi.bes (Bes.row (X := fun q => q = w1.heap.size) hw rfl) hy (HOZ.out); have HOX := Lib.hid ((HOW.out.bes (Bes.row (X := fun q => q = w1.heap.size) hw rfl) (fun q e => by have e2 : q = w1.heap.size := e; have := HWB.out; omega)).mono HWW.out); replace B4 := qAQ hw B4; clear hq hw))
         exact bodyPost_ret (qA6 rfl _ _ w1.heap.size y.cells .nilIface rfl rfl B4 qAA) rfl (NmV.ok HSX.out HB hy HEY.out HOY.out HOX.out)
        ·have HSX := Lib.hid (qBi hsx); clear hsx hk5; go_enter Tryz.func42, Tryz.ntmps42
         go_wp2_with (first
          | (refine qAM rfl 25 (.tmp 0) rfl _ rfl ?_; intro w1 hw; have hb := qAD hw; have B2 := (qAC hw).1; replace HB := zT HB hb; clear hb hw; have c2_0 : w1.cell? ⟨_, 0, none⟩ = some (.int .i64 5) := (B2.cell 0).trans (by rw [← HKD.out]; rfl); have c2_1 : w1.cell? ⟨_, 1, none⟩ = some (.bool j.v.b) := B2.cell 1; have c2_2 : w1.cell? ⟨_, 2, none⟩ = some (.int .i64 j.v.i) := B2.cell 2; have c2_3 : w1.cell? ⟨_, 3, none⟩ = some (.string j.v.t) := B2.cell 3; have c2_4 : w1.cell? ⟨_, 4, none⟩ = some (.slice j.v.LA j.v.Ln j.v.Lc) := B2.cell 4; have c2_5 : w1.cell? ⟨_, 5, none⟩ = some (.slice j.v.FA j.v.Fn j.v.Fc) := B2.cell 5; have L12 := qAW.lt B2)
          | ((with_reducible refine qAG ?_); refine qAO 6 rfl rfl 25 rfl rfl (.tmp 13) rfl _ qAY (lfJ 5 false 0 ⟨#[]⟩).cells rfl rfl qAA rfl (qAP _) ?_; intro w3 hw; have hb := qAD hw; have B6 := (qAC hw).1; replace HB := zT HB hb; replace B2 := zI B2 hb; replace B4 := zI B4 hb; (try replace c2_0 := qAB hb c2_0); (try replace c2_1 := qAB hb c2_1); (try replace c2_2 := qAB hb c2_2); (try replace c2_3 := qAB hb c2_3); (try replace c2_4 := qAB hb c2_4); (try replace c2_5 := qAB hb c2_5); clear hb hw; have L23 := qAW.lt B6)
          | ((with_reducible refine qAG ?_); refine qAE rfl 25 rfl _ qAY ?_; intro w2 hw; have hb := qAD hw; have B4 := qAI hw; replace HB := zT HB hb; replace B2 := zI B2 hb; (try replace c2_0 := qAB hb c2_0); (try replace c2_1 := qAB hb c2_1); (try replace c2_2 := qAB hb c2_2); (try replace c2_3 := qAB hb c2_3); (try replace c2_4 := qAB hb c2_4); (try replace c2_5 := qAB hb c2_5); clear hb hw; have L14 := qAW.lt B4)
          | ((with_reducible refine qAT ?_); refine qAK (qBS 5) rfl _ rfl rfl ?_)
          | ((with_reducible refine qAR ?_); refine qAL rfl 25 (.tmp 2) rfl _ rfl _ _ _ B2 Tryz.underlying25 rfl qAA ?_)
          | (go_at_call 65; (refine (OBJ.out j D _ SZ.out (HJ0.out.below HB) HZ.out (glN HB HG.out) hD0 hD1 HKD.out).mono ?_); intro e w6 hnm; obtain ⟨he, hb⟩ := NmV.not HSX.out hnm; subst he; clear hnm; replace HB := zT HB hb; replace B4 := zI B4 hb; clear c2_0 c2_1 c2_2 c2_3 c2_4 c2_5)
          | ((with_reducible refine qAF ?_); refine qAH rfl 25 (.tmp 4) (.tmp 87) rfl _ JV.zero.cells rfl rfl _ _ B4 qAA rfl (qAP _) ?_; intro w7 hw; have hq := qAN hw (show w.heap.size ≤ w1.heap.size by omega) HB; replace HB := hq.1; (try replace NH := NH.bes (Bes.row (X := fun q => q = w1.heap.size) hw rfl) (fun q e => by have e2 : q = w1.heap.size := e; omega)); replace B4 := qAQ hw B4; clear hq hw))
         exact bodyPost_ret (qA6 rfl _ _ w1.heap.size JV.zero.cells (.iface 31 (.int .i64 8)) rfl rfl B4 qAA) rfl (NmV.no HSX.out HB)
       ·have HS := Lib.hid (qNj (d := 32 - D) hk0 hk1 hk2 hk3 hk4 hk5); (have q0 : (j.v.kind == 0) = false := by simpa using hk0); (have q1 : (j.v.kind == 1) = false := by simpa using hk1); (have q2 : (j.v.kind == 2) = false := by simpa using hk2); (have q3 : (j.v.kind == 3) = false := by simpa using hk3); (have q4 : (j.v.kind == 4) = false := by simpa using hk4); (have q5 : (j.v.kind == 5) = false := by simpa using hk5); clear hk0 hk1 hk2 hk3 hk4 hk5; go_enter Tryz.func42, Tryz.ntmps42
        go_wp2_with (first
         | (refine qAM rfl 25 (.tmp 0) rfl _ rfl ?_; intro w1 hw; have hb := qAD hw; have B2 := (qAC hw).1; replace HB := zT HB hb; clear hb hw; have c2_0 : w1.cell? ⟨_, 0, none⟩ = some (.int .i64 j.v.kind) := (B2.cell 0).trans (by rfl); have c2_1 : w1.cell? ⟨_, 1, none⟩ = some (.bool j.v.b) := B2.cell 1; have c2_2 : w1.cell? ⟨_, 2, none⟩ = some (.int .i64 j.v.i) := B2.cell 2; have c2_3 : w1.cell? ⟨_, 3, none⟩ = some (.string j.v.t) := B2.cell 3; have c2_4 : w1.cell? ⟨_, 4, none⟩ = some (.slice j.v.LA j.v.Ln j.v.Lc) := B2.cell 4; have c2_5 : w1.cell? ⟨_, 5, none⟩ = some (.slice j.v.FA j.v.Fn j.v.Fc) := B2.cell 5; have L12 := qAW.lt B2)
         | ((with_reducible refine qAG ?_); refine qAO 6 rfl rfl 25 rfl rfl (.tmp 13) rfl _ qAY (lfJ j.v.kind false 0 ⟨#[]⟩).cells rfl rfl qAA rfl (qAP _) ?_; intro w3 hw; have hb := qAD hw; have B6 := (qAC hw).1; replace HB := zT HB hb; replace B2 := zI B2 hb; replace B4 := zI B4 hb; (try replace c2_0 := qAB hb c2_0); (try replace c2_1 := qAB hb c2_1); (try replace c2_2 := qAB hb c2_2); (try replace c2_3 := qAB hb c2_3); (try replace c2_4 := qAB hb c2_4); (try replace c2_5 := qAB hb c2_5); clear hb hw; have L23 := qAW.lt B6)
         | ((with_reducible refine qAG ?_); refine qAE rfl 25 rfl _ qAY ?_; intro w2 hw; have hb := qAD hw; have B4 := qAI hw; replace HB := zT HB hb; replace B2 := zI B2 hb; (try replace c2_0 := qAB hb c2_0); (try replace c2_1 := qAB hb c2_1); (try replace c2_2 := qAB hb c2_2); (try replace c2_3 := qAB hb c2_3); (try replace c2_4 := qAB hb c2_4); (try replace c2_5 := qAB hb c2_5); clear hb hw; have L14 := qAW.lt B4)
         | ((with_reducible refine qAT ?_); refine qAK (qBS j.v.kind) rfl _ rfl rfl ?_)
         | ((with_reducible refine qAT ?_); refine qAK (qBH) rfl _ rfl rfl ?_)
         | ((with_reducible refine qAF ?_); refine qAH rfl 25 (.tmp 4) (.tmp 16) rfl _ JV.zero.cells rfl rfl _ _ B4 qAA rfl (qAP _) ?_; intro w7 hw; have hq := qAN hw (show w.heap.size ≤ w1.heap.size by omega) HB; replace HB := hq.1; (try replace NH := NH.bes (Bes.row (X := fun q => q = w1.heap.size) hw rfl) (fun q e => by have e2 : q = w1.heap.size := e; omega)); replace B4 := qAQ hw B4; clear hq hw))
        exact bodyPost_ret (qA6 rfl _ _ w1.heap.size JV.zero.cells (.iface 31 (.int .i64 8)) rfl rfl B4 qAA) rfl (NmV.no HS.out HB)
theorem qGb {j : JV} {w : World} (HJ : qAi w j) (hz : SzT (er j) ≤ 1048576) (hG : Gl w w.heap.size) : Calls Tryz.prog 42 #[.agg j.cells, .int .i64 0] w (NmV j 0 w) := qON _ j 0 w (Nat.lt_succ_self _) HJ hz hG (by omega) (by omega)
end
end Go.Proofs.YtnjhmnolngdfaaaGreatDoor
namespace Go.Proofs.YtnjhmnolngdfaaaGreatDoor
section
open Go.RowKit Go.PlainAid
structure Wc (w : World) : Prop where
  gl : Gl w w.heap.size
  tb : ∀ W, Below w.heap.size w W → qL4 W ∧ qF1 W
  lt : 7 < w.heap.size
theorem Wc.below {w w' : World} (hb : Below w.heap.size w w') (h : Wc w) : Wc w' := ⟨glN hb h.gl, fun W hW => h.tb W (zT hb hW), Nat.lt_of_lt_of_le h.lt hb.size⟩
theorem qLI {l : List JT} (h : ∀ x ∈ l, Kok x) : qLr l := by
  induction l with
  | nil => unfold qLr; exact True.intro
  | cons x r ih => unfold qLr; exact ⟨h x (by simp), ih fun y hy => h y (by simp [hy])⟩
theorem qNu : ∀ (t : JT) (d : Int), qHM t → qFw t = t → qBc t d = true → Kok t := fun t => by
 induction t using qGB with
 | h k b i t l ns vs ih1 ih2 =>
  intro d hl hp hs; obtain ⟨g1, g2, g3⟩ := qHh.1 hl
  have e0 : ∀ k : Int, 0 ≤ k → k ≤ 5 → ∀ b i t, Kok (.mk k b i t [] [] []) := fun k h0 h5 b i t => by
   unfold Kok qLr; exact ⟨h0, h5, True.intro, True.intro⟩
  rcases qDb k with rfl | rfl | rfl | rfl | rfl | rfl | ⟨k0, k1, k2, k3, k4, k5⟩
  ·rw [qGw (by decide) (by decide) (by decide) (by decide) (by decide)] at hp; rw [← hp]; exact e0 _ (by decide) (by decide) _ _ _
  ·rw [qO1] at hp; rw [← hp]; exact e0 _ (by decide) (by decide) _ _ _
  ·rw [qPm] at hp; rw [← hp]; exact e0 _ (by decide) (by decide) _ _ _
  ·rw [qPW] at hp; rw [← hp]; exact e0 _ (by decide) (by decide) _ _ _
  ·rw [qHv, Bool.and_eq_true, qC0] at hs; rw [qPB] at hp; injection hp with _ _ _ _ h1 h2 h3
   have h4 : ∀ x ∈ l, qFw x = x := fun x hx => by
    obtain ⟨i, hi⟩ := List.getElem?_of_mem hx; have := congrArg (·[i]?) h1; simp only [List.getElem?_map, hi, Option.map_some, Option.some.injEq] at this; exact this
   unfold Kok; refine ⟨by decide, by decide, qLI fun x hx => ih1 x hx _ (g1 x hx) (h4 x hx) (hs.1 x hx), ?_⟩; rw [← h3]; unfold qLr; exact True.intro
  ·rw [qIX, Bool.and_eq_true, qCe _ _ _ _ g2] at hs; rw [qPD] at hp; injection hp with _ _ _ _ h1 h2 h3
   have h4 : ∀ x ∈ vs, qFw x = x := fun x hx => by
    obtain ⟨i, hi⟩ := List.getElem?_of_mem hx; have := congrArg (·[i]?) h3; simp only [List.getElem?_map, hi, Option.map_some, Option.some.injEq] at this; exact this
   unfold Kok; refine ⟨by decide, by decide, ?_, qLI fun x hx => ih2 x hx _ (g3 x hx) (h4 x hx) (hs.1.2.1 x hx)⟩; rw [← h1]; unfold qLr; exact True.intro
  ·rw [qE9 k0 k1 k2 k3 k4 k5] at hs; cases hs
theorem qN6 {t : JT} {d : Int} (hl : qHM t) (hs : qBc t d = true) : Kok (qBP t) := qNu _ d (qOY t hl) (qNs t hl) (qH1 t d hl hs)
theorem qLM {t : JT} : (65536 < (plX [] t []).length ↔ 65536 < (pr [] t).length) ∧ (¬ 65536 < (pr [] t).length → plX [] t [] = pr [] t) := by
  obtain ⟨h1, h2, h3⟩ := qDL [] t []; simp only [List.nil_append, List.length_nil, Nat.zero_add] at h1 h2; rcases h1 with h1 | ⟨h1, h4⟩
  · rw [h1]; exact ⟨Iff.rfl, fun _ => rfl⟩
  · exact ⟨⟨fun _ => h4, fun _ => h1⟩, fun h => absurd h4 h⟩
theorem qDn {fn : Func} (h : fn.results = #[.cell 2 25, .tmp 3, .tmp 4]) (tmps : Array Value) (w : World) (g : Nat) (cs : Array Value) (sv ev : Value) (hp : tmps.getD 2 undef = .pointer (some ⟨g, 0, none⟩)) (hs : tmps.getD 3 undef = sv) (hq : tmps.getD 4 undef = ev) (hg : qAW w g 25 cs) (hi : (Tryz.prog.info? 25).map (·.size) = some cs.size) :
    (results fn tmps).run Tryz.prog w = .ok (.tuple #[.agg cs, sv, ev]) w := by
  (have hp' : tmps[2]?.getD undef = .pointer (some ⟨g, 0, none⟩) := by simpa using hp); (have hs' : tmps[3]?.getD undef = sv := by simpa using hs); (have hq' : tmps[4]?.getD undef = ev := by simpa using hq); simp [results, h, hp', hs', hq', asAddr, run_loadVar_row w g 25 25 cs (0, 0) _ hg Tryz.underlying25 rfl hi]
def BoV (j : JV) (w : World) (e : Ending) (w' : World) : Prop := Below w.heap.size w w' ∧
  if (qBz (er j)).1 = 0 then ∃ x, e = .returned (.tuple #[.agg x.cells, .string ⟨(qBz (er j)).2.toArray⟩, .nilIface]) ∧ qAi w' x ∧ er x = qBP (er j) ∧ Off (fun q => q < w.heap.size) x ∧ OwO w.heap.size x w'
  else e = .returned (.tuple #[.agg JV.zero.cells, .string ⟨#[]⟩, .iface 31 (.int .i64 (qBz (er j)).1)])
theorem BoV.bad {j : JV} {w w' : World} {c : Int} (h : qBz (er j) = (c, [])) (hc : c ≠ 0) (hb : Below w.heap.size w w') : BoV j w (.returned (.tuple #[.agg JV.zero.cells, .string ⟨#[]⟩, .iface 31 (.int .i64 c)])) w' := ⟨hb, by rw [h, if_neg hc]⟩
theorem BoV.ok {j : JV} {w w' : World} {l : List UInt8} (h : qBz (er j) = (0, l)) (hb : Below w.heap.size w w') {x : JV} (hx : qAi w' x) (he : er x = qBP (er j)) (ho : Off (fun q => q < w.heap.size) x) (hw : OwO w.heap.size x w') : BoV j w (.returned (.tuple #[.agg x.cells, .string ⟨l.toArray⟩, .nilIface])) w' := ⟨hb, by rw [h, if_pos rfl]; exact ⟨x, rfl, hx, he, ho, hw⟩⟩
theorem BoV.yes {j : JV} {w w' : World} {e : Ending} {l : List UInt8} (h : qBz (er j) = (0, l)) (k : BoV j w e w') : ∃ x, e = .returned (.tuple #[.agg x.cells, .string ⟨l.toArray⟩, .nilIface]) ∧ qAi w' x ∧ er x = qBP (er j) ∧ Off (fun q => q < w.heap.size) x ∧ OwO w.heap.size x w' ∧ Below w.heap.size w w' := by
  obtain ⟨k1, k2⟩ := k; rw [h, if_pos rfl] at k2; obtain ⟨x, a, b, c, d, f⟩ := k2; exact ⟨x, a, b, c, d, f, k1⟩
theorem BoV.not {j : JV} {w w' : World} {e : Ending} {c : Int} (h : qBz (er j) = (c, [])) (hc : c ≠ 0) (k : BoV j w e w') : e = .returned (.tuple #[.agg JV.zero.cells, .string ⟨#[]⟩, .iface 31 (.int .i64 c)]) ∧ Below w.heap.size w w' := by
  obtain ⟨k1, k2⟩ := k; rw [h, if_neg hc] at k2; exact ⟨k2, k1⟩
theorem qE1 (t : JT) : (∃ l, qBz t = (0, l)) ∨ ∃ c, qBz t = (c, []) ∧ c ≠ 0 := by
  unfold qBz
  repeat' split
  · exact .inr ⟨2, rfl, by decide⟩
  · exact .inr ⟨2, rfl, by decide⟩
  · exact .inl ⟨_, rfl⟩
  · exact .inr ⟨8, rfl, by decide⟩
theorem qEq {j : JV} {w : World} (HJ : qAi w j) (hz : SzT (er j) ≤ 1048576) (hW : Wc w) : Calls Tryz.prog 26 #[.agg j.cells] w (BoV j w) := by
 have hlen := qK9 HJ; have HLT := Lib.hid hlen; have HZ := Lib.hid hz; have HW := Lib.hid hW; obtain ⟨ct, hct⟩ : ∃ ct, ct = qDz (er j) 0 := ⟨_, rfl⟩; have HCT := Lib.hid hct.symm; have hcm := qIv (er j); rw [← hct] at hcm; have HB := Below.refl w.heap.size w; clear hz hW hct hlen
 by_cases hn : 65536 < qMA (er j)
 ·have HS := Lib.hid (show qBz (er j) = (2, []) by unfold qBz; rw [if_pos hn]); (have hc : 65536 < ct := by omega); (have hneg : (65536 : Int) - ct < 0 := by omega); clear hcm hn; go_enter Tryz.func26, Tryz.ntmps26
  go_wp2_with (first
   | (refine qAM rfl 25 (.tmp 0) rfl _ rfl ?_; intro w1 hw; have hb := qAD hw; have B1 := (qAC hw).1; replace HB := zT HB hb; (try replace HJ := HJ.below hb); (try replace hy := hy.below hb); (try replace B2 := zI B2 hb); (try replace B5 := zI B5 hb); clear hb hw; have L01 := qAW.lt B1)
   | ((with_reducible refine qAG ?_); refine qAE rfl 25 rfl _ qAY ?_; intro w2 hw; have hb := qAD hw; have B2 := qAI hw; replace HB := zT HB hb; (try replace HJ := HJ.below hb); (try replace hy := hy.below hb); (try replace B1 := zI B1 hb); (try replace B5 := zI B5 hb); clear hb hw; have L12 := qAW.lt B2)
   | ((with_reducible refine qAR ?_); refine qAL rfl 25 (.tmp 1) rfl _ rfl _ _ _ B1 Tryz.underlying25 rfl qAA ?_)
   | (go_at_call 41; (refine (qDl HJ).mono ?_); rintro e w3 ⟨rfl, hb⟩; rw [HCT.out]; replace HB := zT HB hb; (try replace HJ := HJ.below hb); (try replace hy := hy.below hb); (try replace B1 := zI B1 hb); (try replace B2 := zI B2 hb); (try replace B5 := zI B5 hb); clear hb)
   | ((with_reducible refine qAT ?_); refine qAK qBH rfl _ rfl rfl ?_)
   | ((with_reducible refine qAF ?_); refine qAH rfl 25 (.tmp 2) (.tmp 11) rfl _ JV.zero.cells rfl rfl _ _ B2 qAA rfl (qAP _) ?_; intro w9 hw; have hq := qAN hw (show w.heap.size ≤ w1.heap.size by omega) HB; replace HB := hq.1; replace B2 := qAQ hw B2; clear hq hw))
  exact bodyPost_ret (qDn rfl _ _ w1.heap.size JV.zero.cells (.string ⟨#[]⟩) (.iface 31 (.int .i64 2)) rfl rfl rfl B2 qAA) rfl (BoV.bad HS.out (by decide) HB)
 ·(have hneg : ¬ (65536 : Int) - ct < 0 := by omega); clear hcm
  by_cases hs : qBc (er j) 32 = true
  ·have HSN := Lib.hid (show qBc (er j) (32 - 0) = true from hs); have HKK := Lib.hid (qN6 HLT.out hs); have HPL := Lib.hid (qKO hs HLT.out); obtain ⟨tx, htx⟩ : ∃ tx, tx = plX [] (qBP (er j)) [] := ⟨_, rfl⟩; have htl := (qLM (t := qBP (er j))); rw [← htx] at htl; have HTT := Lib.hid htx.symm; clear htx
   by_cases h65 : 65536 < (pr [] (qBP (er j))).length
   ·have HS := Lib.hid (show qBz (er j) = (2, []) by unfold qBz; rw [if_neg hn, if_pos hs, if_pos h65]); (have htz : (65536 : Int) < tx.length := by have := htl.1.2 h65; omega); clear htl hn hs h65; go_enter Tryz.func26, Tryz.ntmps26
    go_wp2_with (first
     | (refine qAM rfl 25 (.tmp 0) rfl _ rfl ?_; intro w1 hw; have hb := qAD hw; have B1 := (qAC hw).1; replace HB := zT HB hb; (try replace HJ := HJ.below hb); (try replace hy := hy.below hb); (try replace B2 := zI B2 hb); (try replace B5 := zI B5 hb); clear hb hw; have L01 := qAW.lt B1)
     | ((with_reducible refine qAG ?_); refine qAO 5 rfl rfl 25 rfl rfl (.tmp 16) rfl _ qAY y.cells rfl rfl qAA rfl (qAP _) ?_; intro w5 hw; have hb := qAD hw; have B5 := (qAC hw).1; have L24 := qAW.lt B2; have H45 := Lib.hid hb; replace HB := zT HB hb; (try replace HJ := HJ.below hb); (try replace hy := hy.below hb); (try replace B1 := zI B1 hb); (try replace B2 := zI B2 hb); clear hb hw)
     | ((with_reducible refine qAG ?_); refine qAE (o := ⟨some 2, _, _, _, _, _⟩) rfl 25 rfl _ qAY ?_; intro w2 hw; have hb := qAD hw; have B2 := qAI hw; replace HB := zT HB hb; (try replace HJ := HJ.below hb); (try replace hy := hy.below hb); (try replace B1 := zI B1 hb); (try replace B5 := zI B5 hb); clear hb hw; have L12 := qAW.lt B2)
     | ((with_reducible refine qAG ?_); refine qAE rfl 76 rfl _ qNi ?_; intro w6 hw; have HI := Lib.IsBuilderF.of (Lib.fresh_isBuilder 76 5 w5); have hwo := hw.out; rw [← hwo] at HI; clear hwo; have hb := qAD hw; have HOY5 := Lib.hid (qCD hy); have L56 := qAW.lt (qAI hw); have G5 := HB.size; have HB5 := Lib.hid HB; have L5 := qAW.lt B5; have L25 := qAW.lt B2; have HOW5 := Lib.hid (HOWY.out.below H45.out); have HP5 := Lib.hid (Below.refl w5.heap.size w5); replace HB := zT HB hb; (try replace HJ := HJ.below hb); (try replace hy := hy.below hb); (try replace B1 := zI B1 hb); (try replace B2 := zI B2 hb); (try replace B5 := zI B5 hb); clear hw; have hB5 := hb.size; have HWB := Lib.hid (Wc.below (HB5.out) HW.out); have HBB := Lib.hid hb; replace HP5 := Lib.hid (HP5.out.trans hb); clear hb; have HKY : Hid (Kok (er y)) := Lib.hid (by rw [HEY.out]; exact HKK.out); have HLY : Hid (([] : List UInt8).length + (pr [] (er y)).length ≤ qCA) := Lib.hid (by rw [HEY.out]; have := HPL.out; have := HZ.out; unfold qCA; simp only [List.length_nil]; omega); have HTX : Hid (plX [] (er y) [] = tx) := Lib.hid (by rw [HEY.out]; exact HTT.out))
     | ((with_reducible refine qAR ?_); refine qAL rfl 25 (.tmp 1) rfl _ rfl _ _ _ B1 Tryz.underlying25 rfl qAA ?_)
     | ((with_reducible refine qAR ?_); refine qAL rfl 25 (.tmp 5) rfl _ rfl _ _ _ B5 Tryz.underlying25 rfl qAA ?_)
     | (go_at_call 41; (refine (qDl HJ).mono ?_); rintro e w3 ⟨rfl, hb⟩; rw [HCT.out]; replace HB := zT HB hb; (try replace HJ := HJ.below hb); (try replace hy := hy.below hb); (try replace B1 := zI B1 hb); (try replace B2 := zI B2 hb); (try replace B5 := zI B5 hb); clear hb)
     | (go_at_call 42; (refine (qGb HJ HZ.out (glN HB HW.out.gl)).mono ?_); intro e w4 hnm; obtain ⟨y, he, hy, hey, hoy, how, hb⟩ := NmV.yes HSN.out hnm; subst he; clear hnm; have HWL := Lib.hid (qAW.lt B2); have HWW := Lib.hid HB.size; have HOWY := Lib.hid how; clear how; have HEY := Lib.hid hey; have HOY := Lib.hid (Off.mono (fun q h => Nat.lt_of_lt_of_le h HB.size) hoy); have HOZ : Hid (Off (fun q => q = w1.heap.size) y) := Lib.hid (Off.mono (fun q e => by have e2 : q = w1.heap.size := e; have := qAW.lt B2; show q < _; omega) hoy); clear hey hoy; replace HB := zT HB hb; (try replace HJ := HJ.below hb); (try replace B1 := zI B1 hb); (try replace B2 := zI B2 hb); (try replace B5 := zI B5 hb); clear hb)
     | (go_at_call 43; (refine (qI0 (B := w5.heap.size) (acc := []) hy HOY5.out HKY.out HI hB5 (fun W hW => HWB.out.tb W (HBB.out.trans hW)) HWB.out.lt HLY.out).mono ?_); rintro e w7 ⟨rfl, hi3, hk3⟩; rw [HTX.out] at hi3; replace HI := hi3; replace hy := qEn hk3 hy HOY5.out; replace B2 := qAW.below B2 hk3.1 (by omega); replace B5 := qAW.below B5 hk3.1 L5; replace HB := HB.trans (hk3.1.mono (by omega)); have hB7 := hk3.up hB5; replace HP5 := Lib.hid (HP5.out.trans hk3.1); clear hi3 hk3)
     | (go_at_call 44; (refine (Tryz.Builder_Len_f w5.heap.size _ _ _ HI).mono ?_); rintro e w8 ⟨rfl, rfl⟩; rw [Lib.byteCells_length])
     | ((with_reducible refine qAT ?_); refine qAK qBH rfl _ rfl rfl ?_)
     | ((with_reducible refine qAF ?_); refine qAH rfl 25 (.tmp 2) (.tmp 26) rfl _ JV.zero.cells rfl rfl _ _ B2 qAA rfl (qAP _) ?_; intro w9 hw; have hq := qAN hw (show w.heap.size ≤ w1.heap.size by omega) HB; replace HB := hq.1; replace B2 := qAQ hw B2; clear hq hw))
    exact bodyPost_ret (qDn rfl _ _ w1.heap.size JV.zero.cells (.string ⟨#[]⟩) (.iface 31 (.int .i64 2)) rfl rfl rfl B2 qAA) rfl (BoV.bad HS.out (by decide) HB)
   ·have HS := Lib.hid (show qBz (er j) = (0, tx) by unfold qBz; rw [if_neg hn, if_pos hs, if_neg h65, htl.2 h65]); (have htz : ¬ (65536 : Int) < tx.length := by intro h; exact h65 (htl.1.1 (by omega))); clear htl hn hs h65; go_enter Tryz.func26, Tryz.ntmps26
    go_wp2_with (first
     | (refine qAM rfl 25 (.tmp 0) rfl _ rfl ?_; intro w1 hw; have hb := qAD hw; have B1 := (qAC hw).1; replace HB := zT HB hb; (try replace HJ := HJ.below hb); (try replace hy := hy.below hb); (try replace B2 := zI B2 hb); (try replace B5 := zI B5 hb); clear hb hw; have L01 := qAW.lt B1)
     | ((with_reducible refine qAG ?_); refine qAO 5 rfl rfl 25 rfl rfl (.tmp 16) rfl _ qAY y.cells rfl rfl qAA rfl (qAP _) ?_; intro w5 hw; have hb := qAD hw; have B5 := (qAC hw).1; have L24 := qAW.lt B2; have H45 := Lib.hid hb; replace HB := zT HB hb; (try replace HJ := HJ.below hb); (try replace hy := hy.below hb); (try replace B1 := zI B1 hb); (try replace B2 := zI B2 hb); clear hb hw)
     | ((with_reducible refine qAG ?_); refine qAE (o := ⟨some 2, _, _, _, _, _⟩) rfl 25 rfl _ qAY ?_; intro w2 hw; have hb := qAD hw; have B2 := qAI hw; replace HB := zT HB hb; (try replace HJ := HJ.below hb); (try replace hy := hy.below hb); (try replace B1 := zI B1 hb); (try replace B5 := zI B5 hb); clear hb hw; have L12 := qAW.lt B2)
     | ((with_reducible refine qAG ?_); refine qAE rfl 76 rfl _ qNi ?_; intro w6 hw; have HI := Lib.IsBuilderF.of (Lib.fresh_isBuilder 76 5 w5); have hwo := hw.out; rw [← hwo] at HI; clear hwo; have hb := qAD hw; have HOY5 := Lib.hid (qCD hy); have L56 := qAW.lt (qAI hw); have G5 := HB.size; have HB5 := Lib.hid HB; have L5 := qAW.lt B5; have L25 := qAW.lt B2; have HOW5 := Lib.hid (HOWY.out.below H45.out); have HP5 := Lib.hid (Below.refl w5.heap.size w5); replace HB := zT HB hb; (try replace HJ := HJ.below hb); (try replace hy := hy.below hb); (try replace B1 := zI B1 hb); (try replace B2 := zI B2 hb); (try replace B5 := zI B5 hb); clear hw; have hB5 := hb.size; have HWB := Lib.hid (Wc.below (HB5.out) HW.out); have HBB := Lib.hid hb; replace HP5 := Lib.hid (HP5.out.trans hb); clear hb; have HKY : Hid (Kok (er y)) := Lib.hid (by rw [HEY.out]; exact HKK.out); have HLY : Hid (([] : List UInt8).length + (pr [] (er y)).length ≤ qCA) := Lib.hid (by rw [HEY.out]; have := HPL.out; have := HZ.out; unfold qCA; simp only [List.length_nil]; omega); have HTX : Hid (plX [] (er y) [] = tx) := Lib.hid (by rw [HEY.out]; exact HTT.out))
     | ((with_reducible refine qAR ?_); refine qAL rfl 25 (.tmp 1) rfl _ rfl _ _ _ B1 Tryz.underlying25 rfl qAA ?_)
     | ((with_reducible refine qAR ?_); refine qAL rfl 25 (.tmp 5) rfl _ rfl _ _ _ B5 Tryz.underlying25 rfl qAA ?_)
     | (go_at_call 41; (refine (qDl HJ).mono ?_); rintro e w3 ⟨rfl, hb⟩; rw [HCT.out]; replace HB := zT HB hb; (try replace HJ := HJ.below hb); (try replace hy := hy.below hb); (try replace B1 := zI B1 hb); (try replace B2 := zI B2 hb); (try replace B5 := zI B5 hb); clear hb)
     | (go_at_call 42; (refine (qGb HJ HZ.out (glN HB HW.out.gl)).mono ?_); intro e w4 hnm; obtain ⟨y, he, hy, hey, hoy, how, hb⟩ := NmV.yes HSN.out hnm; subst he; clear hnm; have HWL := Lib.hid (qAW.lt B2); have HWW := Lib.hid HB.size; have HOWY := Lib.hid how; clear how; have HEY := Lib.hid hey; have HOY := Lib.hid (Off.mono (fun q h => Nat.lt_of_lt_of_le h HB.size) hoy); have HOZ : Hid (Off (fun q => q = w1.heap.size) y) := Lib.hid (Off.mono (fun q e => by have e2 : q = w1.heap.size := e; have := qAW.lt B2; show q < _; omega) hoy); clear hey hoy; replace HB := zT HB hb; (try replace HJ := HJ.below hb); (try replace B1 := zI B1 hb); (try replace B2 := zI B2 hb); (try replace B5 := zI B5 hb); clear hb)
     | (go_at_call 43; (refine (qI0 (B := w5.heap.size) (acc := []) hy HOY5.out HKY.out HI hB5 (fun W hW => HWB.out.tb W (HBB.out.trans hW)) HWB.out.lt HLY.out).mono ?_); rintro e w7 ⟨rfl, hi3, hk3⟩; rw [HTX.out] at hi3; replace HI := hi3; replace hy := qEn hk3 hy HOY5.out; replace B2 := qAW.below B2 hk3.1 (by omega); replace B5 := qAW.below B5 hk3.1 L5; replace HB := HB.trans (hk3.1.mono (by omega)); have hB7 := hk3.up hB5; replace HP5 := Lib.hid (HP5.out.trans hk3.1); clear hi3 hk3)
     | (go_at_call 44; (refine (Tryz.Builder_Len_f w5.heap.size _ _ _ HI).mono ?_); rintro e w8 ⟨rfl, rfl⟩; rw [Lib.byteCells_length]))
    refine qBV (S := fun W => qAW W _ 25 y.cells) (by kernel_rfl) (fun w5 hh => qCC hh B5) (fun wa hh hbb HS5 => ?_); have hb := hbb _ (Nat.le_refl _); replace HB := zT HB hb
    (try replace HJ := HJ.below hb)
    (try replace hy := hy.below hb)
    (try replace B1 := zI B1 hb)
    (try replace B2 := zI B2 hb)
    (try replace B5 := zI B5 hb)
    replace HP5 := Lib.hid (HP5.out.trans (hb.mono hB7)); have HI2 := IsB.low HI hb; clear HI; have hB8 : w5.heap.size ≤ wa.heap.size := Nat.le_trans hB7 hb.size; clear hb hbb hh; refine wpAnyH_take (i := 0) (oi := ⟨some 28, _, _, _, _, _⟩) (v := _) rfl (by kernel_rfl) (by kernel_rfl) (by kernel_rfl) (fun _ _ _ h => h) (qH2 (by kernel_rfl) _ _ rfl _ rfl _ _ _ (fun _ h => h) Tryz.underlying25 rfl qAA) (by assumption) ?_; (try simp only [Act.put, zA, zB, zC]); refine wpAnyH_ready (rs := [1]) (by kernel_rfl) (by simp) ?_; refine AllReadyH.cons (o := ⟨some 29, _, _, _, _, _⟩) rfl (fun K hK => ?_) AllReadyH.nil; go_simp
    (go_at_call 45; (refine (Tryz.Builder_String_any_k w5.heap.size w5.heap.size tx wa HI2 hB8).mono ?_); rintro e wb ⟨rfl, _, hb6, hok⟩)
    refine hK.out _ _ (qAW.below HS5 hb6 L5) (fun HS6 => ?_); replace hy : qAi wb y := qAi.bes (X := fun q => w5.heap.size ≤ q) ⟨hb6.os, hb6.tape, hb6.output, hb6.size, fun k hk hn => hb6.block k (by omega)⟩ hy HOY5.out; replace B2 := qAW.below B2 hb6 L25; replace HB := HB.trans (hb6.mono G5); replace HP5 := Lib.hid (HP5.out.trans hb6); clear hK K HS5 hb6 hok HI2 B5; (try simp only [Act.put, zA, zB, zC]); refine wpAnyH_ready (rs := [2]) (by kernel_rfl) (by simp) ?_; refine AllReadyH.cons (o := ⟨none, _, _, _, _, _⟩) rfl (fun K hK => ?_) AllReadyH.nil; simp only [Region.wanted, if_true]; refine wp_store_row 25 _ _ rfl w1.heap.size y.cells rfl rfl 25 _ B2 qAA rfl (qAP _) ?_; obtain ⟨wc, hwc⟩ : ∃ wc, wc = wb.setRow w1.heap.size y.cells := ⟨_, rfl⟩; have HWC := Lib.hid hwc; rw [← hwc]; clear hwc; have hq := qAN HWC (show w.heap.size ≤ w1.heap.size by omega) HB; replace HB := hq.1; replace hy : qAi wc y := qAi.bes (Bes.row (X := fun q => q = w1.heap.size) HWC rfl) hy HOZ.out; have HOX := Lib.hid (((HOW5.out.below HP5.out).bes (Bes.row (X := fun q => q = w1.heap.size) HWC rfl) (fun q e => by have e2 : q = w1.heap.size := e; have := HWL.out; omega)).mono HWW.out); have HS7 := qAu HWC (show w4.heap.size ≠ w1.heap.size by omega) HS6; replace B2 := qAQ HWC B2; refine hK.out _ _ HS7 (fun HS8 => ?_); clear hK K HS6 HS7 hq HWC; (try simp only [Act.put, zA, zB, zC]); refine TKC 3 3 rfl ?_; (try simp only [Act.put, zA, zB, zC]); refine TKC 4 4 rfl ?_; (try simp only [Act.put, zA, zB, zC]); refine wpAnyH_done (by kernel_rfl) ?_ _; go_wp2; exact bodyPost_ret (qDn rfl _ _ w1.heap.size y.cells (.string ⟨tx.toArray⟩) .nilIface rfl rfl rfl B2 qAA) rfl (BoV.ok HS.out HB hy HEY.out HOY.out HOX.out)
  ·have HSN := Lib.hid (show qBc (er j) (32 - 0) = false from qBi hs); have HS := Lib.hid (show qBz (er j) = (8, []) by unfold qBz; rw [if_neg hn, if_neg hs]); clear hn hs; go_enter Tryz.func26, Tryz.ntmps26
   go_wp2_with (first
    | (refine qAM rfl 25 (.tmp 0) rfl _ rfl ?_; intro w1 hw; have hb := qAD hw; have B1 := (qAC hw).1; replace HB := zT HB hb; (try replace HJ := HJ.below hb); (try replace hy := hy.below hb); (try replace B2 := zI B2 hb); (try replace B5 := zI B5 hb); clear hb hw; have L01 := qAW.lt B1)
    | ((with_reducible refine qAG ?_); refine qAO 5 rfl rfl 25 rfl rfl (.tmp 16) rfl _ qAY JV.zero.cells rfl rfl qAA rfl (qAP _) ?_; intro w5 hw; have hb := qAD hw; have B5 := (qAC hw).1; have L24 := qAW.lt B2; have H45 := Lib.hid hb; replace HB := zT HB hb; (try replace HJ := HJ.below hb); (try replace hy := hy.below hb); (try replace B1 := zI B1 hb); (try replace B2 := zI B2 hb); clear hb hw)
    | ((with_reducible refine qAG ?_); refine qAE rfl 25 rfl _ qAY ?_; intro w2 hw; have hb := qAD hw; have B2 := qAI hw; replace HB := zT HB hb; (try replace HJ := HJ.below hb); (try replace hy := hy.below hb); (try replace B1 := zI B1 hb); (try replace B5 := zI B5 hb); clear hb hw; have L12 := qAW.lt B2)
    | ((with_reducible refine qAR ?_); refine qAL rfl 25 (.tmp 1) rfl _ rfl _ _ _ B1 Tryz.underlying25 rfl qAA ?_)
    | (go_at_call 41; (refine (qDl HJ).mono ?_); rintro e w3 ⟨rfl, hb⟩; rw [HCT.out]; replace HB := zT HB hb; (try replace HJ := HJ.below hb); (try replace hy := hy.below hb); (try replace B1 := zI B1 hb); (try replace B2 := zI B2 hb); (try replace B5 := zI B5 hb); clear hb)
    | (go_at_call 42; (refine (qGb HJ HZ.out (glN HB HW.out.gl)).mono ?_); intro e w4 hnm; obtain ⟨he, hb⟩ := NmV.not HSN.out hnm; subst he; clear hnm; replace HB := zT HB hb; (try replace HJ := HJ.below hb); (try replace hy := hy.below hb); (try replace B1 := zI B1 hb); (try replace B2 := zI B2 hb); (try replace B5 := zI B5 hb); clear hb)
    | ((with_reducible refine qAT ?_); refine qAK qBH rfl _ rfl rfl ?_)
    | ((with_reducible refine qAF ?_); refine qAH rfl 25 (.tmp 2) (.tmp 20) rfl _ JV.zero.cells rfl rfl _ _ B2 qAA rfl (qAP _) ?_; intro w9 hw; have hq := qAN hw (show w.heap.size ≤ w1.heap.size by omega) HB; replace HB := hq.1; replace B2 := qAQ hw B2; clear hq hw))
   exact bodyPost_ret (qDn rfl _ _ w1.heap.size JV.zero.cells (.string ⟨#[]⟩) (.iface 31 (.int .i64 8)) rfl rfl rfl B2 qAA) rfl (BoV.bad HS.out (by decide) HB)
end
end Go.Proofs.YtnjhmnolngdfaaaGreatDoor
namespace Go.Proofs.YtnjhmnolngdfaaaGreatDoor
section
open Go.RowKit Go.PlainAid
theorem qKN (r : Int) : (Lib.encodeRune r).length ≤ 4 := by
  unfold Lib.encodeRune; rw [List.length_map]; exact (Lib.encodeRuneZ_length r).2
theorem qGj {s : ByteArray} : ∀ (n i : Nat) (acc : List UInt8) (t : ByteArray) (k : Nat), qBM s n i acc = .ok t k → t.size + 8 * i ≤ acc.length + 8 * k
 | 0, i, acc, t, k, h => by unfold qBM at h; cases h
 | n + 1, i, acc, t, k, h => by
  unfold qBM at h
  split at h
  ·cases h
  ·rename_i h32
   split at h
   ·injection h with h1 h2; subst h1 h2; (have : (⟨acc.toArray⟩ : ByteArray).size = acc.length := by simp [ByteArray.size]); omega
   ·split at h
    ·split at h
     ·cases h
     ·rename_i x k2 hx; have hg := qCT (s := s) (i := i + 1) x k2 hx; have := qGj n k2 _ t k h; rw [List.length_append] at this; have := qKN x; omega
    ·split at h
     ·cases h
     ·have hi : i < s.size := by
       rcases Nat.lt_or_ge i s.size with h1 | h1
       ·exact h1
       ·rw [qBb h1] at h32; omega
      have hd := qB8 s i hi; have := qGj n _ _ t k h; rw [List.length_append] at this; have := qKN ((Utf8.decode s i).1 : Nat); omega
theorem qG9 {s : ByteArray} {i : Nat} {t : ByteArray} {k : Nat} (h : qBK s i = .ok t k) : t.size + 1 + 8 * i ≤ 8 * k := by
  have := qGj _ _ _ _ _ h; simp only [List.length_nil] at this; omega
theorem qI7 {σ : Type} {s : ByteArray} {endc : Int} {step : Nat → σ → Out σ} {m : σ → Nat} (hst : ∀ i x y k, step i x = .ok y k → m y + 8 * i ≤ m x + 8 * k) : ∀ (n i : Nat) (x y : σ) (k : Nat), qBU s endc step n i x = .ok y k → m y + 8 * i ≤ m x + 8 * k
 | 0, i, x, y, k, h => by unfold qBU at h; cases h
 | n + 1, i, x, y, k, h => by
  unfold qBU at h
  split at h
  ·cases h
  ·rename_i z k2 hz; have h1 := hst _ _ _ _ hz; have h2 := qBJ (s := s) (i := k2)
   split at h
   ·injection h with e1 e2; subst e1 e2; omega
   ·split at h
    ·have h3 := qI7 hst n _ _ _ _ h; have h4 := qBJ (s := s) (i := qAd s k2 + 1); omega
    ·cases h
theorem qHa {σ : Type} {s : ByteArray} {endc : Int} {step : Nat → σ → Out σ} {m : σ → Nat} (hst : ∀ i x y k, step i x = .ok y k → m y + 8 * i ≤ m x + 8 * k) {i : Nat} {x y : σ} {k : Nat} (h : qAx s endc step i x = .ok y k) : m y + 8 * (i + 1) ≤ m x + 8 * k := by
  unfold qAx at h; have h4 := qBJ (s := s) (i := i + 1)
  split at h
  · injection h with e1 e2; subst e1 e2; omega
  · have := qI7 hst _ _ _ _ _ h; omega
theorem qH4 : ∀ l m : List JT, SzL (l ++ m) = SzL l + SzL m
  | [], m => by rw [List.nil_append]; show _ = 0 + _; omega
  | x :: r, m => by rw [List.cons_append]; show SzT x + SzL (r ++ m) = SzT x + SzL r + SzL m; rw [qH4 r m]; omega
theorem qLp : ∀ l m : List ByteArray, SzN (l ++ m) = SzN l + SzN m
  | [], m => by rw [List.nil_append]; show _ = 0 + _; omega
  | x :: r, m => by rw [List.cons_append]; show x.size + 1 + SzN (r ++ m) = x.size + 1 + SzN r + SzN m; rw [qLp r m]; omega
theorem qJ4 (k : Int) (b : Bool) (i : Int) (t : ByteArray) : SzT (.mk k b i t [] [] []) = 1 + t.size := by simp [SzT, SzL, SzN]
theorem qGg {s : ByteArray} : ∀ (d i : Nat) (t : JT) (k : Nat), qAJ s d i = .ok t k → SzT t + 8 * i ≤ 8 * k
 | d, i, t, k, h => by
  have hg := qA8 d i t k h; have e0 : (⟨#[]⟩ : ByteArray).size = 0 := rfl; unfold qAJ at h
  split at h
  ·obtain ⟨x, _, rfl⟩ := qD4 h; rw [qJf, qJ4]; omega
  ·split at h
   ·obtain ⟨x, _, rfl⟩ := qD4 h; rw [qFu, qJ4]; omega
   ·split at h
    ·obtain ⟨x, _, rfl⟩ := qD4 h; rw [qFu, qJ4]; omega
    ·split at h
     ·obtain ⟨x, hx, rfl⟩ := qD4 h; rw [qOD, qJ4]; omega
     ·split at h
      ·obtain ⟨x, hx, rfl⟩ := qD4 h; have := qG9 hx; rw [qKb, qJ4]; omega
      ·split at h
       ·cases h
       ·cases d with
        | zero => cases h
        | succ d =>
         simp only at h
         split at h
         ·obtain ⟨l, hl, rfl⟩ := qD4 h
          have hP := qHa (m := SzL) (fun i x y k hy => by
           obtain ⟨t, ht, rfl⟩ := qD4 hy; have := qGg d i t k ht; rw [qH4]; have e : SzL [t] = SzT t := by simp [SzL]
           omega) hl
          have e1 : SzL [] = 0 := rfl; have e2 : SzN [] = 0 := rfl; rw [qJx, qDr]; omega
         ·obtain ⟨x, hx, rfl⟩ := qD4 h
          have hP := qHa (m := fun x : List ByteArray × List JT => SzN x.1 + SzL x.2) (fun i x y k hy => by
           unfold qAg at hy
           split at hy
           ·split at hy
            ·cases hy
            ·rename_i nm q hq
             split at hy
             ·cases hy
             ·split at hy
              ·cases hy
              ·rename_i u k2 hw; obtain ⟨t, ht, rfl⟩ := qD4 hy; have h1 := qG9 hq; have h2 := qGg d _ t k ht; have h3 := qB2 1 (qAd s q) (by decide) qDe _ _ hw; have h4 := qBJ (s := s) (i := q); have h5 := qBJ (s := s) (i := k2); show SzN (x.1 ++ [nm]) + SzL (x.2 ++ [t]) + 8 * i ≤ SzN x.1 + SzL x.2 + 8 * k; rw [qH4, qLp]; (have e : SzL [t] = SzT t := by simp [SzL]); (have e2 : SzN [nm] = nm.size + 1 := by simp [SzN]); omega
           ·cases hy) hx
          have e1 : SzL [] = 0 := rfl; have e2 : SzN [] = 0 := rfl; have hP2 : SzN x.1 + SzL x.2 + 8 * (i + 1) ≤ 0 + 8 * k := hP; rw [qOk, qDr]; omega
theorem qJR {s : ByteArray} {t : JT} {k : Nat} (hs : s.size ≤ 65536) (h : qBZ s = .ok t k) : SzT t ≤ 1048576 := by
  unfold qBZ at h
  split at h
  · cases h
  · rename_i t' k' hv
    split at h
    · cases h
    · injection h with h1 _; subst h1; have h2 := qGg _ _ _ _ hv; have h3 := (qA8 32 (qAd s 0) _ _ hv).2; omega
end
end Go.Proofs.YtnjhmnolngdfaaaGreatDoor
namespace Go.Proofs.YtnjhmnolngdfaaaGreatDoor
section
open Go.RowKit Go.PlainAid
def qQF (c : Int) : Value := if c = 0 then .nilIface else .iface 31 (.int .i64 c)
theorem qOo {c : Int} (h : c ≠ 0) : qQF c = .iface 31 (.int .i64 c) := if_neg h
def WrV (j : JV) (w : World) (e : Ending) (w' : World) : Prop := e = .returned (.tuple #[.string ⟨(qBz (er j)).2.toArray⟩, qQF (qBz (er j)).1]) ∧ Below w.heap.size w w'
theorem WrV.ok {j : JV} {w w' : World} {l : List UInt8} (h : qBz (er j) = (0, l)) (hb : Below w.heap.size w w') : WrV j w (.returned (.tuple #[.string ⟨l.toArray⟩, .nilIface])) w' := ⟨by rw [h]; rfl, hb⟩
theorem WrV.bad {j : JV} {w w' : World} {c : Int} (h : qBz (er j) = (c, [])) (hc : c ≠ 0) (hb : Below w.heap.size w w') : WrV j w (.returned (.tuple #[.string ⟨#[]⟩, .iface 31 (.int .i64 c)])) w' := ⟨by rw [h, qOo hc], hb⟩
theorem WrV.yes {j : JV} {w w' : World} {e : Ending} {l : List UInt8} (h : qBz (er j) = (0, l)) (k : WrV j w e w') : e = .returned (.tuple #[.string ⟨l.toArray⟩, .nilIface]) ∧ Below w.heap.size w w' := by
  obtain ⟨k1, k2⟩ := k; rw [h] at k1; exact ⟨k1, k2⟩
theorem WrV.not {j : JV} {w w' : World} {e : Ending} {c : Int} (h : qBz (er j) = (c, [])) (hc : c ≠ 0) (k : WrV j w e w') : e = .returned (.tuple #[.string ⟨#[]⟩, .iface 31 (.int .i64 c)]) ∧ Below w.heap.size w w' := by
  obtain ⟨k1, k2⟩ := k; rw [h, qOo hc] at k1; exact ⟨k1, k2⟩
def NoV (j : JV) (w : World) (e : Ending) (w' : World) : Prop := Below w.heap.size w w' ∧
  if (qBz (er j)).1 = 0 then ∃ x, e = .returned (.tuple #[.agg x.cells, .nilIface]) ∧ qAi w' x ∧ er x = qBP (er j) ∧ Off (fun q => q < w.heap.size) x ∧ OwO w.heap.size x w'
  else e = .returned (.tuple #[.agg JV.zero.cells, .iface 31 (.int .i64 (qBz (er j)).1)])
theorem NoV.bad {j : JV} {w w' : World} {c : Int} (h : qBz (er j) = (c, [])) (hc : c ≠ 0) (hb : Below w.heap.size w w') : NoV j w (.returned (.tuple #[.agg JV.zero.cells, .iface 31 (.int .i64 c)])) w' := ⟨hb, by rw [h, if_neg hc]⟩
theorem NoV.ok {j : JV} {w w' : World} {l : List UInt8} (h : qBz (er j) = (0, l)) (hb : Below w.heap.size w w') {x : JV} (hx : qAi w' x) (he : er x = qBP (er j)) (ho : Off (fun q => q < w.heap.size) x) (hw : OwO w.heap.size x w') : NoV j w (.returned (.tuple #[.agg x.cells, .nilIface])) w' := ⟨hb, by rw [h, if_pos rfl]; exact ⟨x, rfl, hx, he, ho, hw⟩⟩
theorem NoV.yes {j : JV} {w w' : World} {e : Ending} {l : List UInt8} (h : qBz (er j) = (0, l)) (k : NoV j w e w') : ∃ x, e = .returned (.tuple #[.agg x.cells, .nilIface]) ∧ qAi w' x ∧ er x = qBP (er j) ∧ Off (fun q => q < w.heap.size) x ∧ OwO w.heap.size x w' ∧ Below w.heap.size w w' := by
  obtain ⟨k1, k2⟩ := k; rw [h, if_pos rfl] at k2; obtain ⟨x, a, b, c, d, f⟩ := k2; exact ⟨x, a, b, c, d, f, k1⟩
theorem NoV.not {j : JV} {w w' : World} {e : Ending} {c : Int} (h : qBz (er j) = (c, [])) (hc : c ≠ 0) (k : NoV j w e w') : e = .returned (.tuple #[.agg JV.zero.cells, .iface 31 (.int .i64 c)]) ∧ Below w.heap.size w w' := by
  obtain ⟨k1, k2⟩ := k; rw [h, if_neg hc] at k2; exact ⟨k2, k1⟩
def qQg (a b : JT) : Bool := ((qBz a).1 == 0 && (qBz b).1 == 0) && (qBz a).2 == (qBz b).2
def isS (s : ByteArray) : Bool := if 65536 < s.size then false else match qBZ s with
  | .ok t _ => (qBz t).1 == 0 && (qBz t).2 == s.data.toList
  | .bad _ _ => false
theorem qDg {j : JV} {w : World} (HJ : qAi w j) (hz : SzT (er j) ≤ 1048576) (hW : Wc w) : Calls Tryz.prog 10 #[.agg j.cells] w (WrV j w) := by
 have HZ := Lib.hid hz; have HW := Lib.hid hW; have HB := Below.refl w.heap.size w; clear hz hW; rcases qE1 (er j) with ⟨l, hs⟩ | ⟨c, hs, hc⟩
 ·have HS := Lib.hid hs; clear hs; go_enter Tryz.func10, Tryz.ntmps10
  go_wp2_with (first
   | (refine qAM rfl 25 (.tmp 0) rfl _ rfl ?_; intro w1 hw; have hb := qAD hw; have B1 := (qAC hw).1; replace HB := zT HB hb; (try replace HJ := HJ.below hb); (try replace HK := HK.below hb); (try replace hy := hy.below hb); (try replace B2 := zI B2 hb); (try replace B3 := zI B3 hb); (try replace B4 := zI B4 hb); clear hb hw)
   | ((with_reducible refine qAG ?_); refine qAO 4 rfl rfl 25 rfl rfl (.tmp 10) rfl _ qAY y.cells rfl rfl qAA rfl (qAP _) ?_; intro w5 hw; have hb := qAD hw; have B4 := (qAC hw).1; replace HB := zT HB hb; (try replace HJ := HJ.below hb); (try replace HK := HK.below hb); (try replace hy := hy.below hb); (try replace B1 := zI B1 hb); (try replace B2 := zI B2 hb); (try replace B3 := zI B3 hb); clear hb hw)
   | ((with_reducible refine qAR ?_); refine qAL rfl 25 (.tmp 1) rfl _ rfl _ _ _ B1 Tryz.underlying25 rfl qAA ?_)
   | (go_at_call 26; (refine (qEq HJ HZ.out (Wc.below HB HW.out)).mono ?_); intro e w4 hnm; obtain ⟨y, he, hy, hey, hoy, how, hb⟩ := BoV.yes HS.out hnm; subst he; clear hnm; have HWW := Lib.hid HB.size; have HP4 := Lib.hid (Below.refl w4.heap.size w4); have HOWY := Lib.hid how; clear how; have HEY := Lib.hid hey; have HOY := Lib.hid (Off.mono (fun q h => Nat.lt_of_lt_of_le h HB.size) hoy); have HOZ : Hid (∀ g, g < w4.heap.size → True) := Lib.hid (fun _ _ => trivial); clear hey hoy; replace HB := zT HB hb; (try replace HJ := HJ.below hb); (try replace HK := HK.below hb); (try replace B1 := zI B1 hb); (try replace B2 := zI B2 hb); (try replace B3 := zI B3 hb); (try replace B4 := zI B4 hb); clear hb))
  go_ret2; exact WrV.ok HS.out HB
 ·have HS := Lib.hid hs; clear hs; go_enter Tryz.func10, Tryz.ntmps10
  go_wp2_with (first
   | (refine qAM rfl 25 (.tmp 0) rfl _ rfl ?_; intro w1 hw; have hb := qAD hw; have B1 := (qAC hw).1; replace HB := zT HB hb; (try replace HJ := HJ.below hb); (try replace HK := HK.below hb); (try replace hy := hy.below hb); (try replace B2 := zI B2 hb); (try replace B3 := zI B3 hb); (try replace B4 := zI B4 hb); clear hb hw)
   | ((with_reducible refine qAG ?_); refine qAO 4 rfl rfl 25 rfl rfl (.tmp 10) rfl _ qAY JV.zero.cells rfl rfl qAA rfl (qAP _) ?_; intro w5 hw; have hb := qAD hw; have B4 := (qAC hw).1; replace HB := zT HB hb; (try replace HJ := HJ.below hb); (try replace HK := HK.below hb); (try replace hy := hy.below hb); (try replace B1 := zI B1 hb); (try replace B2 := zI B2 hb); (try replace B3 := zI B3 hb); clear hb hw)
   | ((with_reducible refine qAR ?_); refine qAL rfl 25 (.tmp 1) rfl _ rfl _ _ _ B1 Tryz.underlying25 rfl qAA ?_)
   | (go_at_call 26; (refine (qEq HJ HZ.out (Wc.below HB HW.out)).mono ?_); intro e w4 hnm; obtain ⟨he, hb⟩ := BoV.not HS.out hc hnm; subst he; clear hnm; replace HB := zT HB hb; (try replace HJ := HJ.below hb); (try replace HK := HK.below hb); (try replace hy := hy.below hb); (try replace B1 := zI B1 hb); (try replace B2 := zI B2 hb); (try replace B3 := zI B3 hb); (try replace B4 := zI B4 hb); clear hb))
  go_ret2; exact WrV.bad HS.out hc HB
theorem qGH {fn : Func} (h : fn.results = #[.cell 2 25, .tmp 3]) (tmps : Array Value) (w : World) (g : Nat) (cs : Array Value) (ev : Value) (hp : tmps.getD 2 undef = .pointer (some ⟨g, 0, none⟩)) (hq : tmps.getD 3 undef = ev) (hg : qAW w g 25 cs) (hi : (Tryz.prog.info? 25).map (·.size) = some cs.size) :
    (results fn tmps).run Tryz.prog w = .ok (.tuple #[.agg cs, ev]) w := by
  rw [← hq]; exact qDP h tmps w g 25 cs _ hp hg Tryz.underlying25 rfl hi
theorem qHP {j : JV} {w : World} (HJ : qAi w j) (hz : SzT (er j) ≤ 1048576) (hW : Wc w) : Calls Tryz.prog 20 #[.agg j.cells] w (NoV j w) := by
 have HZ := Lib.hid hz; have HW := Lib.hid hW; have HB := Below.refl w.heap.size w; clear hz hW; rcases qE1 (er j) with ⟨l, hs⟩ | ⟨c, hs, hc⟩
 ·have HS := Lib.hid hs; clear hs; go_enter Tryz.func20, Tryz.ntmps20
  go_wp2_with (first
   | (refine qAM rfl 25 (.tmp 0) rfl _ rfl ?_; intro w1 hw; have hb := qAD hw; have B1 := (qAC hw).1; replace HB := zT HB hb; (try replace HJ := HJ.below hb); (try replace HK := HK.below hb); (try replace hy := hy.below hb); (try replace B2 := zI B2 hb); (try replace B3 := zI B3 hb); (try replace B4 := zI B4 hb); clear hb hw)
   | ((with_reducible refine qAG ?_); refine qAO 4 rfl rfl 25 rfl rfl (.tmp 10) rfl _ qAY y.cells rfl rfl qAA rfl (qAP _) ?_; intro w5 hw; have hb := qAD hw; have B4 := (qAC hw).1; replace HB := zT HB hb; (try replace HJ := HJ.below hb); (try replace HK := HK.below hb); (try replace hy := hy.below hb); (try replace B1 := zI B1 hb); (try replace B2 := zI B2 hb); (try replace B3 := zI B3 hb); replace HP4 := Lib.hid (HP4.out.trans hb); clear hb hw)
   | ((with_reducible refine qAG ?_); refine qAE (o := ⟨some 2, _, _, _, _, _⟩) rfl 25 rfl _ qAY ?_; intro w2 hw; have hb := qAD hw; have B2 := qAI hw; have L01 := qAW.lt B1; replace HB := zT HB hb; (try replace HJ := HJ.below hb); (try replace HK := HK.below hb); (try replace hy := hy.below hb); (try replace B1 := zI B1 hb); (try replace B3 := zI B3 hb); (try replace B4 := zI B4 hb); clear hb hw; have L12 := qAW.lt B2)
   | ((with_reducible refine qAR ?_); refine qAL rfl 25 (.tmp 1) rfl _ rfl _ _ _ B1 Tryz.underlying25 rfl qAA ?_)
   | ((with_reducible refine qAR ?_); refine qAL rfl 25 (.tmp 4) rfl _ rfl _ _ _ B4 Tryz.underlying25 rfl qAA ?_)
   | (go_at_call 26; (refine (qEq HJ HZ.out (Wc.below HB HW.out)).mono ?_); intro e w4 hnm; obtain ⟨y, he, hy, hey, hoy, how, hb⟩ := BoV.yes HS.out hnm; subst he; clear hnm; have HWW := Lib.hid HB.size; have HP4 := Lib.hid (Below.refl w4.heap.size w4); have HOWY := Lib.hid how; clear how; have HEY := Lib.hid hey; have HOY := Lib.hid (Off.mono (fun q h => Nat.lt_of_lt_of_le h HB.size) hoy); have HWB := Lib.hid (qAW.lt B2); have HOZ : Hid (Off (fun q => q = w1.heap.size) y) := Lib.hid (Off.mono (fun q e => by have e2 : q = w1.heap.size := e; have := qAW.lt B2; show q < _; omega) hoy); clear hey hoy; replace HB := zT HB hb; (try replace HJ := HJ.below hb); (try replace HK := HK.below hb); (try replace B1 := zI B1 hb); (try replace B2 := zI B2 hb); (try replace B3 := zI B3 hb); (try replace B4 := zI B4 hb); clear hb)
   | ((with_reducible refine qAF ?_); refine qAH rfl 25 (.tmp 2) (.tmp 13) rfl _ y.cells rfl rfl _ _ B2 qAA rfl (qAP _) ?_; intro w9 hw; have hq := qAN hw (show w.heap.size ≤ w1.heap.size by omega) HB; replace HB := hq.1; replace hy := qAi.bes (Bes.row (X := fun q => q = w1.heap.size) hw rfl) hy HOZ.out; have HOX := Lib.hid (((HOWY.out.below HP4.out).bes (Bes.row (X := fun q => q = w1.heap.size) hw rfl) (fun q e => by have e2 : q = w1.heap.size := e; have := HWB.out; omega)).mono HWW.out); replace B2 := qAQ hw B2; clear hq hw))
  exact bodyPost_ret (qGH rfl _ _ w1.heap.size y.cells .nilIface rfl rfl B2 qAA) rfl (NoV.ok HS.out HB hy HEY.out HOY.out HOX.out)
 ·have HS := Lib.hid hs; clear hs; go_enter Tryz.func20, Tryz.ntmps20
  go_wp2_with (first
   | (refine qAM rfl 25 (.tmp 0) rfl _ rfl ?_; intro w1 hw; have hb := qAD hw; have B1 := (qAC hw).1; replace HB := zT HB hb; (try replace HJ := HJ.below hb); (try replace HK := HK.below hb); (try replace hy := hy.below hb); (try replace B2 := zI B2 hb); (try replace B3 := zI B3 hb); (try replace B4 := zI B4 hb); clear hb hw)
   | ((with_reducible refine qAG ?_); refine qAO 4 rfl rfl 25 rfl rfl (.tmp 10) rfl _ qAY JV.zero.cells rfl rfl qAA rfl (qAP _) ?_; intro w5 hw; have hb := qAD hw; have B4 := (qAC hw).1; replace HB := zT HB hb; (try replace HJ := HJ.below hb); (try replace HK := HK.below hb); (try replace hy := hy.below hb); (try replace B1 := zI B1 hb); (try replace B2 := zI B2 hb); (try replace B3 := zI B3 hb); clear hb hw)
   | ((with_reducible refine qAG ?_); refine qAE (o := ⟨some 2, _, _, _, _, _⟩) rfl 25 rfl _ qAY ?_; intro w2 hw; have hb := qAD hw; have B2 := qAI hw; have L01 := qAW.lt B1; replace HB := zT HB hb; (try replace HJ := HJ.below hb); (try replace HK := HK.below hb); (try replace hy := hy.below hb); (try replace B1 := zI B1 hb); (try replace B3 := zI B3 hb); (try replace B4 := zI B4 hb); clear hb hw; have L12 := qAW.lt B2)
   | ((with_reducible refine qAR ?_); refine qAL rfl 25 (.tmp 1) rfl _ rfl _ _ _ B1 Tryz.underlying25 rfl qAA ?_)
   | ((with_reducible refine qAR ?_); refine qAL rfl 25 (.tmp 4) rfl _ rfl _ _ _ B4 Tryz.underlying25 rfl qAA ?_)
   | (go_at_call 26; (refine (qEq HJ HZ.out (Wc.below HB HW.out)).mono ?_); intro e w4 hnm; obtain ⟨he, hb⟩ := BoV.not HS.out hc hnm; subst he; clear hnm; replace HB := zT HB hb; (try replace HJ := HJ.below hb); (try replace HK := HK.below hb); (try replace hy := hy.below hb); (try replace B1 := zI B1 hb); (try replace B2 := zI B2 hb); (try replace B3 := zI B3 hb); (try replace B4 := zI B4 hb); clear hb)
   | ((with_reducible refine qAF ?_); refine qAH rfl 25 (.tmp 2) (.tmp 13) rfl _ JV.zero.cells rfl rfl _ _ B2 qAA rfl (qAP _) ?_; intro w9 hw; have hq := qAN hw (show w.heap.size ≤ w1.heap.size by omega) HB; replace HB := hq.1; replace B2 := qAQ hw B2; clear hq hw))
  exact bodyPost_ret (qGH rfl _ _ w1.heap.size JV.zero.cells (.iface 31 (.int .i64 c)) rfl rfl B2 qAA) rfl (NoV.bad HS.out hc HB)
theorem qIR {s : ByteArray} {w : World} (hW : Wc w) (hr : s.size ≤ qAy) : Calls Tryz.prog 13 #[.string s] w fun e w' => e = .returned (.bool (isS s)) ∧ Below w.heap.size w w' := by
 have HW := Lib.hid hW; have HB := Below.refl w.heap.size w; clear hW
 by_cases h65 : 65536 < s.size
 ·have HF := Lib.hid (show isS s = false by unfold isS; rw [if_pos h65]); have H65 := Lib.hid h65; clear h65; go_enter Tryz.func13, Tryz.ntmps13
  go_wp2_with fail
  refine (qEE HW.out.gl hr).mono ?_; rintro e w4 ⟨hb, hp⟩; rw [if_pos H65.out] at hp; subst hp; replace HB := zT HB hb
  (try replace HJ := HJ.below hb)
  (try replace HK := HK.below hb)
  (try replace hy := hy.below hb)
  (try replace B1 := zI B1 hb)
  (try replace B2 := zI B2 hb)
  (try replace B3 := zI B3 hb)
  (try replace B4 := zI B4 hb)
  clear hb
  go_wp2_with (first
   | ((with_reducible refine qAG ?_); refine qAO 3 rfl rfl 25 rfl rfl (.tmp 9) rfl _ qAY JV.zero.cells rfl rfl qAA rfl (qAP _) ?_; intro w5 hw; have hb := qAD hw; have B3 := (qAC hw).1; replace HB := zT HB hb; (try replace HJ := HJ.below hb); (try replace HK := HK.below hb); (try replace hy := hy.below hb); (try replace B1 := zI B1 hb); (try replace B2 := zI B2 hb); (try replace B4 := zI B4 hb); clear hb hw))
  go_ret; exact ⟨qA5 HF.out.symm, HB⟩
 ·have H65 := Lib.hid h65
  cases hp0 : qBZ s with
  | bad c p =>
   have HF := Lib.hid (show isS s = false by unfold isS; rw [if_neg h65, hp0]); have HP0 := Lib.hid hp0; clear hp0 h65; go_enter Tryz.func13, Tryz.ntmps13
   go_wp2_with fail
   refine (qEE HW.out.gl hr).mono ?_; rintro e w4 ⟨hb, hp⟩; rw [if_neg H65.out, HP0.out] at hp; obtain ⟨g, hp, hg⟩ := hp; subst hp; replace HB := zT HB hb
   (try replace HJ := HJ.below hb)
   (try replace HK := HK.below hb)
   (try replace hy := hy.below hb)
   (try replace B1 := zI B1 hb)
   (try replace B2 := zI B2 hb)
   (try replace B3 := zI B3 hb)
   (try replace B4 := zI B4 hb)
   clear hb hg
   go_wp2_with (first
    | ((with_reducible refine qAG ?_); refine qAO 3 rfl rfl 25 rfl rfl (.tmp 9) rfl _ qAY JV.zero.cells rfl rfl qAA rfl (qAP _) ?_; intro w5 hw; have hb := qAD hw; have B3 := (qAC hw).1; replace HB := zT HB hb; (try replace HJ := HJ.below hb); (try replace HK := HK.below hb); (try replace hy := hy.below hb); (try replace B1 := zI B1 hb); (try replace B2 := zI B2 hb); (try replace B4 := zI B4 hb); clear hb hw))
   go_ret; exact ⟨qA5 HF.out.symm, HB⟩
  | ok t k =>
   have HZT := Lib.hid (qJR (by omega) hp0); have HP0 := Lib.hid hp0; have HF := Lib.hid (show isS s = ((qBz t).1 == 0 && (qBz t).2 == s.data.toList) by unfold isS; rw [if_neg h65, hp0]); clear hp0 h65; rcases qE1 t with ⟨l, hs⟩ | ⟨c, hs, hc⟩
   ·have HS0 := Lib.hid hs; have HG := Lib.hid (show (l == s.toList) = isS s by rw [HF.out, hs, qBN]; rfl); clear hs; go_enter Tryz.func13, Tryz.ntmps13
    go_wp2_with fail
    refine (qEE HW.out.gl hr).mono ?_; rintro e w4 ⟨hb, hp⟩; rw [if_neg H65.out, HP0.out] at hp; obtain ⟨j, hp, HJ, hej, _⟩ := hp; subst hp; replace HB := zT HB hb; clear hb; have HS : Hid (qBz (er j) = (0, l)) := Lib.hid (by rw [hej]; exact HS0.out); have HZ : Hid (SzT (er j) ≤ 1048576) := Lib.hid (by rw [hej]; exact HZT.out); clear hej
    go_wp2_with (first
     | ((with_reducible refine qAG ?_); refine qAO 3 rfl rfl 25 rfl rfl (.tmp 9) rfl _ qAY j.cells rfl rfl qAA rfl (qAP _) ?_; intro w5 hw; have hb := qAD hw; have B3 := (qAC hw).1; replace HB := zT HB hb; (try replace HJ := HJ.below hb); (try replace HK := HK.below hb); (try replace hy := hy.below hb); (try replace B1 := zI B1 hb); (try replace B2 := zI B2 hb); (try replace B4 := zI B4 hb); clear hb hw)
     | ((with_reducible refine qAR ?_); refine qAL rfl 25 (.tmp 3) rfl _ rfl _ _ _ B3 Tryz.underlying25 rfl qAA ?_))
    (refine (qDg HJ HZ.out (Wc.below HB HW.out)).mono ?_)
    intro e w4 hnm; obtain ⟨he, hb⟩ := WrV.yes HS.out hnm; subst he; clear hnm; replace HB := zT HB hb
    (try replace HJ := HJ.below hb)
    (try replace HK := HK.below hb)
    (try replace hy := hy.below hb)
    (try replace B1 := zI B1 hb)
    (try replace B2 := zI B2 hb)
    (try replace B3 := zI B3 hb)
    (try replace B4 := zI B4 hb)
    clear hb; go_wp2; go_ret; exact ⟨qA5 HG.out, HB⟩
   ·have HS0 := Lib.hid hs; have HG := Lib.hid (show isS s = false by rw [HF.out, hs]; simp [hc]); clear hs; go_enter Tryz.func13, Tryz.ntmps13
    go_wp2_with fail
    refine (qEE HW.out.gl hr).mono ?_; rintro e w4 ⟨hb, hp⟩; rw [if_neg H65.out, HP0.out] at hp; obtain ⟨j, hp, HJ, hej, _⟩ := hp; subst hp; replace HB := zT HB hb; clear hb; have HS : Hid (qBz (er j) = (c, [])) := Lib.hid (by rw [hej]; exact HS0.out); have HZ : Hid (SzT (er j) ≤ 1048576) := Lib.hid (by rw [hej]; exact HZT.out); clear hej
    go_wp2_with (first
     | ((with_reducible refine qAG ?_); refine qAO 3 rfl rfl 25 rfl rfl (.tmp 9) rfl _ qAY j.cells rfl rfl qAA rfl (qAP _) ?_; intro w5 hw; have hb := qAD hw; have B3 := (qAC hw).1; replace HB := zT HB hb; (try replace HJ := HJ.below hb); (try replace HK := HK.below hb); (try replace hy := hy.below hb); (try replace B1 := zI B1 hb); (try replace B2 := zI B2 hb); (try replace B4 := zI B4 hb); clear hb hw)
     | ((with_reducible refine qAR ?_); refine qAL rfl 25 (.tmp 3) rfl _ rfl _ _ _ B3 Tryz.underlying25 rfl qAA ?_))
    (refine (qDg HJ HZ.out (Wc.below HB HW.out)).mono ?_)
    intro e w4 hnm; obtain ⟨he, hb⟩ := WrV.not HS.out hc hnm; subst he; clear hnm; replace HB := zT HB hb
    (try replace HJ := HJ.below hb)
    (try replace HK := HK.below hb)
    (try replace hy := hy.below hb)
    (try replace B1 := zI B1 hb)
    (try replace B2 := zI B2 hb)
    (try replace B3 := zI B3 hb)
    (try replace B4 := zI B4 hb)
    clear hb; go_wp2; go_ret; exact ⟨qA5 HG.out.symm, HB⟩
end
end Go.Proofs.YtnjhmnolngdfaaaGreatDoor
