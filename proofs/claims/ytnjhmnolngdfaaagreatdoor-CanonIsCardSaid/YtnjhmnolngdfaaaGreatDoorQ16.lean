/- Layer 2: what json.Parse defers. Layer 2: json.Parse. -/
import Derived.Defers
import Derived.Recover
import Derived.Test.YtnjhmnolngdfaaaGreatDoorQ15
import Derived.Test.YtnjhmnolngdfaaaGreatDoorQZip
set_option linter.unusedVariables false
set_option linter.unusedSimpArgs false
set_option maxHeartbeats 16000000
set_option maxRecDepth 100000
namespace Go.Proofs.YtnjhmnolngdfaaaGreatDoor
open Go.RowKit Go.PlainAid
theorem qKY (d : Nat) : d ≤ 32 → qEW d := by
  induction d with
  | zero => exact fun h => qG3 h (fun e he => by cases he)
  | succ d ih =>
    intro h; have hd : qEW d := ih (by omega)
    have hin : ∀ e, d + 1 = e + 1 → qEW e := fun e he => by
      (have e2 : d = e := by omega); subst e2; exact @hd
    have hv : qEW (d + 1) := qG3 h hin; exact @hv
theorem qJt (gv ge : Nat) (w : World) :
    CallsD Tryz.prog 36 #[At gv, At ge] .returning w fun e u' w' => e = .returned (.tuple #[]) ∧ u' = .returning ∧ w' = w := by
  (refine callsD_of_wpS Tryz.func36 rfl fun c₀ cs hu => ?_); apply wpS_seq; apply wpS_region; simp [wpOpsS, go_sem, recoverD, hu, Tryz.ntmps36, Exit.thenS]; apply wpS_seq; apply wpS_seq; apply wpS_region; simp [wpOpsS, go_sem, Exit.thenS]; refine wpS_cond (t := true) (by simp [Act.eval, Array.replicate]) ?_; simp only [if_true]; refine wpS_of_wp (wp_ret ?_); cases c₀
  simp_all [bodyPostS, results, Tryz.results36, Exit.thenS]
theorem qFS (gv ge g : Nat) (older : List PanicEntry) {w : World} {t1 t2 : TypeId} {arr : Array Value} {v0 : Value} (hgv : qAW w gv t1 arr) (h6 : arr.size = 6) (hge : qAW w ge t2 #[v0]) (hne : gv ≠ ge) :
    CallsD Tryz.prog 36 #[At gv, At ge] (.panicking ({ v := .iface 66 (At g), recovered := false } :: older)) w fun e u' w' =>
      e = .returned (.tuple #[]) ∧ u' = .panicking ({ v := .iface 66 (At g), recovered := true } :: older) ∧ qAW w' gv t1 JV.zero.cells ∧ qAW w' ge t2 #[.iface 66 (At g)] ∧ Bes (fun k => k = gv ∨ k = ge) w w' := by
  (refine callsD_of_wpS Tryz.func36 rfl fun c₀ cs hu => ?_); (have hta : ∀ (w : World), (Instr.typeAssert (.iface 66 (At g)) 20 66 true).run Tryz.prog w = .ok (.tuple #[At g, .bool true]) w := fun _ => by kernel_rfl); (have hnot : ∀ (x : Bool) (w : World), (Op.unary .not (.bool x)).run Tryz.prog w = .ok (.bool (!x)) w := fun _ _ => rfl); apply wpS_seq; apply wpS_region; simp [wpOpsS, go_sem, recoverD, hu, Tryz.ntmps36, Exit.thenS, Array.replicate, List.replicate]; refine wpS_of_wp ?_
  go_wp2_with (first
    | ((with_reducible refine qAF ?_); refine qAH rfl 25 (.tmp 0) (.tmp 16) rfl gv JV.zero.cells rfl rfl _ _ hgv qAA h6 (qAP _) ?_; intro w5 hw; have hb1 := Bes.row (X := fun q => q = gv ∨ q = ge) hw (.inl rfl); replace hge := qAu hw (fun e => hne e.symm) hge; replace hgv := qAQ hw hgv; clear hw)
    | ((with_reducible refine qAF ?_); refine qAs rfl 28 (.tmp 1) (.tmp 18) rfl ge 0 rfl _ rfl _ _ hge (by simp) rfl rfl ?_; intro w6 hw; have hb2 := Bes.row (X := fun q => q = gv ∨ q = ge) hw (.inr rfl); replace hgv := qAu hw hne hgv; replace hge := qAQ hw hge; clear hw))
  refine ⟨rfl, _, rfl, _, results_none rfl _ _ _, rfl, rfl, hgv, hge, Bes.trans hb1 hb2 (fun _ e => e) (fun _ _ e => e)⟩
end Go.Proofs.YtnjhmnolngdfaaaGreatDoor
namespace Go.Proofs.YtnjhmnolngdfaaaGreatDoor
open Go.RowKit Go.PlainAid
theorem qDm {P : Program} {ops : Array Oper} {rest : List Oper} {o : Oper} {a : Act} {w : World} {Q : Exit → Act → World → Prop} (hgd : o.guard = none) (ty : TypeId) (ho : o.op = .alloc ty) (z : Value) (hz : ∀ w, (zeroValue ty).run P w = .ok z w) (hz1 : z.oneCell' = true)
    (h : ∀ w', Hid (w' = w.alloc (.cells #[z] ty)) → wpList P ops Q rest (a.put o.dst (.pointer (some ⟨w.heap.size, 0, none⟩))) w') : wpList P ops Q (o :: rest) a w :=
  wpList_plain hgd fun _ hK => by
    (have hzc : z.cells = #[z] := by cases z <;> first | rfl | cases hz1); unfold Oper.wp execOp; simp [ho, Instr.alloc, Sem.run_bind, hz, newVar, hzc]; exact hK _ _ (h _ rfl)
theorem qBt {P : Program} {fn : Func} {p q : Tmp} {ty ty2 : TypeId} (h : fn.results = #[.cell p ty, .cell q ty2]) (tmps : Array Value) (w : World) (g : Nat) (t : TypeId) (cs : Array Value) (d : TypeDesc)
    (hp : tmps.getD p undef = .pointer (some ⟨g, 0, none⟩)) (hg : qAW w g t cs) (hu : P.underlying ty = some d) (hd : (match d with | .struct _ | .array _ _ => true | _ => false) = true) (hi : (P.info? ty).map (·.size) = some cs.size)
    (g2 : Nat) (v : Value) (hq : tmps.getD q undef = .pointer (some ⟨g2, 0, none⟩)) (hl : (loadVar ty2 ⟨g2, 0, none⟩).run P w = .ok v w) :
    (results fn tmps).run P w = .ok (.tuple #[.agg cs, v]) w := by
  (have hp' : tmps[p]?.getD undef = .pointer (some ⟨g, 0, none⟩) := by simpa using hp); (have hq' : tmps[q]?.getD undef = .pointer (some ⟨g2, 0, none⟩) := by simpa using hq); simp [results, h, hp', hq', asAddr, run_loadVar_row w g t ty cs (0, 0) d hg hu hd hi, hl]
theorem qE5 {w : World} {g : Nat} {t : TypeId} {v : Value} (h : qAW w g t #[v]) : (loadVar 28 ⟨g, 0, none⟩).run Tryz.prog w = .ok v w := by
  have hc := h.cell 0; simp [loadVar, go_sem, hc]
theorem Below.of_bes {X : Nat → Prop} {B : Nat} {w a b : World} (h : Below B w a) (hb : Bes X a b) (hX : ∀ k, X k → B ≤ k) (hB : B ≤ a.heap.size) : Below B w b := h.trans (hb.below hX hB)
theorem Gl.up {w : World} {r n : Nat} (h : Gl w r) (hn : r ≤ n) : Gl w n := ⟨h.syn, h.rng, h.tabs, Nat.lt_of_lt_of_le h.n1 hn, Nat.lt_of_lt_of_le h.n2 hn, Nat.lt_of_lt_of_le h.n3 hn, Nat.lt_of_lt_of_le h.n4 hn⟩
theorem Gl.mvg {n r : Nat} {w w' : World} (h : Gl w n) (hm : Mv r w w') (hn : n ≤ r) : Gl w' n := h.bes hm (fun k hk e => by have e2 : k = r := e; omega)
theorem Below.of_mv {B r : Nat} {w a b : World} (h : Below B w a) (hm : Mv r a b) (hr : B ≤ r) (hB : B ≤ a.heap.size) : Below B w b := Below.of_bes h hm (fun q e => by have e2 : q = r := e; omega) hB
theorem Below.leB {B : Nat} {w a : World} (h : Below B w a) (hB : B ≤ w.heap.size) : B ≤ a.heap.size := Nat.le_trans hB h.size
def qFG (s : ByteArray) (w : World) (e : Ending) (w' : World) : Prop := Below w.heap.size w w' ∧
  (if 65536 < s.size then e = .returned (.tuple #[.agg JV.zero.cells, .iface 31 (.int .i64 2)]) else match qBZ s with
    | .ok t _ => ∃ j, e = .returned (.tuple #[.agg j.cells, .nilIface]) ∧ qAi w' j ∧ er j = t ∧ Off (fun q => q < w.heap.size) j
    | .bad c p => ∃ g, e = .returned (.tuple #[.agg JV.zero.cells, .iface 66 (At g)]) ∧ qAW w' g 96 #[.int .i64 p, .iface 31 (.int .i64 c)])
theorem qFG.big {s : ByteArray} {w w' : World} (hs : 65536 < s.size) (hb : Below w.heap.size w w') : qFG s w (.returned (.tuple #[.agg JV.zero.cells, .iface 31 (.int .i64 2)])) w' := ⟨hb, by rw [if_pos hs]⟩
theorem qFG.ok {s : ByteArray} {w w' : World} (hs : s.size ≤ 65536) (hb : Below w.heap.size w w') {t : JT} {k : Nat} (hp : qBZ s = .ok t k) {j : JV} (hj : qAi w' j) (he : er j = t) (ho : Off (fun q => q < w.heap.size) j) : qFG s w (.returned (.tuple #[.agg j.cells, .nilIface])) w' := ⟨hb, by rw [if_neg (by omega), hp]; exact ⟨j, rfl, hj, he, ho⟩⟩
theorem qFG.bad {s : ByteArray} {w w' : World} (hs : s.size ≤ 65536) (hb : Below w.heap.size w w') {c : Int} {p : Nat} (hp : qBZ s = .bad c p) {g : Nat} (hg : qAW w' g 96 #[.int .i64 p, .iface 31 (.int .i64 c)]) : qFG s w (.returned (.tuple #[.agg JV.zero.cells, .iface 66 (At g)])) w' := ⟨hb, by rw [if_neg (by omega), hp]; exact ⟨g, rfl, hg⟩⟩
theorem qG5 {s : ByteArray} {c : Int} {p : Nat} (h : qAJ s 32 (qAd s 0) = .bad c p) : qBZ s = .bad c p := by unfold qBZ; rw [h]
theorem qF8 {s : ByteArray} {t : JT} {k : Nat} (h : qAJ s 32 (qAd s 0) = .ok t k) (h2 : qAd s k < s.size) : qBZ s = .bad 3 (qAd s k) := by unfold qBZ; rw [h]; exact if_pos h2
theorem qG4 {s : ByteArray} {t : JT} {k : Nat} (h : qAJ s 32 (qAd s 0) = .ok t k) (h2 : ¬ qAd s k < s.size) : qBZ s = .ok t (qAd s k) := by unfold qBZ; rw [h]; exact if_neg h2
theorem qAW.ne {w : World} {g g' : Nat} {t t' : TypeId} {a a' : Array Value} (h : qAW w g t a) (h' : qAW w g' t' a') (hs : a.size ≠ a'.size) : g ≠ g' := by
  rintro rfl; have e := h.symm.trans h'; injection e with e; injection e with e; exact hs (by rw [e])
theorem qLG {w : World} {r : Nat} {s : ByteArray} {i : Nat} (h1 : Rd w r s i) (h2 : Gl w r) (h3 : i ≤ s.size) (h4 : s.size ≤ 65536) : Calls Tryz.prog 38 #[At r, .int .i64 0] w (Got (qAJ s 32 i) r s w (qPu w)) := qEW.at (qKY 32 (Nat.le_refl _)) h1 h2 h3 h4
theorem qEE {w : World} {s : ByteArray} (hG : Gl w w.heap.size) (hsr : s.size ≤ qAy) : Calls Tryz.prog 21 #[.string s] w (qFG s w) := by
 (have hmf : ∀ (fn : Fn) (first cap : Array Value) (w : World), (Instr.makeFunc fn first cap).run Tryz.prog w = .ok (.func fn first cap) w := fun _ _ _ _ => rfl); have HB := Below.refl w.heap.size w; have HG := hG; have h64 : s.size ≤ 9223372036854775807 := Nat.le_trans hsr (by decide)
 by_cases hs : 65536 < s.size
 ·have HK := Lib.hid hs
  go_enter_defers Tryz.func21, Tryz.ntmps21
  go_wp2_with (first
   | ((with_reducible refine qAG ?_); refine qAE rfl 25 rfl _ qAY ?_; intro wa hw; have hb := qAD hw; have BV := qAI hw; have hsa := Lib.hid (qAZ hw); clear hw; replace HB := zT HB hb; replace HG := HG.below hb; clear hb)
   | ((with_reducible refine qAG ?_); refine qDm rfl 28 rfl .nilIface (fun _ => rfl) rfl ?_; intro wb hw; have hb := qAD hw; have BE := (qAC hw).1; have hsb := Lib.hid (qAC hw).2.1; clear hw; replace BV := zI BV hb; replace HB := zT HB hb; replace HG := HG.below hb; clear hb)
   | ((with_reducible refine qAF ?_); refine qAH rfl 25 (.tmp 2) (.tmp 8) rfl w.heap.size JV.zero.cells rfl rfl _ _ BV qAA rfl (qAP _) ?_; intro w5 hw; have hbe := Bes.row (X := fun q => q = w.heap.size) hw rfl; have n0 : ¬ wa.heap.size = w.heap.size := (by have := hsa.out; omega); replace HB := Below.of_mv HB hbe (Nat.le_refl _) (Below.leB HB (Nat.le_refl _)); replace BE := Bes.box hbe BE n0; replace BV := qAQ hw BV; clear hw hbe)
   | ((with_reducible refine qAF ?_); refine qAs rfl 28 (.tmp 3) (.tmp 9) rfl wa.heap.size 0 rfl _ rfl _ _ BE (by simp) rfl rfl ?_; intro w8 hw; have hbe := Bes.row (X := fun q => q = wa.heap.size) hw rfl; have hwa : w.heap.size ≤ wa.heap.size := (by have := hsa.out; omega); replace HB := Below.of_mv HB hbe hwa (Below.leB HB (Nat.le_refl _)); replace BV := Bes.box hbe BV (fun e => n0 (Eq.symm e)); replace BE := qAQ hw BE; clear hw hbe))
  refine ⟨_, qBt rfl _ _ w.heap.size _ JV.zero.cells _ rfl BV Tryz.underlying25 rfl qAA wa.heap.size _ rfl (qE5 BE), ?_⟩; exact qFG.big HK.out HB
 ·have HS : Hid (s.size ≤ 65536) := Lib.hid (by omega)
  cases ho : qAJ s 32 (qAd s 0) with
  | bad c p =>
   have HO := Lib.hid ho; have HK := Lib.hid (qG5 ho); clear ho
   go_enter_defers Tryz.func21, Tryz.ntmps21
   go_wp2_with (first
    | ((with_reducible refine qAG ?_); refine qAE rfl 25 rfl _ qAY ?_; intro wa hw; have hb := qAD hw; have BV := qAI hw; have hsa := Lib.hid (qAZ hw); clear hw; replace HB := zT HB hb; replace HG := HG.below hb; clear hb)
    | ((with_reducible refine qAG ?_); refine qDm rfl 28 rfl .nilIface (fun _ => rfl) rfl ?_; intro wb hw; have hb := qAD hw; have BE := (qAC hw).1; have hsb := Lib.hid (qAC hw).2.1; clear hw; replace BV := zI BV hb; replace HB := zT HB hb; replace HG := HG.below hb; clear hb)
    | (refine qAM rfl 70 (.tmp 12) rfl _ rfl ?_; intro wc hw; have hb := qAD hw; have HR : Rd wc wb.heap.size s 0 := (qAC hw).1; have hsc := Lib.hid (qAC hw).2.1; clear hw; replace BV := zI BV hb; replace BE := zI BE hb; replace HB := zT HB hb; replace HG := HG.below hb; clear hb; have n1 : w.heap.size ≠ wb.heap.size := (by have := hsa.out; have := hsb.out; omega); have n2 : wa.heap.size ≠ wb.heap.size := (by have := hsb.out; omega); have hlw : w.heap.size ≤ wb.heap.size := (by have := hsa.out; have := hsb.out; omega); have n0 : ¬ wa.heap.size = w.heap.size := (by have := hsa.out; omega))
    | (go_at_call 37; (with_reducible refine (qBI HR (Nat.zero_le _) HS.out).mono ?_); rintro e w3 ⟨rfl, hr4, hm⟩; replace HR := hr4; clear hr4; replace BV := BV.mv hm n1; replace BE := BE.mv hm n2; replace HG := HG.mvg hm hlw; replace HB := Below.of_mv HB hm hlw (Below.leB HB (Nat.le_refl _)); clear hm)
    | (go_at_call 38; (have HG4 := HG.up hlw; have hlv := qAW.lt BV; have hle := qAW.lt BE; have hlr := HR.lt); refine (qLG HR HG4 (qBg (Nat.zero_le _)) HS.out).mono ?_; rw [HO.out]; rintro e w4 ⟨hm, ⟨g, rfl, hg⟩⟩; replace BV := BV.mv hm n1; replace BE := BE.mv hm n2; replace HG := HG.mvg hm hlw; replace HB := Below.of_mv HB hm hlw (Below.leB HB (Nat.le_refl _)); clear hm))
   (have hn : w.heap.size ≠ wa.heap.size := by have := hsa.out; omega); refine leaves_cons (f := 36) (args := #[At w.heap.size, At wa.heap.size]) (by simp) (by simp [go_sem]) ?_; have hg1 : g ≠ w.heap.size := qAW.ne hg BV (by simp [JV.cells, VM.cells]); have hg2 : g ≠ wa.heap.size := qAW.ne hg BE (by simp); refine (qFS _ _ g [] BV rfl BE hn).mono ?_; rintro e u' w'' ⟨rfl, rfl, BV, BE, hbe⟩; refine ⟨_, qBt rfl _ _ w.heap.size _ JV.zero.cells _ rfl BV Tryz.underlying25 rfl qAA wa.heap.size _ rfl (qE5 BE), ?_⟩; exact qFG.bad HS.out (Below.of_bes HB hbe (fun q e => by have := hsa.out; rcases e with e | e <;> omega) (Below.leB HB (Nat.le_refl _))) HK.out (Bes.box hbe hg (fun e => e.elim hg1 hg2))
  | ok t k =>
   have HO := Lib.hid ho; have hks : k ≤ s.size := (qA8 32 (qAd s 0) t k ho).2
   by_cases h2 : qAd s k < s.size
   ·have HK := Lib.hid (qF8 ho h2); clear ho
    go_enter_defers Tryz.func21, Tryz.ntmps21
    go_wp2_with (first
     | ((with_reducible refine qAG ?_); refine qAE rfl 25 rfl _ qAY ?_; intro wa hw; have hb := qAD hw; have BV := qAI hw; have hsa := Lib.hid (qAZ hw); clear hw; replace HB := zT HB hb; replace HG := HG.below hb; clear hb)
     | ((with_reducible refine qAG ?_); refine qDm rfl 28 rfl .nilIface (fun _ => rfl) rfl ?_; intro wb hw; have hb := qAD hw; have BE := (qAC hw).1; have hsb := Lib.hid (qAC hw).2.1; clear hw; replace BV := zI BV hb; replace HB := zT HB hb; replace HG := HG.below hb; clear hb)
     | (refine qAM rfl 70 (.tmp 12) rfl _ rfl ?_; intro wc hw; have hb := qAD hw; have HR : Rd wc wb.heap.size s 0 := (qAC hw).1; have hsc := Lib.hid (qAC hw).2.1; clear hw; replace BV := zI BV hb; replace BE := zI BE hb; replace HB := zT HB hb; replace HG := HG.below hb; clear hb; have n1 : w.heap.size ≠ wb.heap.size := (by have := hsa.out; have := hsb.out; omega); have n2 : wa.heap.size ≠ wb.heap.size := (by have := hsb.out; omega); have hlw : w.heap.size ≤ wb.heap.size := (by have := hsa.out; have := hsb.out; omega); have n0 : ¬ wa.heap.size = w.heap.size := (by have := hsa.out; omega))
     | (go_at_call 37; (with_reducible refine (qBI HR (Nat.zero_le _) HS.out).mono ?_); rintro e w3 ⟨rfl, hr4, hm⟩; replace HR := hr4; clear hr4; replace BV := BV.mv hm n1; replace BE := BE.mv hm n2; replace HG := HG.mvg hm hlw; replace HB := Below.of_mv HB hm hlw (Below.leB HB (Nat.le_refl _)); clear hm)
     | (go_at_call 38; (have HG4 := HG.up hlw; have hlv := qAW.lt BV; have hle := qAW.lt BE; have hlr := HR.lt); refine (qLG HR HG4 (qBg (Nat.zero_le _)) HS.out).mono ?_; rw [HO.out]; rintro e w4 ⟨hm, ⟨j, rfl, hj, hje, hjo⟩, hr4⟩; replace HR := hr4; clear hr4; have hjw : Off (fun q => q < w.heap.size) j := Off.mono (fun q e => Nat.lt_trans e hlv) hjo; replace BV := BV.mv hm n1; replace BE := BE.mv hm n2; replace HG := HG.mvg hm hlw; replace HB := Below.of_mv HB hm hlw (Below.leB HB (Nat.le_refl _)); clear hm)
     | ((with_reducible refine qAF ?_); refine qAH rfl 25 (.tmp 2) (.tmp 17) rfl w.heap.size j.cells rfl rfl _ _ BV qAA rfl (qAP _) ?_; intro w5 hw; have hbe := Bes.row (X := fun q => q = w.heap.size) hw rfl; replace HG := HG.mvg hbe (Nat.le_refl _); replace HB := Below.of_mv HB hbe (Nat.le_refl _) (Below.leB HB (Nat.le_refl _)); replace hj := qAi.bes hbe hj (Off.mono (fun q e => by have e2 : q = w.heap.size := e; omega) hjo); replace BE := Bes.box hbe BE n0; replace HR : Rd w5 wb.heap.size s _ := Bes.box hbe HR (fun e => n1 (Eq.symm e)); replace BV := qAQ hw BV; clear hw hbe)
     | (go_at_call 37; (with_reducible refine (qBI HR hks HS.out).mono ?_); rintro e w6 ⟨rfl, hr4, hm⟩; replace HR := hr4; clear hr4; replace hj := qAi.bes hm hj (Off.mono (fun q e => by have e2 : q = wb.heap.size := e; omega) hjo); have c1 := HR.c1; replace BV := BV.mv hm n1; replace BE := BE.mv hm n2; replace HG := HG.mvg hm hlw; replace HB := Below.of_mv HB hm hlw (Below.leB HB (Nat.le_refl _)); clear hm)
     | (go_at_call 39; (with_reducible refine (qAz _ _ _ _).mono ?_); rintro e w7 ⟨⟨g, rfl, hg⟩, hb⟩; replace BV := BV.below hb (qAW.lt BV); replace BE := BE.below hb (qAW.lt BE); replace HB := HB.trans (hb.mono (Below.leB HB (Nat.le_refl _))); clear hb))
    (have hn : w.heap.size ≠ wa.heap.size := by have := hsa.out; omega); refine leaves_cons (f := 36) (args := #[At w.heap.size, At wa.heap.size]) (by simp) (by simp [go_sem]) ?_; have hg1 : g ≠ w.heap.size := qAW.ne hg BV (by simp [JV.cells, VM.cells]); have hg2 : g ≠ wa.heap.size := qAW.ne hg BE (by simp); refine (qFS _ _ g [] BV (by simp [JV.cells, VM.cells]) BE hn).mono ?_; rintro e u' w'' ⟨rfl, rfl, BV, BE, hbe⟩; refine ⟨_, qBt rfl _ _ w.heap.size _ JV.zero.cells _ rfl BV Tryz.underlying25 rfl qAA wa.heap.size _ rfl (qE5 BE), ?_⟩; exact qFG.bad HS.out (Below.of_bes HB hbe (fun q e => by have := hsa.out; rcases e with e | e <;> omega) (Below.leB HB (Nat.le_refl _))) HK.out (Bes.box hbe hg (fun e => e.elim hg1 hg2))
   ·have HK := Lib.hid (qG4 ho h2); clear ho
    go_enter_defers Tryz.func21, Tryz.ntmps21
    go_wp2_with (first
     | ((with_reducible refine qAG ?_); refine qAE rfl 25 rfl _ qAY ?_; intro wa hw; have hb := qAD hw; have BV := qAI hw; have hsa := Lib.hid (qAZ hw); clear hw; replace HB := zT HB hb; replace HG := HG.below hb; clear hb)
     | ((with_reducible refine qAG ?_); refine qDm rfl 28 rfl .nilIface (fun _ => rfl) rfl ?_; intro wb hw; have hb := qAD hw; have BE := (qAC hw).1; have hsb := Lib.hid (qAC hw).2.1; clear hw; replace BV := zI BV hb; replace HB := zT HB hb; replace HG := HG.below hb; clear hb)
     | (refine qAM rfl 70 (.tmp 12) rfl _ rfl ?_; intro wc hw; have hb := qAD hw; have HR : Rd wc wb.heap.size s 0 := (qAC hw).1; have hsc := Lib.hid (qAC hw).2.1; clear hw; replace BV := zI BV hb; replace BE := zI BE hb; replace HB := zT HB hb; replace HG := HG.below hb; clear hb; have n1 : w.heap.size ≠ wb.heap.size := (by have := hsa.out; have := hsb.out; omega); have n2 : wa.heap.size ≠ wb.heap.size := (by have := hsb.out; omega); have hlw : w.heap.size ≤ wb.heap.size := (by have := hsa.out; have := hsb.out; omega); have n0 : ¬ wa.heap.size = w.heap.size := (by have := hsa.out; omega))
     | (go_at_call 37; (with_reducible refine (qBI HR (Nat.zero_le _) HS.out).mono ?_); rintro e w3 ⟨rfl, hr4, hm⟩; replace HR := hr4; clear hr4; replace BV := BV.mv hm n1; replace BE := BE.mv hm n2; replace HG := HG.mvg hm hlw; replace HB := Below.of_mv HB hm hlw (Below.leB HB (Nat.le_refl _)); clear hm)
     | (go_at_call 38; (have HG4 := HG.up hlw; have hlv := qAW.lt BV; have hle := qAW.lt BE; have hlr := HR.lt); refine (qLG HR HG4 (qBg (Nat.zero_le _)) HS.out).mono ?_; rw [HO.out]; rintro e w4 ⟨hm, ⟨j, rfl, hj, hje, hjo⟩, hr4⟩; replace HR := hr4; clear hr4; have hjw : Off (fun q => q < w.heap.size) j := Off.mono (fun q e => Nat.lt_trans e hlv) hjo; replace BV := BV.mv hm n1; replace BE := BE.mv hm n2; replace HG := HG.mvg hm hlw; replace HB := Below.of_mv HB hm hlw (Below.leB HB (Nat.le_refl _)); clear hm)
     | ((with_reducible refine qAF ?_); refine qAH rfl 25 (.tmp 2) (.tmp 17) rfl w.heap.size j.cells rfl rfl _ _ BV qAA rfl (qAP _) ?_; intro w5 hw; have hbe := Bes.row (X := fun q => q = w.heap.size) hw rfl; replace HG := HG.mvg hbe (Nat.le_refl _); replace HB := Below.of_mv HB hbe (Nat.le_refl _) (Below.leB HB (Nat.le_refl _)); replace hj := qAi.bes hbe hj (Off.mono (fun q e => by have e2 : q = w.heap.size := e; omega) hjo); replace BE := Bes.box hbe BE n0; replace HR : Rd w5 wb.heap.size s _ := Bes.box hbe HR (fun e => n1 (Eq.symm e)); replace BV := qAQ hw BV; clear hw hbe)
     | (go_at_call 37; (with_reducible refine (qBI HR hks HS.out).mono ?_); rintro e w6 ⟨rfl, hr4, hm⟩; replace HR := hr4; clear hr4; replace hj := qAi.bes hm hj (Off.mono (fun q e => by have e2 : q = wb.heap.size := e; omega) hjo); have c1 := HR.c1; replace BV := BV.mv hm n1; replace BE := BE.mv hm n2; replace HG := HG.mvg hm hlw; replace HB := Below.of_mv HB hm hlw (Below.leB HB (Nat.le_refl _)); clear hm)
     | ((with_reducible refine qAR ?_); refine qAL rfl 25 (.tmp 2) rfl _ rfl _ _ _ BV Tryz.underlying25 rfl qAA ?_)
     | ((with_reducible refine qAF ?_); refine qAH rfl 25 (.tmp 2) (.tmp 33) rfl w.heap.size j.cells rfl rfl _ _ BV qAA rfl (qAP _) ?_; intro w7 hw; have hbe := Bes.row (X := fun q => q = w.heap.size) hw rfl; replace HG := HG.mvg hbe (Nat.le_refl _); replace HB := Below.of_mv HB hbe (Nat.le_refl _) (Below.leB HB (Nat.le_refl _)); replace hj := qAi.bes hbe hj (Off.mono (fun q e => by have e2 : q = w.heap.size := e; omega) hjo); replace BE := Bes.box hbe BE n0; replace HR : Rd w7 wb.heap.size s _ := Bes.box hbe HR (fun e => n1 (Eq.symm e)); replace BV := qAQ hw BV; clear hw hbe)
     | ((with_reducible refine qAF ?_); refine qAs rfl 28 (.tmp 3) (.const .nilIface) rfl wa.heap.size 0 rfl _ rfl _ _ BE (by simp) rfl rfl ?_; intro w8 hw; have hbe := Bes.row (X := fun q => q = wa.heap.size) hw rfl; have hwa : w.heap.size ≤ wa.heap.size := (by have := hsa.out; omega); replace HB := Below.of_mv HB hbe hwa (Below.leB HB (Nat.le_refl _)); replace hj := qAi.bes hbe hj (Off.mono (fun q e => by have e2 : q = wa.heap.size := e; omega) hjo); replace BV := Bes.box hbe BV (fun e => n0 (Eq.symm e)); replace BE := qAQ hw BE; clear hw hbe))
    refine leaves_cons (f := 36) (args := #[At w.heap.size, At wa.heap.size]) (by simp) (by simp [go_sem]) ?_; refine (qJt _ _ _).mono ?_; rintro e u' w'' ⟨rfl, rfl, rfl⟩; refine ⟨_, qBt rfl _ _ w.heap.size _ j.cells _ rfl BV Tryz.underlying25 rfl qAA wa.heap.size _ rfl (qE5 BE), ?_⟩; exact qFG.ok HS.out HB HK.out hj hje hjw
end Go.Proofs.YtnjhmnolngdfaaaGreatDoor
