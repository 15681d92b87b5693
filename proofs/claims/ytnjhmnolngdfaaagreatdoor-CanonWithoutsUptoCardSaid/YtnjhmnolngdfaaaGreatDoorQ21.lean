/- Layer 2: what json.Parse defers. Layer 2: json.Parse. -/
import Derived.Defers
import Derived.Recover
import Derived.Test.YtnjhmnolngdfaaaGreatDoorQ20
import Derived.Test.YtnjhmnolngdfaaaGreatDoorQZip
namespace Go.Proofs.YtnjhmnolngdfaaaGreatDoor
open Go.RowKit Go.PlainAid
set_option linter.unusedVariables false
set_option linter.unusedSimpArgs false

theorem value_all (d : Nat) : d ≤ 32 → ValOK d := by
  induction d with
  | zero => exact fun h => value_any h (fun e he => by cases he)
  | succ d ih =>
    intro h
    have hd : ValOK d := ih (by omega)
    have hin : ∀ e, d + 1 = e + 1 → ValOK e := fun e he => by
      have e2 : d = e := by omega
      subst e2
      exact @hd
    have hv : ValOK (d + 1) := value_any h hin
    exact @hv

theorem catch_idle (gv ge : Nat) (w : World) :
    CallsD Tryz.prog 36 #[At gv, At ge] .returning w fun e u' w' => e = .returned (.tuple #[]) ∧ u' = .returning ∧ w' = w := by
  refine callsD_of_wpS Tryz.func36 rfl fun c₀ cs hu => ?_
  apply wpS_seq
  apply wpS_region
  simp [wpOpsS, go_sem, recoverD, hu, Tryz.ntmps36, Exit.thenS]
  apply wpS_seq
  apply wpS_seq
  apply wpS_region
  simp [wpOpsS, go_sem, Exit.thenS]
  refine wpS_cond (t := true) (by simp [Act.eval, Array.replicate]) ?_
  simp only [if_true]
  refine wpS_of_wp (wp_ret ?_)
  cases c₀
  simp_all [bodyPostS, results, Tryz.results36, Exit.thenS]

set_option maxRecDepth 10000 in
set_option maxHeartbeats 4000000 in
theorem catch_fault (gv ge g : Nat) (older : List PanicEntry) {w : World} {t1 t2 : TypeId} {arr : Array Value} {v0 : Value} (hgv : IBox w gv t1 arr) (h6 : arr.size = 6) (hge : IBox w ge t2 #[v0]) (hne : gv ≠ ge) :
    CallsD Tryz.prog 36 #[At gv, At ge] (.panicking ({ v := .iface 66 (At g), recovered := false } :: older)) w fun e u' w' =>
      e = .returned (.tuple #[]) ∧ u' = .panicking ({ v := .iface 66 (At g), recovered := true } :: older) ∧ IBox w' gv t1 JV.zero.cells ∧ IBox w' ge t2 #[.iface 66 (At g)] ∧ Bes (fun k => k = gv ∨ k = ge) w w' := by
  refine callsD_of_wpS Tryz.func36 rfl fun c₀ cs hu => ?_
  have hta : ∀ (w : World), (Instr.typeAssert (.iface 66 (At g)) 20 66 true).run Tryz.prog w = .ok (.tuple #[At g, .bool true]) w := fun _ => by kernel_rfl
  have hnot : ∀ (x : Bool) (w : World), (Op.unary .not (.bool x)).run Tryz.prog w = .ok (.bool (!x)) w := fun _ _ => rfl
  apply wpS_seq
  apply wpS_region
  simp [wpOpsS, go_sem, recoverD, hu, Tryz.ntmps36, Exit.thenS, Array.replicate, List.replicate]
  refine wpS_of_wp ?_
  go_wp2_with (first
    | ((with_reducible refine is_store ?_); refine wpl_store_at rfl 25 (.tmp 0) (.tmp 16) rfl gv JV.zero.cells rfl rfl _ _ hgv info_value h6 (jv_one _) ?_; intro w5 hw; have hb1 := Bes.row (X := fun q => q = gv ∨ q = ge) hw (.inl rfl); replace hge := hid_row_other hw (fun e => hne e.symm) hge; replace hgv := hid_row hw hgv; clear hw)
    | ((with_reducible refine is_store ?_); refine wpl_store_cell rfl 28 (.tmp 1) (.tmp 18) rfl ge 0 rfl _ rfl _ _ hge (by simp) rfl rfl ?_; intro w6 hw; have hb2 := Bes.row (X := fun q => q = gv ∨ q = ge) hw (.inr rfl); replace hgv := hid_row_other hw hne hgv; replace hge := hid_row hw hge; clear hw))
  refine ⟨rfl, _, rfl, _, results_none rfl _ _ _, rfl, rfl, hgv, hge, Bes.trans hb1 hb2 (fun _ e => e) (fun _ _ e => e)⟩
end Go.Proofs.YtnjhmnolngdfaaaGreatDoor
namespace Go.Proofs.YtnjhmnolngdfaaaGreatDoor
open Go.RowKit Go.PlainAid
set_option linter.unusedVariables false
set_option linter.unusedSimpArgs false

theorem wpl_alloc1 {P : Program} {ops : Array Oper} {rest : List Oper} {o : Oper} {a : Act} {w : World} {Q : Exit → Act → World → Prop} (hgd : o.guard = none) (ty : TypeId) (ho : o.op = .alloc ty) (z : Value) (hz : ∀ w, (zeroValue ty).run P w = .ok z w) (hz1 : z.oneCell' = true)
    (h : ∀ w', Hid (w' = w.alloc (.cells #[z] ty)) → wpList P ops Q rest (a.put o.dst (.pointer (some ⟨w.heap.size, 0, none⟩))) w') : wpList P ops Q (o :: rest) a w :=
  wpList_plain hgd fun _ hK => by
    have hzc : z.cells = #[z] := by cases z <;> first | rfl | cases hz1
    unfold Oper.wp execOp
    simp [ho, Instr.alloc, Sem.run_bind, hz, newVar, hzc]
    exact hK _ _ (h _ rfl)
theorem results_two {P : Program} {fn : Func} {p q : Tmp} {ty ty2 : TypeId} (h : fn.results = #[.cell p ty, .cell q ty2]) (tmps : Array Value) (w : World) (g : Nat) (t : TypeId) (cs : Array Value) (d : TypeDesc)
    (hp : tmps.getD p undef = .pointer (some ⟨g, 0, none⟩)) (hg : IBox w g t cs) (hu : P.underlying ty = some d) (hd : (match d with | .struct _ | .array _ _ => true | _ => false) = true) (hi : (P.info? ty).map (·.size) = some cs.size)
    (g2 : Nat) (v : Value) (hq : tmps.getD q undef = .pointer (some ⟨g2, 0, none⟩)) (hl : (loadVar ty2 ⟨g2, 0, none⟩).run P w = .ok v w) :
    (results fn tmps).run P w = .ok (.tuple #[.agg cs, v]) w := by
  have hp' : tmps[p]?.getD undef = .pointer (some ⟨g, 0, none⟩) := by simpa using hp
  have hq' : tmps[q]?.getD undef = .pointer (some ⟨g2, 0, none⟩) := by simpa using hq
  simp [results, h, hp', hq', asAddr, run_loadVar_row w g t ty cs (0, 0) d hg hu hd hi, hl]
theorem load_err {w : World} {g : Nat} {t : TypeId} {v : Value} (h : IBox w g t #[v]) : (loadVar 28 ⟨g, 0, none⟩).run Tryz.prog w = .ok v w := by
  have hc := h.cell 0
  simp [loadVar, go_sem, hc]
theorem Below.of_bes {X : Nat → Prop} {B : Nat} {w a b : World} (h : Below B w a) (hb : Bes X a b) (hX : ∀ k, X k → B ≤ k) (hB : B ≤ a.heap.size) : Below B w b := h.trans (hb.below hX hB)
theorem Gl.up {w : World} {r n : Nat} (h : Gl w r) (hn : r ≤ n) : Gl w n := ⟨h.syn, h.rng, h.tabs, Nat.lt_of_lt_of_le h.n1 hn, Nat.lt_of_lt_of_le h.n2 hn, Nat.lt_of_lt_of_le h.n3 hn, Nat.lt_of_lt_of_le h.n4 hn⟩
theorem Gl.mvg {n r : Nat} {w w' : World} (h : Gl w n) (hm : Mv r w w') (hn : n ≤ r) : Gl w' n := h.bes hm (fun k hk e => by have e2 : k = r := e; omega)
theorem Below.of_mv {B r : Nat} {w a b : World} (h : Below B w a) (hm : Mv r a b) (hr : B ≤ r) (hB : B ≤ a.heap.size) : Below B w b := Below.of_bes h hm (fun q e => by have e2 : q = r := e; omega) hB
theorem Below.leB {B : Nat} {w a : World} (h : Below B w a) (hB : B ≤ w.heap.size) : B ≤ a.heap.size := Nat.le_trans hB h.size
/-- What json.Parse gives. -/
def PaRes (s : ByteArray) (w : World) (e : Ending) (w' : World) : Prop := Below w.heap.size w w' ∧
  (if 65536 < s.size then e = .returned (.tuple #[.agg JV.zero.cells, .iface 31 (.int .i64 2)]) else match parseTo s with
    | .ok t _ => ∃ j, e = .returned (.tuple #[.agg j.cells, .nilIface]) ∧ IsJV w' j ∧ er j = t ∧ Off (fun q => q < w.heap.size) j
    | .bad c p => ∃ g, e = .returned (.tuple #[.agg JV.zero.cells, .iface 66 (At g)]) ∧ IBox w' g 96 #[.int .i64 p, .iface 31 (.int .i64 c)])
theorem PaRes.big {s : ByteArray} {w w' : World} (hs : 65536 < s.size) (hb : Below w.heap.size w w') : PaRes s w (.returned (.tuple #[.agg JV.zero.cells, .iface 31 (.int .i64 2)])) w' := ⟨hb, by rw [if_pos hs]⟩
theorem PaRes.ok {s : ByteArray} {w w' : World} (hs : s.size ≤ 65536) (hb : Below w.heap.size w w') {t : JT} {k : Nat} (hp : parseTo s = .ok t k) {j : JV} (hj : IsJV w' j) (he : er j = t) (ho : Off (fun q => q < w.heap.size) j) : PaRes s w (.returned (.tuple #[.agg j.cells, .nilIface])) w' := ⟨hb, by rw [if_neg (by omega), hp]; exact ⟨j, rfl, hj, he, ho⟩⟩
theorem PaRes.bad {s : ByteArray} {w w' : World} (hs : s.size ≤ 65536) (hb : Below w.heap.size w w') {c : Int} {p : Nat} (hp : parseTo s = .bad c p) {g : Nat} (hg : IBox w' g 96 #[.int .i64 p, .iface 31 (.int .i64 c)]) : PaRes s w (.returned (.tuple #[.agg JV.zero.cells, .iface 66 (At g)])) w' := ⟨hb, by rw [if_neg (by omega), hp]; exact ⟨g, rfl, hg⟩⟩
theorem parse_bad {s : ByteArray} {c : Int} {p : Nat} (h : valueTo s 32 (skipTo s 0) = .bad c p) : parseTo s = .bad c p := by unfold parseTo; rw [h]
theorem parse_more {s : ByteArray} {t : JT} {k : Nat} (h : valueTo s 32 (skipTo s 0) = .ok t k) (h2 : skipTo s k < s.size) : parseTo s = .bad 3 (skipTo s k) := by unfold parseTo; rw [h]; exact if_pos h2
theorem parse_okk {s : ByteArray} {t : JT} {k : Nat} (h : valueTo s 32 (skipTo s 0) = .ok t k) (h2 : ¬ skipTo s k < s.size) : parseTo s = .ok t (skipTo s k) := by unfold parseTo; rw [h]; exact if_neg h2
theorem IBox.ne {w : World} {g g' : Nat} {t t' : TypeId} {a a' : Array Value} (h : IBox w g t a) (h' : IBox w g' t' a') (hs : a.size ≠ a'.size) : g ≠ g' := by
  rintro rfl
  have e := h.symm.trans h'
  injection e with e
  injection e with e
  exact hs (by rw [e])
theorem value0 {w : World} {r : Nat} {s : ByteArray} {i : Nat} (h1 : Rd w r s i) (h2 : Gl w r) (h3 : i ≤ s.size) (h4 : s.size ≤ 65536) : Calls Tryz.prog 38 #[At r, .int .i64 0] w (Got (valueTo s 32 i) r s w (ValV w)) := ValOK.at (value_all 32 (Nat.le_refl _)) h1 h2 h3 h4
set_option maxRecDepth 10000 in
set_option maxHeartbeats 8000000 in
theorem parse_any {w : World} {s : ByteArray} (hG : Gl w w.heap.size) (hsr : s.size ≤ reach) : Calls Tryz.prog 21 #[.string s] w (PaRes s w) := by
  have hmf : ∀ (fn : Fn) (first cap : Array Value) (w : World), (Instr.makeFunc fn first cap).run Tryz.prog w = .ok (.func fn first cap) w := fun _ _ _ _ => rfl
  have HB := Below.refl w.heap.size w
  have HG := hG
  have h64 : s.size ≤ 9223372036854775807 := Nat.le_trans hsr (by decide)
  by_cases hs : 65536 < s.size
  · have HK := Lib.hid hs
    go_enter_defers Tryz.func21, Tryz.ntmps21
    go_wp2_with (first
      | ((with_reducible refine is_alloc ?_); refine wpl_alloc_at rfl 25 rfl _ zeroV ?_; intro wa hw; have hb := hid_grow hw; have BV := hid_alloc0 hw; have hsa := Lib.hid (hid_size hw); clear hw; replace HB := zT HB hb; replace HG := HG.below hb; clear hb)
      | ((with_reducible refine is_alloc ?_); refine wpl_alloc1 rfl 28 rfl .nilIface (fun _ => rfl) rfl ?_; intro wb hw; have hb := hid_grow hw; have BE := (hid_alloc hw).1; have hsb := Lib.hid (hid_alloc hw).2.1; clear hw; replace BV := zI BV hb; replace HB := zT HB hb; replace HG := HG.below hb; clear hb)
      | ((with_reducible refine is_store ?_); refine wpl_store_at rfl 25 (.tmp 2) (.tmp 8) rfl w.heap.size JV.zero.cells rfl rfl _ _ BV info_value rfl (jv_one _) ?_; intro w5 hw; have hbe := Bes.row (X := fun q => q = w.heap.size) hw rfl; have n0 : ¬ wa.heap.size = w.heap.size := (by have := hsa.out; omega); replace HB := Below.of_mv HB hbe (Nat.le_refl _) (Below.leB HB (Nat.le_refl _)); replace BE := Bes.box hbe BE n0; replace BV := hid_row hw BV; clear hw hbe)
      | ((with_reducible refine is_store ?_); refine wpl_store_cell rfl 28 (.tmp 3) (.tmp 9) rfl wa.heap.size 0 rfl _ rfl _ _ BE (by simp) rfl rfl ?_; intro w8 hw; have hbe := Bes.row (X := fun q => q = wa.heap.size) hw rfl; have hwa : w.heap.size ≤ wa.heap.size := (by have := hsa.out; omega); replace HB := Below.of_mv HB hbe hwa (Below.leB HB (Nat.le_refl _)); replace BV := Bes.box hbe BV (fun e => n0 (Eq.symm e)); replace BE := hid_row hw BE; clear hw hbe))
    refine ⟨_, results_two rfl _ _ w.heap.size _ JV.zero.cells _ rfl BV Tryz.underlying25 rfl info_value wa.heap.size _ rfl (load_err BE), ?_⟩
    exact PaRes.big HK.out HB
  · have HS : Hid (s.size ≤ 65536) := Lib.hid (by omega)
    cases ho : valueTo s 32 (skipTo s 0) with
    | bad c p =>
      have HO := Lib.hid ho
      have HK := Lib.hid (parse_bad ho)
      clear ho
      go_enter_defers Tryz.func21, Tryz.ntmps21
      go_wp2_with (first
        | ((with_reducible refine is_alloc ?_); refine wpl_alloc_at rfl 25 rfl _ zeroV ?_; intro wa hw; have hb := hid_grow hw; have BV := hid_alloc0 hw; have hsa := Lib.hid (hid_size hw); clear hw; replace HB := zT HB hb; replace HG := HG.below hb; clear hb)
        | ((with_reducible refine is_alloc ?_); refine wpl_alloc1 rfl 28 rfl .nilIface (fun _ => rfl) rfl ?_; intro wb hw; have hb := hid_grow hw; have BE := (hid_alloc hw).1; have hsb := Lib.hid (hid_alloc hw).2.1; clear hw; replace BV := zI BV hb; replace HB := zT HB hb; replace HG := HG.below hb; clear hb)
        | (refine wpl_box_at rfl 70 (.tmp 12) rfl _ rfl ?_; intro wc hw; have hb := hid_grow hw; have HR : Rd wc wb.heap.size s 0 := (hid_alloc hw).1; have hsc := Lib.hid (hid_alloc hw).2.1; clear hw; replace BV := zI BV hb; replace BE := zI BE hb; replace HB := zT HB hb; replace HG := HG.below hb; clear hb; have n1 : w.heap.size ≠ wb.heap.size := (by have := hsa.out; have := hsb.out; omega); have n2 : wa.heap.size ≠ wb.heap.size := (by have := hsb.out; omega); have hlw : w.heap.size ≤ wb.heap.size := (by have := hsa.out; have := hsb.out; omega); have n0 : ¬ wa.heap.size = w.heap.size := (by have := hsa.out; omega))
        | (go_at_call 37; (with_reducible refine (blanks_any HR (Nat.zero_le _) HS.out).mono ?_); rintro e w3 ⟨rfl, hr4, hm⟩; replace HR := hr4; clear hr4; replace BV := BV.mv hm n1; replace BE := BE.mv hm n2; replace HG := HG.mvg hm hlw; replace HB := Below.of_mv HB hm hlw (Below.leB HB (Nat.le_refl _)); clear hm)
        | (go_at_call 38; (have HG4 := HG.up hlw; have hlv := IBox.lt BV; have hle := IBox.lt BE; have hlr := HR.lt); refine (value0 HR HG4 (skip_le (Nat.zero_le _)) HS.out).mono ?_; rw [HO.out]; rintro e w4 ⟨hm, ⟨g, rfl, hg⟩⟩; replace BV := BV.mv hm n1; replace BE := BE.mv hm n2; replace HG := HG.mvg hm hlw; replace HB := Below.of_mv HB hm hlw (Below.leB HB (Nat.le_refl _)); clear hm))
      have hn : w.heap.size ≠ wa.heap.size := by have := hsa.out; omega
      refine leaves_cons (f := 36) (args := #[At w.heap.size, At wa.heap.size]) (by simp) (by simp [go_sem]) ?_
      have hg1 : g ≠ w.heap.size := IBox.ne hg BV (by simp [JV.cells, VM.cells])
      have hg2 : g ≠ wa.heap.size := IBox.ne hg BE (by simp)
      refine (catch_fault _ _ g [] BV rfl BE hn).mono ?_
      rintro e u' w'' ⟨rfl, rfl, BV, BE, hbe⟩
      refine ⟨_, results_two rfl _ _ w.heap.size _ JV.zero.cells _ rfl BV Tryz.underlying25 rfl info_value wa.heap.size _ rfl (load_err BE), ?_⟩
      exact PaRes.bad HS.out (Below.of_bes HB hbe (fun q e => by have := hsa.out; rcases e with e | e <;> omega) (Below.leB HB (Nat.le_refl _))) HK.out (Bes.box hbe hg (fun e => e.elim hg1 hg2))
    | ok t k =>
      have HO := Lib.hid ho
      have hks : k ≤ s.size := (value_goes 32 (skipTo s 0) t k ho).2
      by_cases h2 : skipTo s k < s.size
      · have HK := Lib.hid (parse_more ho h2)
        clear ho
        go_enter_defers Tryz.func21, Tryz.ntmps21
        go_wp2_with (first
          | ((with_reducible refine is_alloc ?_); refine wpl_alloc_at rfl 25 rfl _ zeroV ?_; intro wa hw; have hb := hid_grow hw; have BV := hid_alloc0 hw; have hsa := Lib.hid (hid_size hw); clear hw; replace HB := zT HB hb; replace HG := HG.below hb; clear hb)
          | ((with_reducible refine is_alloc ?_); refine wpl_alloc1 rfl 28 rfl .nilIface (fun _ => rfl) rfl ?_; intro wb hw; have hb := hid_grow hw; have BE := (hid_alloc hw).1; have hsb := Lib.hid (hid_alloc hw).2.1; clear hw; replace BV := zI BV hb; replace HB := zT HB hb; replace HG := HG.below hb; clear hb)
          | (refine wpl_box_at rfl 70 (.tmp 12) rfl _ rfl ?_; intro wc hw; have hb := hid_grow hw; have HR : Rd wc wb.heap.size s 0 := (hid_alloc hw).1; have hsc := Lib.hid (hid_alloc hw).2.1; clear hw; replace BV := zI BV hb; replace BE := zI BE hb; replace HB := zT HB hb; replace HG := HG.below hb; clear hb; have n1 : w.heap.size ≠ wb.heap.size := (by have := hsa.out; have := hsb.out; omega); have n2 : wa.heap.size ≠ wb.heap.size := (by have := hsb.out; omega); have hlw : w.heap.size ≤ wb.heap.size := (by have := hsa.out; have := hsb.out; omega); have n0 : ¬ wa.heap.size = w.heap.size := (by have := hsa.out; omega))
          | (go_at_call 37; (with_reducible refine (blanks_any HR (Nat.zero_le _) HS.out).mono ?_); rintro e w3 ⟨rfl, hr4, hm⟩; replace HR := hr4; clear hr4; replace BV := BV.mv hm n1; replace BE := BE.mv hm n2; replace HG := HG.mvg hm hlw; replace HB := Below.of_mv HB hm hlw (Below.leB HB (Nat.le_refl _)); clear hm)
          | (go_at_call 38; (have HG4 := HG.up hlw; have hlv := IBox.lt BV; have hle := IBox.lt BE; have hlr := HR.lt); refine (value0 HR HG4 (skip_le (Nat.zero_le _)) HS.out).mono ?_; rw [HO.out]; rintro e w4 ⟨hm, ⟨j, rfl, hj, hje, hjo⟩, hr4⟩; replace HR := hr4; clear hr4; have hjw : Off (fun q => q < w.heap.size) j := Off.mono (fun q e => Nat.lt_trans e hlv) hjo; replace BV := BV.mv hm n1; replace BE := BE.mv hm n2; replace HG := HG.mvg hm hlw; replace HB := Below.of_mv HB hm hlw (Below.leB HB (Nat.le_refl _)); clear hm)
          | ((with_reducible refine is_store ?_); refine wpl_store_at rfl 25 (.tmp 2) (.tmp 17) rfl w.heap.size j.cells rfl rfl _ _ BV info_value rfl (jv_one _) ?_; intro w5 hw; have hbe := Bes.row (X := fun q => q = w.heap.size) hw rfl; replace HG := HG.mvg hbe (Nat.le_refl _); replace HB := Below.of_mv HB hbe (Nat.le_refl _) (Below.leB HB (Nat.le_refl _)); replace hj := IsJV.bes hbe hj (Off.mono (fun q e => by have e2 : q = w.heap.size := e; omega) hjo); replace BE := Bes.box hbe BE n0; replace HR : Rd w5 wb.heap.size s _ := Bes.box hbe HR (fun e => n1 (Eq.symm e)); replace BV := hid_row hw BV; clear hw hbe)
          | (go_at_call 37; (with_reducible refine (blanks_any HR hks HS.out).mono ?_); rintro e w6 ⟨rfl, hr4, hm⟩; replace HR := hr4; clear hr4; replace hj := IsJV.bes hm hj (Off.mono (fun q e => by have e2 : q = wb.heap.size := e; omega) hjo); have c1 := HR.c1; replace BV := BV.mv hm n1; replace BE := BE.mv hm n2; replace HG := HG.mvg hm hlw; replace HB := Below.of_mv HB hm hlw (Below.leB HB (Nat.le_refl _)); clear hm)
          | (go_at_call 39; (with_reducible refine (fail_any _ _ _ _).mono ?_); rintro e w7 ⟨⟨g, rfl, hg⟩, hb⟩; replace BV := BV.below hb (IBox.lt BV); replace BE := BE.below hb (IBox.lt BE); replace HB := HB.trans (hb.mono (Below.leB HB (Nat.le_refl _))); clear hb))
        have hn : w.heap.size ≠ wa.heap.size := by have := hsa.out; omega
        refine leaves_cons (f := 36) (args := #[At w.heap.size, At wa.heap.size]) (by simp) (by simp [go_sem]) ?_
        have hg1 : g ≠ w.heap.size := IBox.ne hg BV (by simp [JV.cells, VM.cells])
        have hg2 : g ≠ wa.heap.size := IBox.ne hg BE (by simp)
        refine (catch_fault _ _ g [] BV (by simp [JV.cells, VM.cells]) BE hn).mono ?_
        rintro e u' w'' ⟨rfl, rfl, BV, BE, hbe⟩
        refine ⟨_, results_two rfl _ _ w.heap.size _ JV.zero.cells _ rfl BV Tryz.underlying25 rfl info_value wa.heap.size _ rfl (load_err BE), ?_⟩
        exact PaRes.bad HS.out (Below.of_bes HB hbe (fun q e => by have := hsa.out; rcases e with e | e <;> omega) (Below.leB HB (Nat.le_refl _))) HK.out (Bes.box hbe hg (fun e => e.elim hg1 hg2))
      · have HK := Lib.hid (parse_okk ho h2)
        clear ho
        go_enter_defers Tryz.func21, Tryz.ntmps21
        go_wp2_with (first
          | ((with_reducible refine is_alloc ?_); refine wpl_alloc_at rfl 25 rfl _ zeroV ?_; intro wa hw; have hb := hid_grow hw; have BV := hid_alloc0 hw; have hsa := Lib.hid (hid_size hw); clear hw; replace HB := zT HB hb; replace HG := HG.below hb; clear hb)
          | ((with_reducible refine is_alloc ?_); refine wpl_alloc1 rfl 28 rfl .nilIface (fun _ => rfl) rfl ?_; intro wb hw; have hb := hid_grow hw; have BE := (hid_alloc hw).1; have hsb := Lib.hid (hid_alloc hw).2.1; clear hw; replace BV := zI BV hb; replace HB := zT HB hb; replace HG := HG.below hb; clear hb)
          | (refine wpl_box_at rfl 70 (.tmp 12) rfl _ rfl ?_; intro wc hw; have hb := hid_grow hw; have HR : Rd wc wb.heap.size s 0 := (hid_alloc hw).1; have hsc := Lib.hid (hid_alloc hw).2.1; clear hw; replace BV := zI BV hb; replace BE := zI BE hb; replace HB := zT HB hb; replace HG := HG.below hb; clear hb; have n1 : w.heap.size ≠ wb.heap.size := (by have := hsa.out; have := hsb.out; omega); have n2 : wa.heap.size ≠ wb.heap.size := (by have := hsb.out; omega); have hlw : w.heap.size ≤ wb.heap.size := (by have := hsa.out; have := hsb.out; omega); have n0 : ¬ wa.heap.size = w.heap.size := (by have := hsa.out; omega))
          | (go_at_call 37; (with_reducible refine (blanks_any HR (Nat.zero_le _) HS.out).mono ?_); rintro e w3 ⟨rfl, hr4, hm⟩; replace HR := hr4; clear hr4; replace BV := BV.mv hm n1; replace BE := BE.mv hm n2; replace HG := HG.mvg hm hlw; replace HB := Below.of_mv HB hm hlw (Below.leB HB (Nat.le_refl _)); clear hm)
          | (go_at_call 38; (have HG4 := HG.up hlw; have hlv := IBox.lt BV; have hle := IBox.lt BE; have hlr := HR.lt); refine (value0 HR HG4 (skip_le (Nat.zero_le _)) HS.out).mono ?_; rw [HO.out]; rintro e w4 ⟨hm, ⟨j, rfl, hj, hje, hjo⟩, hr4⟩; replace HR := hr4; clear hr4; have hjw : Off (fun q => q < w.heap.size) j := Off.mono (fun q e => Nat.lt_trans e hlv) hjo; replace BV := BV.mv hm n1; replace BE := BE.mv hm n2; replace HG := HG.mvg hm hlw; replace HB := Below.of_mv HB hm hlw (Below.leB HB (Nat.le_refl _)); clear hm)
          | ((with_reducible refine is_store ?_); refine wpl_store_at rfl 25 (.tmp 2) (.tmp 17) rfl w.heap.size j.cells rfl rfl _ _ BV info_value rfl (jv_one _) ?_; intro w5 hw; have hbe := Bes.row (X := fun q => q = w.heap.size) hw rfl; replace HG := HG.mvg hbe (Nat.le_refl _); replace HB := Below.of_mv HB hbe (Nat.le_refl _) (Below.leB HB (Nat.le_refl _)); replace hj := IsJV.bes hbe hj (Off.mono (fun q e => by have e2 : q = w.heap.size := e; omega) hjo); replace BE := Bes.box hbe BE n0; replace HR : Rd w5 wb.heap.size s _ := Bes.box hbe HR (fun e => n1 (Eq.symm e)); replace BV := hid_row hw BV; clear hw hbe)
          | (go_at_call 37; (with_reducible refine (blanks_any HR hks HS.out).mono ?_); rintro e w6 ⟨rfl, hr4, hm⟩; replace HR := hr4; clear hr4; replace hj := IsJV.bes hm hj (Off.mono (fun q e => by have e2 : q = wb.heap.size := e; omega) hjo); have c1 := HR.c1; replace BV := BV.mv hm n1; replace BE := BE.mv hm n2; replace HG := HG.mvg hm hlw; replace HB := Below.of_mv HB hm hlw (Below.leB HB (Nat.le_refl _)); clear hm)
          | ((with_reducible refine is_load ?_); refine wpl_load_box rfl 25 (.tmp 2) rfl _ rfl _ _ _ BV Tryz.underlying25 rfl info_value ?_)
          | ((with_reducible refine is_store ?_); refine wpl_store_at rfl 25 (.tmp 2) (.tmp 33) rfl w.heap.size j.cells rfl rfl _ _ BV info_value rfl (jv_one _) ?_; intro w7 hw; have hbe := Bes.row (X := fun q => q = w.heap.size) hw rfl; replace HG := HG.mvg hbe (Nat.le_refl _); replace HB := Below.of_mv HB hbe (Nat.le_refl _) (Below.leB HB (Nat.le_refl _)); replace hj := IsJV.bes hbe hj (Off.mono (fun q e => by have e2 : q = w.heap.size := e; omega) hjo); replace BE := Bes.box hbe BE n0; replace HR : Rd w7 wb.heap.size s _ := Bes.box hbe HR (fun e => n1 (Eq.symm e)); replace BV := hid_row hw BV; clear hw hbe)
          | ((with_reducible refine is_store ?_); refine wpl_store_cell rfl 28 (.tmp 3) (.const .nilIface) rfl wa.heap.size 0 rfl _ rfl _ _ BE (by simp) rfl rfl ?_; intro w8 hw; have hbe := Bes.row (X := fun q => q = wa.heap.size) hw rfl; have hwa : w.heap.size ≤ wa.heap.size := (by have := hsa.out; omega); replace HB := Below.of_mv HB hbe hwa (Below.leB HB (Nat.le_refl _)); replace hj := IsJV.bes hbe hj (Off.mono (fun q e => by have e2 : q = wa.heap.size := e; omega) hjo); replace BV := Bes.box hbe BV (fun e => n0 (Eq.symm e)); replace BE := hid_row hw BE; clear hw hbe))
        refine leaves_cons (f := 36) (args := #[At w.heap.size, At wa.heap.size]) (by simp) (by simp [go_sem]) ?_
        refine (catch_idle _ _ _).mono ?_
        rintro e u' w'' ⟨rfl, rfl, rfl⟩
        refine ⟨_, results_two rfl _ _ w.heap.size _ j.cells _ rfl BV Tryz.underlying25 rfl info_value wa.heap.size _ rfl (load_err BE), ?_⟩
        exact PaRes.ok HS.out HB HK.out hj hje hjw
end Go.Proofs.YtnjhmnolngdfaaaGreatDoor
