/- Layer 2: coveylaw02.JsonWalks is true. -/
import Derived.Test.YtmiphbjpcbfaeaaDoorWkE
import Derived.Test.YtmiphbjpcbfaeaaDoorWkB
import Derived.Test.YtmiphbjpcbfaeaaDoorJrQV
import Derived.RangeFuncNested
import Derived.LoopNIn
import Derived.Test.YtmiphbjpcbfaeaaDoorWkH
namespace Go.Proofs.YtmiphbjpcbfaeaaDoor
open Go.RowKit Go.PlainAid
set_option linter.unusedVariables false
set_option linter.unusedSimpArgs false
attribute [local go_sem] Oper.semAt_some
variable {P : Program} {ops : Array Oper} {rest : List Oper} {o : Oper} {a : Act} {w : World} {Q : Exit → Act → World → Prop}
/-- A new variable of one cell and what is stored into it at once. -/
theorem wpl_newcell {o2 : Oper} (d : Tmp) (hgd : o.guard = none) (hdst : o.dst = some d) (ty : TypeId) (ho : o.op = .alloc ty) (hgd2 : o2.guard = none) (y : Operand) (ho2 : o2.op = .store ty (.tmp d) y) (z : Value) (hz : ∀ w, (zeroValue ty).run P w = .ok z w) (hz1 : z.cells = #[z])
    (v : Value) (hx : (a.put o.dst (.pointer (some ⟨w.heap.size, 0, none⟩))).eval (.tmp d) = .pointer (some ⟨w.heap.size, 0, none⟩)) (hy : (a.put o.dst (.pointer (some ⟨w.heap.size, 0, none⟩))).eval y = v)
    (hi : (P.info? ty).map (·.size) = some 1) (h1 : v.oneCell' = true)
    (h : ∀ w', Hid (w' = w.alloc (.cells #[v] ty)) → wpList P ops Q rest ((a.put o.dst (.pointer (some ⟨w.heap.size, 0, none⟩))).put o2.dst undef) w') : wpList P ops Q (o :: o2 :: rest) a w := by
  refine wpList_plain hgd fun _ hK => ?_
  unfold Oper.wp execOp
  simp [ho, Instr.alloc, Sem.run_bind, hz, newVar, hz1]
  refine hK _ _ ?_
  refine wpl_store_cell hgd2 ty (.tmp d) y ho2 w.heap.size 0 hx v hy ty #[z] (IBox.new _ _ _) (by simp) hi h1 fun w' hw' => h w' ?_
  have e := hw'.out
  rw [e]
  exact World.setRow_alloc_new w #[z] #[v] ty
theorem wpl_alloc_cell (hgd : o.guard = none) (ty : TypeId) (ho : o.op = .alloc ty) (z : Value) (hz : ∀ w, (zeroValue ty).run P w = .ok z w) (hz1 : z.cells = #[z])
    (h : ∀ w', Hid (w' = w.alloc (.cells #[z] ty)) → wpList P ops Q rest (a.put o.dst (.pointer (some ⟨w.heap.size, 0, none⟩))) w') : wpList P ops Q (o :: rest) a w := by
  refine wpList_plain hgd fun _ hK => ?_
  unfold Oper.wp execOp
  simp [ho, Instr.alloc, Sem.run_bind, hz, newVar, hz1]
  exact hK _ _ (h _ rfl)
theorem zero_bool (w : World) : (zeroValue 4).run Tryd.prog w = .ok (.bool false) w := by kernel_rfl
theorem zero_sp (w : World) : (zeroValue 27).run Tryd.prog w = .ok (.slice none 0 0) w := by kernel_rfl
theorem zero_fn (w : World) : (zeroValue 30).run Tryd.prog w = .ok .nilFunc w := by kernel_rfl
theorem eqIn_fn (d : Nat) (f : Fn) (a : Array Value) (b : Array Value) (w : World) : (Op.equalIn (d + 1) 30 (.func f a b) .nilFunc).run Tryd.prog w = .ok false w := by
  simp [Op.equalIn, run_underlying Tryd.underlying30]
theorem eql_fn (f : Fn) (a : Array Value) (b : Array Value) (w : World) : (binOp .eql 30 (.func f a b) .nilFunc).run Tryd.prog w = .ok (.bool false) w := by
  simp only [binOp]
  simp [Op.equal, Op.maxDepth, eqIn_fn 9999]
theorem pick20_any {n : Int} (hn : I64 n) (w : World) : Calls Tryd.prog 7 #[.int .i64 n, .int .i64 20] w fun e w' => (∃ r : Nat, e = .returned (.int .i64 r) ∧ r ≤ 19) ∧ Below w.heap.size w w' := by
  have h1 := hn.1
  have h2 := hn.2
  by_cases h0 : n < 0
  · have hw1 : IntKind.i64.wrap (n + 1) = n + 1 := by rw [IntKind.wrap_i64]; omega
    have hw2 : IntKind.i64.wrap (-(n + 1)) = -(n + 1) := by rw [IntKind.wrap_i64]; omega
    go_enter Tryd.func7, Tryd.ntmps7
    go_wp2
    go_ret
    exact ⟨⟨((-(n + 1)) % 20).toNat, ret_int (by rw [← Int.neg_tmod, Int.tmod_eq_emod_of_nonneg (by omega)]; omega), by omega⟩, Below.refl _ _⟩
  · go_enter Tryd.func7, Tryd.ntmps7
    go_wp2
    go_ret
    exact ⟨⟨(n % 20).toNat, ret_int (by omega), by omega⟩, Below.refl _ _⟩
set_option maxRecDepth 100000 in
set_option maxHeartbeats 16000000 in
theorem jwalks_any {w : World} (h : Wo w) (hT : ∀ W, Below w.heap.size w W → Tab10 W) {j : JV} {n : Int} (HJ : IsJV w j) (hs : SzT (er j) ≤ 1048576) (hn : I64 n) : Calls Tryd.prog 3 #[.agg j.cells, .int .i64 n] w fun e w' => e = .returned (.bool true) ∧ Below w.heap.size w w' := by
  have HB := Below.refl w.heap.size w
  have HW := h
  have HJ0 := HJ
  have HSZ := Lib.hid hs
  have HN := Lib.hid hn
  have HT := Lib.hid hT
  clear hs hn hT
  refine (callsIn_wide (n := 20)).1 ?_
  refine callsIn_of_wp_marks Tryd.func3 rfl trivial ?_ rfl
  simp only [Tryd.ntmps3, List.size_toArray, List.length_cons, List.length_nil, Nat.reduceAdd, Nat.reduceSub, Array.replicate_succ, Array.replicate_zero, List.push_toArray, List.append_toArray, List.nil_append, List.cons_append]
  refine wpIn_wide.2 ?_
  go_wp2_with (first
    | (refine wpl_newcell 6 rfl rfl 27 rfl rfl (.tmp 18) rfl _ zero_sp rfl (.slice A4 n4 c4) rfl rfl (by kernel_rfl) rfl ?_; intro w5 hw; have hb := hid_grow hw; have B6 := (hid_alloc hw).1; clear hw; replace HJ := HJ.below hb; replace HB := HB.trans (hb.mono HB.size); (try replace HW := HW.below hb); (try replace B2 := IBox.below B2 hb B2.lt); (try replace B4 := IBox.below B4 hb B4.lt); (try replace HO := HO.below hb); (try replace B17 := IBox.below B17 hb B17.lt); clear hb)
    | (refine wpl_newcell 7 rfl rfl 30 rfl rfl (.tmp 20) rfl _ zero_fn rfl (.func (.func 12) #[] #[.pointer (some ⟨g17, 0, none⟩)]) rfl rfl (by kernel_rfl) rfl ?_; intro w7 hw; have hb := hid_grow hw; have B7 := (hid_alloc hw).1; clear hw; replace HJ := HJ.below hb; replace HB := HB.trans (hb.mono HB.size); (try replace HW := HW.below hb); (try replace B2 := IBox.below B2 hb B2.lt); (try replace B4 := IBox.below B4 hb B4.lt); (try replace HO := HO.below hb); (try replace B6 := IBox.below B6 hb B6.lt); (try replace B17 := IBox.below B17 hb B17.lt); clear hb; have c7 : w7.cell? ⟨_, 0, none⟩ = some (.func (.func 12) #[] #[.pointer (some ⟨g17, 0, none⟩)]) := B7.cell 0; have hfe := eql_fn (.func 12) #[] #[.pointer (some ⟨g17, 0, none⟩)])
    | (refine wpl_box_at rfl 25 (.tmp 0) rfl _ rfl ?_; intro w1 hw; have hb := hid_grow hw; have B2 := (hid_alloc hw).1; clear hw; replace HJ := HJ.below hb; replace HB := HB.trans (hb.mono HB.size); replace HW := HW.below hb; clear hb)
    | ((with_reducible refine is_alloc ?_); refine wpl_alloc_cell rfl 4 rfl _ zero_bool rfl ?_; intro w2 hw; have hb := hid_grow hw; have B4 := hid_alloc0 hw; have hz4 := Lib.hid (HB.size); clear hw; replace HJ := HJ.below hb; replace HB := HB.trans (hb.mono HB.size); (try replace HW := HW.below hb); (try replace B2 := IBox.below B2 hb B2.lt); (try replace HO := HO.below hb); (try replace B6 := IBox.below B6 hb B6.lt); (try replace B17 := IBox.below B17 hb B17.lt); clear hb)
    | (go_at_call 4; (with_reducible refine (shown_any HW).mono ?_); rintro e w3 ⟨rfl, hb⟩; replace HJ := HJ.below hb; replace HB := HB.trans (hb.mono HB.size); (try replace HW := HW.below hb); (try replace B2 := IBox.below B2 hb B2.lt); (try replace B4 := IBox.below B4 hb B4.lt); (try replace HO := HO.below hb); (try replace B6 := IBox.below B6 hb B6.lt); (try replace B17 := IBox.below B17 hb B17.lt); clear hb)
    | ((with_reducible refine is_load ?_); refine wpl_load_box rfl 25 (.tmp 2) rfl _ rfl _ _ _ B2 Tryd.underlying25 rfl info_value ?_)
    | (go_at_call 5; (refine (refwalk_any HJ HSZ.out).mono ?_); rintro e w4 ⟨v4, rfl, HO, hkp⟩; obtain ⟨A4, n4, c4, hn4, rfl⟩ := own_sliceP HO; have HN4 := Lib.hid hn4; clear hn4; have hb := hkp.1; clear hkp; have hz6 := Lib.hid hb.size; replace HJ := HJ.below hb; replace HB := HB.trans (hb.mono HB.size); (try replace HW := HW.below hb); (try replace B2 := IBox.below B2 hb B2.lt); (try replace B4 := IBox.below B4 hb B4.lt); (try replace B6 := IBox.below B6 hb B6.lt); (try replace B17 := IBox.below B17 hb B17.lt); clear hb)
    | (go_at_call 6; (with_reducible refine (walkfn_any j _).mono ?_); rintro e w6 ⟨g17, rfl, B17, hg17, hb⟩; have hz17 := Lib.hid hg17; clear hg17; replace HJ := HJ.below hb; replace HB := HB.trans (hb.mono HB.size); (try replace HW := HW.below hb); (try replace B2 := IBox.below B2 hb B2.lt); (try replace B4 := IBox.below B4 hb B4.lt); (try replace HO := HO.below hb); (try replace B6 := IBox.below B6 hb B6.lt); clear hb))
  clear hfe c7 HW
  have HB7 := Lib.hid HB
  refine wp_loop (fun a W => ∃ (i : Nat) (y9 y10 y23 y24 y25 y26 y27 y28 y29 y30 y31 y32 y145 y146 y147 y148 y149 y150 y151 y152 y153 : Value) (ds : List Deferred), i ≤ 2 ∧ a = { tmps := #[.agg j.cells, .int .i64 n, .pointer (some ⟨w.heap.size, 0, none⟩), undef, .pointer (some ⟨w1.heap.size, 0, none⟩), .bool true, .pointer (some ⟨w4.heap.size, 0, none⟩), .pointer (some ⟨w6.heap.size, 0, none⟩), .int .i64 i, y9, y10, undef, undef, undef, undef, undef, .bool true, .agg j.cells, .slice A4 n4 c4, .agg j.cells, .func (.func 12) #[] #[.pointer (some ⟨g17, 0, none⟩)], .func (.func 12) #[] #[.pointer (some ⟨g17, 0, none⟩)], .bool false, y23, y24, y25, y26, y27, y28, y29, y30, y31, y32, undef, undef, undef, undef, undef, undef, undef, undef, undef, undef, undef, undef, undef, undef, undef, undef, undef, undef, undef, undef, undef, undef, undef, undef, undef, undef, undef, undef, undef, undef, undef, undef, undef, undef, undef, undef, undef, undef, undef, undef, undef, undef, undef, undef, undef, undef, undef, undef, undef, undef, undef, undef, undef, undef, undef, undef, undef, undef, undef, undef, undef, undef, undef, undef, undef, undef, undef, undef, undef, undef, undef, undef, undef, undef, undef, undef, undef, undef, undef, undef, undef, undef, undef, undef, undef, undef, undef, undef, undef, undef, undef, undef, undef, undef, undef, undef, undef, undef, undef, undef, undef, undef, undef, undef, undef, undef, undef, undef, undef, undef, undef, undef, y145, y146, y147, y148, y149, y150, y151, y152, y153, undef], defers := ds } ∧ DsOK w.heap.size ds W ∧ Below w7.heap.size w7 W) (fun a _ => 2 - (intOf (a.tmps.getD 8 undef)).toNat) ⟨0, _, _, _, _, _, _, _, _, _, _, _, _, _, _, _, _, _, _, _, _, _, [], by omega, rfl, DsOK.nil _ _, Below.refl _ _⟩ ?_
  rintro a W ⟨i, y9, y10, y23, y24, y25, y26, y27, y28, y29, y30, y31, y32, y145, y146, y147, y148, y149, y150, y151, y152, y153, ds, hi, rfl, hds, hbW⟩
  by_cases hi2 : i < 2
  · rcases (show i = 0 ∨ i = 1 by omega) with rfl | rfl
    · clear hi hi2
      have hbW0 := Lib.hid hbW.size
      go_wp2_with (first
        | (refine wpl_newcell 9 rfl rfl 3 rfl rfl (.const (.int .i64 200)) rfl _ zero_int rfl (.int .i64 200) rfl rfl (by kernel_rfl) rfl ?_; intro w9 hw; have hb := hid_grow hw; have B9 := (hid_alloc hw).1; have hz9 := Lib.hid (hid_alloc hw).2.1; clear hw; replace hbW := hbW.trans (hb.mono hbW.size); replace hds := hds.below hb; clear hb)
        | (refine wpl_newcell 10 rfl rfl 3 rfl rfl (.const (.int .i64 0)) rfl _ zero_int rfl (.int .i64 0) rfl rfl (by kernel_rfl) rfl ?_; intro w10 hw; have hb := hid_grow hw; have B10 := (hid_alloc hw).1; have hz10 := Lib.hid (hid_alloc hw).2.1; clear hw; replace hbW := hbW.trans (hb.mono hbW.size); replace hds := hds.below hb; replace B9c := IBox.below B9c hb B9c.lt; clear hb; have c7 : w10.cell? ⟨_, 0, none⟩ = some (.func (.func 12) #[] #[.pointer (some ⟨g17, 0, none⟩)]) := (IBox.below B7 hbW B7.lt).cell 0)
        | (go_at_call 7; (refine (pick20_any HN.out _).mono ?_); rintro e w9b ⟨⟨r5, rfl, hr5⟩, hb⟩; have hz9b := Lib.hid hb.size; replace hbW := hbW.trans (hb.mono hbW.size); replace hds := hds.below hb; replace B9 := IBox.below B9 hb B9.lt; clear hb)
        | ((with_reducible refine is_store ?_); refine wpl_store_cell rfl 3 (.tmp 9) (.tmp 31) rfl _ 0 rfl (.int .i64 (1 + (r5 : Int))) rfl _ #[.int .i64 200] B9 (by simp) (by kernel_rfl) rfl ?_; intro w9c hw; have B9c := hid_row hw B9; replace hbW := (hid_row_below hw (by have := hbW0.out; exact this) hbW).1; replace hds := DsOK.row hds B9 hw; have hz9c := Lib.hid (hid_row_below hw (Nat.zero_le _) (Below.refl 0 _)).2; clear hw B9))
      obtain ⟨s, hs0, hs1, B9s⟩ : ∃ s : Nat, 1 ≤ s ∧ s ≤ 200 ∧ IBox w10 W.heap.size 3 #[.int .i64 (s : Int)] := ⟨1 + r5, by omega, by omega, by have h9 := B9c; simpa using h9⟩
      clear B9c
      have hWs : W.heap.size < w9c.heap.size := by have := hz9.out; have := hz9b.out; have := hz9c.out; omega
      have hnb : w9c.heap.size < w10.heap.size := by have := hz10.out; omega
      have hBw : Below w.heap.size w w10 := HB7.out.trans (hbW.mono HB7.out.size)
      have hn7 : w7.heap.size ≤ W.heap.size := hbW0.out
      have hnn : w.heap.size ≤ w9c.heap.size := by have := HB7.out.size; omega
      have B17l : IBox w10 g17 25 j.cells := IBox.below B17 hbW B17.lt
      have HWS := Lib.hid hWs
      have HNB := Lib.hid hnb
      have HBW := Lib.hid hBw
      have HN7 := Lib.hid hn7
      have HNN := Lib.hid hnn
      clear hWs hnb hBw hn7 hnn
      refine (wpIn_wide (n := 20)).1 ?_
      refine wpIn_rangeFunc_ownH (n := 20) rfl (by omega) (gf := 12) (lb := #[.pointer (some ⟨g17, 0, none⟩)]) rfl trivial (enters_of Tryd.func12 (by kernel_rfl) rfl)
        (walk_stops (20 - 1) (nb := w9c.heap.size) (HT.out _ (Below.refl _ _)) HJ0 HSZ.out HBW.out HNN.out HNB.out B17l HT.out) (fun h k => KK.trans h k) (fun X l o o' h1 h2 h3 _ => kk_put X l o o' h1 h2 h3) (Below.refl _ _) (fun _ => rfl)
        (IO j w10.heap.size w9c.heap.size w10 s) (IX j 2 w10.heap.size w9c.heap.size w10 s) (io_own (Nat.le_refl _)) (ix_own (Nat.le_refl _))
        ⟨KK.refl (Nat.le_refl _), 0, by simpa using B10, Nat.zero_le _, fun _ => rfl⟩
        (fun x a' W' => ∃ gx, w10.heap.size ≤ gx ∧ IBox W' gx 25 x.2.cells ∧ a' = { tmps := #[.agg j.cells, .int .i64 n, .pointer (some ⟨w.heap.size, 0, none⟩), undef, .pointer (some ⟨w1.heap.size, 0, none⟩), .bool true, .pointer (some ⟨w4.heap.size, 0, none⟩), .pointer (some ⟨w6.heap.size, 0, none⟩), .int .i64 0, .pointer (some ⟨W.heap.size, 0, none⟩), .pointer (some ⟨w9c.heap.size, 0, none⟩), .string x.1, .pointer (some ⟨gx, 0, none⟩), undef, undef, undef, .bool true, .agg j.cells, .slice A4 n4 c4, .agg j.cells, .func (.func 12) #[] #[.pointer (some ⟨g17, 0, none⟩)], .func (.func 12) #[] #[.pointer (some ⟨g17, 0, none⟩)], .bool false, .int .i64 0, .bool true, y25, y26, .int .i64 0, .bool true, .int .i64 n, .int .i64 (r5 : Int), .int .i64 (1 + (r5 : Int)), .func (.func 12) #[] #[.pointer (some ⟨g17, 0, none⟩)], .string x.1, .agg x.2.cells, undef, undef, undef, undef, undef, undef, undef, undef, undef, undef, undef, undef, undef, undef, undef, undef, undef, undef, undef, undef, undef, undef, undef, undef, undef, undef, undef, undef, undef, undef, undef, undef, undef, undef, undef, undef, undef, undef, undef, undef, undef, undef, undef, undef, undef, undef, undef, undef, undef, undef, undef, undef, undef, undef, undef, undef, undef, undef, undef, undef, undef, undef, undef, undef, undef, undef, undef, undef, undef, undef, undef, undef, undef, undef, undef, undef, undef, undef, undef, undef, undef, undef, undef, undef, undef, undef, undef, undef, undef, undef, undef, undef, undef, undef, undef, undef, undef, undef, undef, undef, undef, undef, undef, undef, undef, undef, undef, undef, undef, undef, y145, y146, y147, y148, y149, y150, y151, y152, y153, undef], defers := [] })
        (fun x a' _ X Y row hs hg hr => by obtain ⟨gx, e1, e2, e3⟩ := hs; exact ⟨gx, e1, box_grown e2 hg hr, e3⟩)
        ?assign ?body ?done ?stop
      case assign =>
        rintro l pre x X K ⟨hkk, m, Bm, hms, hpm⟩ hK
        have HK := Lib.hid hK
        clear hK
        obtain ⟨xp, xv⟩ := x
        dsimp only [VM.cells]
        gi_wp2
        exact HK.out _ _ ((KeepsOthers.alloc _ _).from _) (KK.of ((Below.refl _ X).alloc (Nat.le_refl _) _) hkk.size) ⟨hkk.trans (KK.of ((Below.refl _ X).alloc (Nat.le_refl _) _) hkk.size), m, Bm.alloc _, hms, hpm⟩ ⟨X.heap.size, hkk.size, IBox.new _ _ _, rfl⟩
      case body =>
        rintro l pre ⟨xp, xv⟩ a' X hl ⟨rr, hrr⟩ ⟨hkk, m, Bm, hms, hpm⟩ ⟨gx, hgx, BX, rfl⟩ hlt
        exact wk_body _ _ _ _ _ _ _ _ _ _ _ _ _ _ _ _ _ _ _ _ _ _ _ _ _ _ _ _ _ _ _ _ _ _ _ _ _ _ _ _ _ _ _ _ _ _ _ _ _ _ _ _ _ _ _ _ _ _ _ _ _ _ _ _ _ _ _ _ _ _ _ _ _ _ _ _ _ _ _ _ _ _ _ _ _ _ _ _ _ _ _ _ _ _ _ _ _ _ _ _ _ _ _ _ _ _ _ _ _ _ _ _ _ _ _ _ _ _ _ _ _ _ _ _ _ _ _ _ _ _ _ _ _ _ _ _ _ _ _ _ _ _ _ _ _ _ _ _ HT HJ0 HSZ HBW HO HN4 (IBox.below B4 hbW B4.lt) (IBox.below B6 hbW B6.lt) (IBox.below B7 hbW B7.lt) B9s B17l (by have := HWS.out; have := HN7.out; have := B4.lt; omega) (by have := HWS.out; have := HN7.out; have := B6.lt; omega) (by have := HWS.out; have := HN7.out; have := B7.lt; omega) (by have := HWS.out; omega) (by have := HWS.out; have := HN7.out; have := B17.lt; omega) hbW (by have := HWS.out; have := HN7.out; omega) HNN.out HNB.out hs1 hrr hkk Bm hms hpm BX
      case done =>
        rintro D xs X hD rfl ⟨hkk, m, Bm, hms, hpm⟩ hK
        have hmp := hpm (List.prefix_refl _)
        have hm4 : m = n4 := by rw [HN4.out, List.length_take, ← hmp]; omega
        clear hpm
        have hb10 : Below w10.heap.size w10 w10 := Below.refl _ _
        have c10 : X.cell? ⟨_, 0, none⟩ = some (.int .i64 m) := Bm.cell 0
        have c9 : X.cell? ⟨_, 0, none⟩ = some (.int .i64 s) := (hkk.box B9s (by have := HWS.out; omega)).cell 0
        have c6 : X.cell? ⟨_, 0, none⟩ = some (.slice A4 n4 c4) := (hkk.box (IBox.below B6 hbW B6.lt) (by have := HWS.out; have := HN7.out; have := B6.lt; omega)).cell 0
        have hbX : Below w7.heap.size w7 X := hbW.trans (hkk.below hbW.size (by have := HWS.out; have := HN7.out; omega))
        have hdX := DsOK.cons (base := w.heap.size) (DsOK.kk hds hkk B10) (by have := HBW.out.size; omega) hK ⟨w10, hds, hD⟩
        clear hkk
        subst hm4
        clear c9
        go_wp2
        exact ⟨⟨1, _, _, _, _, _, _, _, _, _, _, _, _, _, _, _, _, _, _, _, _, _, _, by omega, rfl, hdX, hbX⟩, by simp [intOf]⟩
      case stop =>
        rintro D c pre X hD hpre hx hK
        rcases hx with ⟨rfl, hnp⟩ | ⟨rfl, hkk, Bm⟩
        · exact absurd hpre hnp
        · refine wpIn_exit ?_
          by_cases hs4 : s = n4
          · have hs5 : ((s : Nat) : Int) = (n4 : Nat) := by omega
            have hb10 : Below w10.heap.size w10 w10 := Below.refl _ _
            have c10 : X.cell? ⟨_, 0, none⟩ = some (.int .i64 s) := Bm.cell 0
            have c9 : X.cell? ⟨_, 0, none⟩ = some (.int .i64 s) := (hkk.box B9s (by have := HWS.out; omega)).cell 0
            have c6 : X.cell? ⟨_, 0, none⟩ = some (.slice A4 n4 c4) := (hkk.box (IBox.below B6 hbW B6.lt) (by have := HWS.out; have := HN7.out; have := B6.lt; omega)).cell 0
            have hbX : Below w7.heap.size w7 X := hbW.trans (hkk.below hbW.size (by have := HWS.out; have := HN7.out; omega))
            have hdX := DsOK.cons (base := w.heap.size) (DsOK.kk hds hkk B10) (by have := HBW.out.size; omega) hK ⟨w10, hds, hD⟩
            clear hkk
            go_wp2
            exact ⟨⟨1, _, _, _, _, _, _, _, _, _, _, _, _, _, _, _, _, _, _, _, _, _, _, by omega, rfl, hdX, hbX⟩, by simp [intOf]⟩
          · have hs5 : ¬ ((s : Nat) : Int) = (n4 : Nat) := by omega
            have hb10 : Below w10.heap.size w10 w10 := Below.refl _ _
            have c10 : X.cell? ⟨_, 0, none⟩ = some (.int .i64 s) := Bm.cell 0
            have c9 : X.cell? ⟨_, 0, none⟩ = some (.int .i64 s) := (hkk.box B9s (by have := HWS.out; omega)).cell 0
            have c6 : X.cell? ⟨_, 0, none⟩ = some (.slice A4 n4 c4) := (hkk.box (IBox.below B6 hbW B6.lt) (by have := HWS.out; have := HN7.out; have := B6.lt; omega)).cell 0
            have hbX : Below w7.heap.size w7 X := hbW.trans (hkk.below hbW.size (by have := HWS.out; have := HN7.out; omega))
            have hdX := DsOK.cons (base := w.heap.size) (DsOK.kk hds hkk B10) (by have := HBW.out.size; omega) hK ⟨w10, hds, hD⟩
            clear hkk
            go_wp2
            exact ⟨⟨1, _, _, _, _, _, _, _, _, _, _, _, _, _, _, _, _, _, _, _, _, _, _, by omega, rfl, hdX, hbX⟩, by simp [intOf]⟩
    · clear hi hi2
      have hbW0 := Lib.hid hbW.size
      go_wp2_with (first
        | (refine wpl_newcell 9 rfl rfl 3 rfl rfl (.const (.int .i64 200)) rfl _ zero_int rfl (.int .i64 200) rfl rfl (by kernel_rfl) rfl ?_; intro w9 hw; have hb := hid_grow hw; have B9 := (hid_alloc hw).1; have hz9 := Lib.hid (hid_alloc hw).2.1; clear hw; replace hbW := hbW.trans (hb.mono hbW.size); replace hds := hds.below hb; clear hb)
        | (refine wpl_newcell 10 rfl rfl 3 rfl rfl (.const (.int .i64 0)) rfl _ zero_int rfl (.int .i64 0) rfl rfl (by kernel_rfl) rfl ?_; intro w10 hw; have hb := hid_grow hw; have B10 := (hid_alloc hw).1; have hz10 := Lib.hid (hid_alloc hw).2.1; clear hw; replace hbW := hbW.trans (hb.mono hbW.size); replace hds := hds.below hb; replace B9 := IBox.below B9 hb B9.lt; clear hb; have c7 : w10.cell? ⟨_, 0, none⟩ = some (.func (.func 12) #[] #[.pointer (some ⟨g17, 0, none⟩)]) := (IBox.below B7 hbW B7.lt).cell 0))
      obtain ⟨s, hs0, hs1, B9s⟩ : ∃ s : Nat, 1 ≤ s ∧ s ≤ 200 ∧ IBox w10 W.heap.size 3 #[.int .i64 (s : Int)] := ⟨200, by omega, by omega, by have h9 := B9; simpa using h9⟩
      clear B9
      have hWs : W.heap.size < w9.heap.size := by have := hz9.out; omega
      have hnb : w9.heap.size < w10.heap.size := by have := hz10.out; omega
      have hBw : Below w.heap.size w w10 := HB7.out.trans (hbW.mono HB7.out.size)
      have hn7 : w7.heap.size ≤ W.heap.size := hbW0.out
      have hnn : w.heap.size ≤ w9.heap.size := by have := HB7.out.size; omega
      have B17l : IBox w10 g17 25 j.cells := IBox.below B17 hbW B17.lt
      have HWS := Lib.hid hWs
      have HNB := Lib.hid hnb
      have HBW := Lib.hid hBw
      have HN7 := Lib.hid hn7
      have HNN := Lib.hid hnn
      clear hWs hnb hBw hn7 hnn
      refine (wpIn_wide (n := 20)).1 ?_
      refine wpIn_rangeFunc_ownH (n := 20) rfl (by omega) (gf := 12) (lb := #[.pointer (some ⟨g17, 0, none⟩)]) rfl trivial (enters_of Tryd.func12 (by kernel_rfl) rfl)
        (walk_stops (20 - 1) (nb := w9.heap.size) (HT.out _ (Below.refl _ _)) HJ0 HSZ.out HBW.out HNN.out HNB.out B17l HT.out) (fun h k => KK.trans h k) (fun X l o o' h1 h2 h3 _ => kk_put X l o o' h1 h2 h3) (Below.refl _ _) (fun _ => rfl)
        (IO j w10.heap.size w9.heap.size w10 s) (IX j 2 w10.heap.size w9.heap.size w10 s) (io_own (Nat.le_refl _)) (ix_own (Nat.le_refl _))
        ⟨KK.refl (Nat.le_refl _), 0, by simpa using B10, Nat.zero_le _, fun _ => rfl⟩
        (fun x a' W' => ∃ gx, w10.heap.size ≤ gx ∧ IBox W' gx 25 x.2.cells ∧ a' = { tmps := #[.agg j.cells, .int .i64 n, .pointer (some ⟨w.heap.size, 0, none⟩), undef, .pointer (some ⟨w1.heap.size, 0, none⟩), .bool true, .pointer (some ⟨w4.heap.size, 0, none⟩), .pointer (some ⟨w6.heap.size, 0, none⟩), .int .i64 1, .pointer (some ⟨W.heap.size, 0, none⟩), .pointer (some ⟨w9.heap.size, 0, none⟩), .string x.1, .pointer (some ⟨gx, 0, none⟩), undef, undef, undef, .bool true, .agg j.cells, .slice A4 n4 c4, .agg j.cells, .func (.func 12) #[] #[.pointer (some ⟨g17, 0, none⟩)], .func (.func 12) #[] #[.pointer (some ⟨g17, 0, none⟩)], .bool false, .int .i64 1, .bool true, y25, y26, .int .i64 1, .bool false, y29, y30, y31, .func (.func 12) #[] #[.pointer (some ⟨g17, 0, none⟩)], .string x.1, .agg x.2.cells, undef, undef, undef, undef, undef, undef, undef, undef, undef, undef, undef, undef, undef, undef, undef, undef, undef, undef, undef, undef, undef, undef, undef, undef, undef, undef, undef, undef, undef, undef, undef, undef, undef, undef, undef, undef, undef, undef, undef, undef, undef, undef, undef, undef, undef, undef, undef, undef, undef, undef, undef, undef, undef, undef, undef, undef, undef, undef, undef, undef, undef, undef, undef, undef, undef, undef, undef, undef, undef, undef, undef, undef, undef, undef, undef, undef, undef, undef, undef, undef, undef, undef, undef, undef, undef, undef, undef, undef, undef, undef, undef, undef, undef, undef, undef, undef, undef, undef, undef, undef, undef, undef, undef, undef, undef, undef, undef, undef, undef, undef, y145, y146, y147, y148, y149, y150, y151, y152, y153, undef], defers := [] })
        (fun x a' _ X Y row hs hg hr => by obtain ⟨gx, e1, e2, e3⟩ := hs; exact ⟨gx, e1, box_grown e2 hg hr, e3⟩)
        ?assign ?body ?done ?stop
      case assign =>
        rintro l pre x X K ⟨hkk, m, Bm, hms, hpm⟩ hK
        have HK := Lib.hid hK
        clear hK
        obtain ⟨xp, xv⟩ := x
        dsimp only [VM.cells]
        gi_wp2
        exact HK.out _ _ ((KeepsOthers.alloc _ _).from _) (KK.of ((Below.refl _ X).alloc (Nat.le_refl _) _) hkk.size) ⟨hkk.trans (KK.of ((Below.refl _ X).alloc (Nat.le_refl _) _) hkk.size), m, Bm.alloc _, hms, hpm⟩ ⟨X.heap.size, hkk.size, IBox.new _ _ _, rfl⟩
      case body =>
        rintro l pre ⟨xp, xv⟩ a' X hl ⟨rr, hrr⟩ ⟨hkk, m, Bm, hms, hpm⟩ ⟨gx, hgx, BX, rfl⟩ hlt
        exact wk_body _ _ _ _ _ _ _ _ _ _ _ _ _ _ _ _ _ _ _ _ _ _ _ _ _ _ _ _ _ _ _ _ _ _ _ _ _ _ _ _ _ _ _ _ _ _ _ _ _ _ _ _ _ _ _ _ _ _ _ _ _ _ _ _ _ _ _ _ _ _ _ _ _ _ _ _ _ _ _ _ _ _ _ _ _ _ _ _ _ _ _ _ _ _ _ _ _ _ _ _ _ _ _ _ _ _ _ _ _ _ _ _ _ _ _ _ _ _ _ _ _ _ _ _ _ _ _ _ _ _ _ _ _ _ _ _ _ _ _ _ _ _ _ _ _ _ _ _ HT HJ0 HSZ HBW HO HN4 (IBox.below B4 hbW B4.lt) (IBox.below B6 hbW B6.lt) (IBox.below B7 hbW B7.lt) B9s B17l (by have := HWS.out; have := HN7.out; have := B4.lt; omega) (by have := HWS.out; have := HN7.out; have := B6.lt; omega) (by have := HWS.out; have := HN7.out; have := B7.lt; omega) (by have := HWS.out; omega) (by have := HWS.out; have := HN7.out; have := B17.lt; omega) hbW (by have := HWS.out; have := HN7.out; omega) HNN.out HNB.out hs1 hrr hkk Bm hms hpm BX
      case done =>
        rintro D xs X hD rfl ⟨hkk, m, Bm, hms, hpm⟩ hK
        have hmp := hpm (List.prefix_refl _)
        have hm4 : m = n4 := by rw [HN4.out, List.length_take, ← hmp]; omega
        clear hpm
        have hb10 : Below w10.heap.size w10 w10 := Below.refl _ _
        have c10 : X.cell? ⟨_, 0, none⟩ = some (.int .i64 m) := Bm.cell 0
        have c9 : X.cell? ⟨_, 0, none⟩ = some (.int .i64 s) := (hkk.box B9s (by have := HWS.out; omega)).cell 0
        have c6 : X.cell? ⟨_, 0, none⟩ = some (.slice A4 n4 c4) := (hkk.box (IBox.below B6 hbW B6.lt) (by have := HWS.out; have := HN7.out; have := B6.lt; omega)).cell 0
        have hbX : Below w7.heap.size w7 X := hbW.trans (hkk.below hbW.size (by have := HWS.out; have := HN7.out; omega))
        have hdX := DsOK.cons (base := w.heap.size) (DsOK.kk hds hkk B10) (by have := HBW.out.size; omega) hK ⟨w10, hds, hD⟩
        clear hkk
        subst hm4
        clear c9
        go_wp2
        exact ⟨⟨2, _, _, _, _, _, _, _, _, _, _, _, _, _, _, _, _, _, _, _, _, _, _, by omega, rfl, hdX, hbX⟩, by simp [intOf]⟩
      case stop =>
        rintro D c pre X hD hpre hx hK
        rcases hx with ⟨rfl, hnp⟩ | ⟨rfl, hkk, Bm⟩
        · exact absurd hpre hnp
        · refine wpIn_exit ?_
          by_cases hs4 : s = n4
          · have hs5 : ((s : Nat) : Int) = (n4 : Nat) := by omega
            have hb10 : Below w10.heap.size w10 w10 := Below.refl _ _
            have c10 : X.cell? ⟨_, 0, none⟩ = some (.int .i64 s) := Bm.cell 0
            have c9 : X.cell? ⟨_, 0, none⟩ = some (.int .i64 s) := (hkk.box B9s (by have := HWS.out; omega)).cell 0
            have c6 : X.cell? ⟨_, 0, none⟩ = some (.slice A4 n4 c4) := (hkk.box (IBox.below B6 hbW B6.lt) (by have := HWS.out; have := HN7.out; have := B6.lt; omega)).cell 0
            have hbX : Below w7.heap.size w7 X := hbW.trans (hkk.below hbW.size (by have := HWS.out; have := HN7.out; omega))
            have hdX := DsOK.cons (base := w.heap.size) (DsOK.kk hds hkk B10) (by have := HBW.out.size; omega) hK ⟨w10, hds, hD⟩
            clear hkk
            go_wp2
            exact ⟨⟨2, _, _, _, _, _, _, _, _, _, _, _, _, _, _, _, _, _, _, _, _, _, _, by omega, rfl, hdX, hbX⟩, by simp [intOf]⟩
          · have hs5 : ¬ ((s : Nat) : Int) = (n4 : Nat) := by omega
            have hb10 : Below w10.heap.size w10 w10 := Below.refl _ _
            have c10 : X.cell? ⟨_, 0, none⟩ = some (.int .i64 s) := Bm.cell 0
            have c9 : X.cell? ⟨_, 0, none⟩ = some (.int .i64 s) := (hkk.box B9s (by have := HWS.out; omega)).cell 0
            have c6 : X.cell? ⟨_, 0, none⟩ = some (.slice A4 n4 c4) := (hkk.box (IBox.below B6 hbW B6.lt) (by have := HWS.out; have := HN7.out; have := B6.lt; omega)).cell 0
            have hbX : Below w7.heap.size w7 X := hbW.trans (hkk.below hbW.size (by have := HWS.out; have := HN7.out; omega))
            have hdX := DsOK.cons (base := w.heap.size) (DsOK.kk hds hkk B10) (by have := HBW.out.size; omega) hK ⟨w10, hds, hD⟩
            clear hkk
            go_wp2
            exact ⟨⟨2, _, _, _, _, _, _, _, _, _, _, _, _, _, _, _, _, _, _, _, _, _, _, by omega, rfl, hdX, hbX⟩, by simp [intOf]⟩
  · obtain rfl : i = 2 := by omega
    have hx : ¬ ((2 : Nat) : Int) < 2 := by omega
    have B4r := IBox.below B4 hbW B4.lt
    clear hi
    go_wp2_with (first
      | ((with_reducible refine is_store ?_); refine wpl_store_cell rfl 4 (.tmp 4) (.tmp 154) rfl _ 0 rfl (.bool true) rfl _ #[.bool false] B4r (by simp) (by kernel_rfl) rfl ?_; intro w8 hw; have B4s := hid_row hw B4r; have hb8 := (hid_row_below hw hz4.out (HB7.out.trans (hbW.mono HB7.out.size))).1; have hd8 := DsOK.row hds B4r hw; clear hw B4r))
    obtain ⟨Ds, rfl, hd1, hd2⟩ := hd8
    refine leaves_marks (base := w.heap.size) Ds w8 hd1 hd2 (fun W' hk hb => ⟨.bool true, ?_, rfl, hb8.trans hb⟩)
    have hc := (hk _ _ _ B4s).cell 0
    simp at hc
    simp [results, Tryd.f3, go_sem, hc]
end Go.Proofs.YtmiphbjpcbfaeaaDoor
