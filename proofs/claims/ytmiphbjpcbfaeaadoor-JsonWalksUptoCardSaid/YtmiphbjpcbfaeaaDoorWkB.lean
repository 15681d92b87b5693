/- Layer 2: the places of a walk as the document lists them (coveyref02.Walk), walked. -/
import Derived.Test.YtmiphbjpcbfaeaaDoorWkA
namespace Go.Proofs.YtmiphbjpcbfaeaaDoor
open Go.RowKit Go.PlainAid
set_option linter.unusedVariables false
set_option linter.unusedSimpArgs false
variable {ops : Array Oper} {rest : List Oper} {o : Oper} {a : Act} {w : World} {Q : Exit → Act → World → Prop}
def plc (p : Pl) : List Value := .string p.1 :: p.2.cells.toList
def plcL (L : List Pl) : List Value := L.flatMap plc
theorem plc_len (p : Pl) : (plc p).length = 7 := rfl
theorem plcL_append (a b : List Pl) : plcL (a ++ b) = plcL a ++ plcL b := List.flatMap_append
theorem plcL_one (p : Pl) : plcL [p] = plc p := by unfold plcL; simp
/-- What lay below base is as it was, and so is every block that holds no places. -/
def KP (base : Nat) (w w' : World) : Prop := Below base w w' ∧ ∀ (g : Nat) (T : TypeId) (arr : Array Value), T ≠ 34 → IBox w g T arr → IBox w' g T arr
theorem KP.trans {base : Nat} {a b c : World} (h : KP base a b) (k : KP base b c) : KP base a c := ⟨h.1.trans k.1, fun g T arr hT hI => k.2 g T arr hT (h.2 g T arr hT hI)⟩
theorem KP.of {base : Nat} {w w' : World} (h : Below w.heap.size w w') (hb : base ≤ w.heap.size) : KP base w w' := ⟨h.mono hb, fun g T arr hT hI => IBox.below hI h (IBox.lt hI)⟩
theorem KP.refl {base : Nat} {w : World} (hb : base ≤ w.heap.size) : KP base w w := KP.of (Below.refl _ _) hb
theorem KP.up {base : Nat} {w w' : World} (h : KP base w w') {n : Nat} (hn : n ≤ w.heap.size) : n ≤ w'.heap.size := Nat.le_trans hn h.1.size
def OwnP (w : World) (base : Nat) (v : Value) (L : List Pl) : Prop := w.ownsRow base 34 7 v L.length (plcL L)
theorem OwnP.below {w w' : World} {base : Nat} {v : Value} {L : List Pl} (h : OwnP w base v L) (hb : Below w.heap.size w w') : OwnP w' base v L := own_below h hb
theorem KP.grown {base : Nat} {w w' : World} {v : Value} {L : List Pl} (hO : OwnP w base v L) (h : w.grownBy w' v.ownBlock) (hb : base ≤ w.heap.size) : KP base w w' := by
  refine ⟨(Below.refl base w).grown h hb fun k hk => (hO.lt k hk).1, fun g T arr hT hI => ?_⟩
  refine Bes.box (Bes.grown (X := fun q => v.ownBlock = some q) h (fun _ e => e)) hI fun e => ?_
  rcases hO.2 with ⟨rfl, _⟩ | ⟨g2, cap, cur, rfl, _, hg, _⟩
  · cases e
  · have e2 : g2 = g := Option.some.inj e
    subst e2
    have e3 := hg.symm.trans hI
    injection e3 with e3
    injection e3 with _ e4 _
    exact hT e4.symm
theorem own_sliceP {w : World} {base : Nat} {v : Value} {L : List Pl} (h : OwnP w base v L) : ∃ A n c, n = L.length ∧ v = .slice A n c := by
  rcases h.2 with ⟨rfl, h0⟩ | ⟨g, cap, cur, rfl, _⟩
  · exact ⟨_, _, _, h0.symm, rfl⟩
  · exact ⟨_, _, _, rfl, rfl⟩
theorem own_nilP (w : World) (base : Nat) : OwnP w base (.slice none 0 0) [] := ⟨rfl, .inl ⟨rfl, rfl⟩⟩
def pzero : Value := .agg #[.string ⟨#[]⟩, .int .i64 0, .bool false, .int .i64 0, .string ⟨#[]⟩, .slice none 0 0, .slice none 0 0]
theorem p_info0 : (Tryd.prog.info? 34).map (fun i => (i.zero, i.size, i.bytes)) = some (some pzero, 7, 104) := by kernel_rfl
theorem p_info : ∃ ie, Tryd.prog.info? 34 = some ie ∧ ie.zero = some pzero ∧ ie.size = 7 ∧ ie.bytes = 104 := by
  have h := p_info0
  cases hi : Tryd.prog.info? 34 with
  | none => rw [hi] at h; cases h
  | some ie =>
    rw [hi] at h
    simp only [Option.map_some, Option.some.injEq, Prod.mk.injEq] at h
    exact ⟨ie, rfl, h.1, h.2.1, h.2.2⟩
def pcells (p : ByteArray) (v : VM) : Array Value := #[.string p, .int .i64 v.kind, .bool v.b, .int .i64 v.i, .string v.t, .slice v.LA v.Ln v.Lc, .slice v.FA v.Fn v.Fc]
theorem pbuild (p : ByteArray) (v : VM) (w : World) : (Instr.build 34 ([(0, .string p), (1, .agg v.cells)] : List (Nat × Value)).toArray).run Tryd.prog w = .ok (.agg (pcells p v)) w := by kernel_rfl
theorem pfill (p : ByteArray) (v : VM) : Instr.fill (fun i => some (i * 7, 7)) ((Array.range (1 * 7)).map (pzero.cells[· % pzero.cells.size]!)) [(0, .agg (pcells p v))] = some (pcells p v) := by kernel_rfl
theorem pc_one (p : ByteArray) (v : VM) : (pcells p v).all (·.oneCell') = true := by simp [pcells, Value.oneCell']
theorem wpl_append_place (hgd : o.guard = none) (s x : Operand) (t : TypeId) (ho : o.op = .call { callee := .builtin .append, args := #[s, x], argTypes := #[t, t] }) (ht : Tryd.prog.underlying t = some (.slice 34))
    (base : Nat) (v : Value) (L : List Pl) (hs : a.eval s = v) (hown : OwnP w base v L) (p : ByteArray) (m : VM) (ty : TypeId)
    (g c : Nat) (hx : a.eval x = .slice (some ⟨g, 0, none⟩) 1 c) (IB : IBox w g ty (pcells p m)) (hl : L.length + 1 ≤ 200) (hbase : base ≤ w.heap.size)
    (h : ∀ v' w', OwnP w' base v' (L ++ [(p, m)]) → KP base w w' → wpList Tryd.prog ops Q rest (a.put o.dst v') w') : wpList Tryd.prog ops Q (o :: rest) a w := by
  obtain ⟨ie, h1, h2, h3, h4⟩ := p_info
  refine wpList_append_own w hgd s x t ho base 34 ie _ 7 104 ht h1 h2 h3 h4 rfl (by decide) v L.length (plcL L) hs hown ⟨g, 0, none⟩ 1 c (pcells p m).toList hx rfl ?_ ?_ (by unfold maxLen; omega) (by omega) hbase ?_
  · intro j u hu
    have hadd : (⟨g, 0, none⟩ : Addr).add j = ⟨g, j, none⟩ := by unfold Addr.add; split <;> simp_all
    rw [hadd, IB.cell]
    simpa using hu
  · intro u hu
    exact Array.all_eq_true_iff_forall_mem.1 (pc_one p m) u (by simpa using hu)
  · intro v' w' h5 h6 _
    refine h v' w' ?_ (KP.grown hown h6 hbase)
    unfold OwnP
    rw [plcL_append, plcL_one, List.length_append]
    exact h5
theorem KP.bes {base : Nat} {w w' : World} (h : KP base w w') : Bes (fun q => base ≤ q) w w' := ⟨h.1.os, h.1.tape, h.1.output, h.1.size, fun k hk hn => h.1.block k (by omega)⟩
theorem jv_kp {base : Nat} {w w' : World} (h : KP base w w') {j : JV} (hj : IsJV w j) (ho : Off (fun q => base ≤ q) j) : IsJV w' j := IsJV.bes h.bes hj ho
theorem range_kp {base : Nat} {w w' : World} (h : KP base w w') {b off : Nat} {cs : List Value} (hr : w.rangeAt b off cs) (hb : b < base) : w'.rangeAt b off cs := fun j v hv => by
  rw [World.cell?_of_block (h.1.block b hb)]
  exact hr j v hv
theorem cell_kp {base : Nat} {w w' : World} (h : KP base w w') {b off : Nat} {v : Value} (hr : w.cell? ⟨b, off, none⟩ = some v) (hb : b < base) : w'.cell? ⟨b, off, none⟩ = some v := by
  rw [World.cell?_of_block (h.1.block b hb)]
  exact hr
theorem LS.kp {base g bl off : Nat} {jc : Array Value} {xs : List Value} {w w' : World} (h : LS g bl off jc xs w) (k : KP base w w') (hb : bl < base) : LS g bl off jc xs w' := ⟨k.2 _ _ _ (by decide) h.1, range_kp k h.2 hb⟩
theorem LSO.kp {base g bl off : Nat} {jc : Array Value} {nm : ByteArray} {xs : List Value} {w w' : World} (h : LSO g bl off jc nm xs w) (k : KP base w w') (hb : bl < base) : LSO g bl off jc nm xs w' := ⟨k.2 _ _ _ (by decide) h.1, cell_kp k h.2.1 hb, range_kp k h.2.2 hb⟩
theorem take_more {α : Type} (A B : List α) (n : Nat) : (A.take n ++ B).take n = (A ++ B).take n := by
  rcases Nat.lt_or_ge A.length n with h | h
  · rw [List.take_of_length_le (Nat.le_of_lt h)]
  · rw [List.take_append_of_le_length (by rw [List.length_take]; omega), List.take_append_of_le_length h, List.take_take, Nat.min_self]
theorem take_len {α : Type} (A : List α) (n : Nat) : (A.take n).length ≤ n := by rw [List.length_take]; exact Nat.min_le_left _ _
/-- What the document's walk answers. -/
def WkV (base : Nat) (L : List Pl) (w : World) (e : Ending) (w' : World) : Prop := ∃ v, e = .returned v ∧ OwnP w' base v L ∧ KP base w w'
theorem v_neP : 25 ≠ 34 := by decide
theorem p_i64 {p : ByteArray} {n : Nat} (h : p.size + 22 * n ≤ pathMost) : p.size ≤ 23068672 := by unfold pathMost at h; omega
set_option maxRecDepth 100000 in
set_option maxHeartbeats 8000000 in
theorem wk_to (sz : Nat) : ∀ (j : JV) (p : ByteArray) (base : Nat) (v : Value) (L : List Pl) (w : World), SizeOf.sizeOf j < sz → IsJV w j → Off (fun q => base ≤ q) j → OwnP w base v L → base ≤ w.heap.size → L.length ≤ 200 → p.size + 22 * SzT (er j) ≤ pathMost →
    Calls Tryd.prog 5 #[.agg j.cells, .string p, v, .int .i64 200] w (WkV base ((L ++ walkT j p).take 200) w) := by
  induction sz with
  | zero => intro j p base v L w h; omega
  | succ sz ih =>
    intro j p base v L w hsz HJ hoj HO hbz0 hL hp
    obtain ⟨l1, l2, l3, l4, l5⟩ := jv_lens HJ
    obtain ⟨ie, hie1, hie2, hie3, hie4⟩ := p_info
    obtain ⟨o1, o2⟩ := off_parts hoj
    obtain ⟨A, n, c, hnL, rfl⟩ := own_sliceP HO
    have HNL := Lib.hid hnL
    have HOJ := Lib.hid hoj
    have HO1 := Lib.hid o1
    have HO2 := Lib.hid o2
    have LL := Lib.hid l1
    have LV := Lib.hid l2
    have LN := Lib.hid l3
    have SZ := Lib.hid hsz
    have IH := Lib.hid ih
    have HP := Lib.hid hp
    have HPS := Lib.hid (p_i64 hp)
    have hbz := hbz0
    have HB := KP.refl (base := base) (w := w) hbz0
    clear ih hsz l1 l2 l3 o1 o2 hoj hp
    by_cases hfull : L.length = 200
    · have hn : ((n : Nat) : Int) = 200 := by omega
      have HK : Hid (List.take 200 (L ++ walkT j p) = L) := Lib.hid (by rw [List.take_append_of_le_length (by omega), List.take_of_length_le (by omega)])
      clear hL hfull hnL
      go_enter Tryd.func5, Tryd.ntmps5
      go_wp2_with (first
        | (refine wpl_box_at rfl 25 (.tmp 0) rfl _ rfl ?_; intro w1 hw; have hkp := KP.of (base := base) (hid_grow hw) hbz; have B4 := (hid_alloc hw).1; replace HO := HO.below (hid_grow hw); replace HJ := jv_kp hkp HJ HOJ.out; replace HB := HB.trans hkp; replace hbz := HB.up hbz0; clear hkp hw; have c4_0 : w1.cell? ⟨_, 0, none⟩ = some (.int .i64 j.v.kind) := (B4.cell 0).trans (by rfl); have c4_4 : w1.cell? ⟨_, 4, none⟩ = some (.slice j.v.LA j.v.Ln j.v.Lc) := B4.cell 4; have c4_5 : w1.cell? ⟨_, 5, none⟩ = some (.slice j.v.FA j.v.Fn j.v.Fc) := B4.cell 5))
      go_ret
      exact ⟨_, rfl, by rw [HK.out]; exact HO, HB⟩
    · have HL1 := Lib.hid (show L.length + 1 ≤ 200 by omega)
      have hn : ¬ ((n : Nat) : Int) ≥ 200 := by omega
      have hnl : ((n : Nat) : Int) < 200 := by omega
      clear hL hfull hnL
      by_cases hk4 : j.v.kind = 4
      · have HK : Hid (L ++ walkT j p = (L ++ [(p, j.v)]) ++ walkL j.l p 0) := Lib.hid (by rw [walkT_4 hk4, List.append_assoc]; rfl)
        have HKD := Lib.hid hk4
        clear hk4
        go_enter Tryd.func5, Tryd.ntmps5
        go_wp2_with (first
          | (refine wpl_box_at rfl 25 (.tmp 0) rfl _ rfl ?_; intro w1 hw; have hkp := KP.of (base := base) (hid_grow hw) hbz; have B4 := (hid_alloc hw).1; replace HO := HO.below (hid_grow hw); replace HJ := jv_kp hkp HJ HOJ.out; replace HB := HB.trans hkp; replace hbz := HB.up hbz0; clear hkp hw; have c4_0 : w1.cell? ⟨_, 0, none⟩ = some (.int .i64 4) := (B4.cell 0).trans (by rw [← HKD.out]; rfl); have c4_4 : w1.cell? ⟨_, 4, none⟩ = some (.slice j.v.LA j.v.Ln j.v.Lc) := B4.cell 4; have c4_5 : w1.cell? ⟨_, 5, none⟩ = some (.slice j.v.FA j.v.Fn j.v.Fc) := B4.cell 5)
          | ((with_reducible refine is_load ?_); refine wpl_load_box rfl 25 (.tmp 4) rfl _ rfl _ _ _ B4 Tryd.underlying25 rfl info_value ?_)
          | ((with_reducible refine is_build ?_); refine wpl_build_at (vals := _) (pbuild p j.v) rfl _ rfl rfl ?_)
          | ((with_reducible refine is_slice ?_); refine wpl_slice_at 1 [(0, .agg (pcells p j.v))] (pcells p j.v) ie _ (by rw [hie3]; exact pfill p j.v) rfl 27 34 _ rfl rfl Tryd.underlying27 hie1 hie2 (by rw [hie3]; decide) (by rw [hie3]; decide) ?_; intro w9 hw; have hkp := KP.of (base := base) (hid_grow hw) hbz; have B9 := (hid_alloc hw).1; replace HO := HO.below (hid_grow hw); replace HJ := jv_kp hkp HJ HOJ.out; replace B4 := hkp.2 _ _ _ v_neP B4; replace HB := HB.trans hkp; replace hbz := HB.up hbz0; clear hkp hw)
          | (refine wpl_append_place rfl (.tmp 16) (.tmp 20) 27 rfl Tryd.underlying27 base _ _ rfl HO p j.v _ _ _ rfl B9 HL1.out hbz ?_; clear B9; intro v10 wz ho10 hkp; replace HO := ho10; clear ho10; replace HJ := jv_kp hkp HJ HOJ.out; replace B4 := hkp.2 _ _ _ v_neP B4; replace c4_0 : World.cell? _ ⟨_, 0, none⟩ = some (.int .i64 4) := (B4.cell 0).trans (by rw [← HKD.out]; rfl); replace c4_4 : World.cell? _ ⟨_, 4, none⟩ = some (.slice j.v.LA j.v.Ln j.v.Lc) := B4.cell 4; replace c4_5 : World.cell? _ ⟨_, 5, none⟩ = some (.slice j.v.FA j.v.Fn j.v.Fc) := B4.cell 5; replace HB := HB.trans hkp; clear hkp; replace hbz := HB.up hbz0))
        clear c4_0 c4_5
        have HJ0 := HJ
        have B40 := B4
        have HB0 := HB
        have HBZ := Lib.hid hbz
        go_loopw [2, 9] (fun bv iv wr => ∃ (q : Nat) (v1 : Value), v1 = bv ∧ iv = .int .i64 q ∧ q ≤ j.v.Ln ∧ OwnP wr base v1 (((L ++ [(p, j.v)]) ++ walkL (j.l.take q) p 0).take 200) ∧ KP base wz wr) (fun _ iv _ => j.v.Ln - (intOf iv).toNat)
        case atStart => exact ⟨0, _, rfl, rfl, Nat.zero_le _, by (rw [List.take_zero]; unfold walkL; rw [List.append_nil, List.take_of_length_le (by have := HL1.out; simp; omega)]; exact HO), KP.refl hbz⟩
        case round =>
          obtain ⟨q, v1, rfl, rfl, hq, HOq, hkq⟩ := hrel
          obtain ⟨A1, n1, c1, hn1, rfl⟩ := own_sliceP HOq
          have HN1 := Lib.hid hn1
          clear hn1
          have HJq := jv_kp hkq HJ0 HOJ.out
          have B4q := hkq.2 _ _ _ v_neP B40
          have hbzq := Nat.le_trans HBZ.out hkq.1.size
          have c4q : wr.cell? ⟨_, 4, none⟩ = some (.slice j.v.LA j.v.Ln j.v.Lc) := B4q.cell 4
          clear c4_4
          have c4k : wr.cell? ⟨_, 0, none⟩ = some (.int .i64 4) := (B4q.cell 0).trans (by rw [← HKD.out]; rfl)
          by_cases hlt : q < j.v.Ln
          · obtain ⟨bl, off, x, hA, hx, RX, HX⟩ := jv_elem HJq (show q < j.l.length by have := LL.out; omega)
            obtain ⟨hox, hbl⟩ := HO1.out _ _ hx
            have hblb : bl < base := by have := hbl _ hA; simp only at this; omega
            have HPX := Lib.hid (path_i HP.out hx)
            have HXS := Lib.hid (show SizeOf.sizeOf x < sz by have := size_l hx; have := SZ.out; omega)
            have HNX := Lib.hid (walkL_next hx p)
            have hqm : q ≤ 9223372036854775807 := by omega
            have hql : (dig q).length ≤ 20 := dig_len20 (by have h3 := (sz_parts j).1; have := HP.out; unfold pathMost at this; have := LL.out; omega)
            have HQL := Lib.hid hql
            clear hql
            have HXO := Lib.hid hox
            have HXE := Lib.hid hx
            have HA := Lib.hid hA
            have hcc : ¬ 9223372036854775807 < p.size + 1 := by have := HPS.out; omega
            have hcc2 : ¬ 9223372036854775807 < p.size + 1 + (dig q).length := by have := HPS.out; have := HQL.out; omega
            have hbd : 0 ≤ (q : Int) ∧ (q : Int) < j.v.Ln := by omega
            have hlt2 : (q : Int) < j.v.Ln := by omega
            have HTL := Lib.hid (take_len ((L ++ [(p, j.v)]) ++ walkL (j.l.take q) p 0) 200)
            rw [hA] at c4q
            have HS0 : LS _ bl (off + q * 6) j.cells x.cells.toList wr := ⟨B4q, RX⟩
            clear hx hox hbl RX HX hA
            go_wp2
            refine wp_region_S (S := LS _ bl (off + q * 6) j.cells x.cells.toList) (by kernel_rfl) (fun w5 hh => HS0.to (fun k _ => by rw [hh])) (fun w5 hh hbb HS => ?_)
            have hb := hbb _ (Nat.le_refl _)
            have hkp := KP.of (base := base) hb hbzq
            replace HOq := HOq.below hb
            replace hkq := hkq.trans hkp
            replace HJq := jv_kp hkp HJq HOJ.out
            replace hbzq := hkp.up hbzq
            clear hb hbb hh HS0 hkp c4q
            refine wpAnyH_take (i := 0) (oi := ⟨some 32, _, _, _, _, _⟩) (v := ?_) rfl (by kernel_rfl) (by kernel_rfl) (by kernel_rfl) (fun _ _ _ h => h) (Or.inl ⟨by kernel_rfl, ?_⟩) (by assumption) ?_
            rotate_left
            · (intro w hSw; (try dsimp only at hSw); go_simp; try with_reducible rfl)
            try simp only [Act.put, List.setIfInBounds_toArray, List.set_cons_zero, List.set_cons_succ]
            refine wpAnyH_take (i := 1) (oi := ⟨some 33, _, _, _, _, _⟩) (v := ?_) rfl (by kernel_rfl) (by kernel_rfl) (by kernel_rfl) (fun _ _ _ h => h) (Or.inl ⟨by kernel_rfl, ?_⟩) (by assumption) ?_
            rotate_left
            · (intro w hSw; (try dsimp only at hSw); have c4 : w.cell? ⟨_, 4, none⟩ = some (.slice (some ⟨bl, off, none⟩) j.v.Ln j.v.Lc) := (by rw [← HA.out]; exact hSw.1.cell 4); go_simp; try with_reducible rfl)
            try simp only [Act.put, List.setIfInBounds_toArray, List.set_cons_zero, List.set_cons_succ]
            refine wpAnyH_take (i := 2) (oi := ⟨some 34, _, _, _, _, _⟩) (v := ?_) rfl (by kernel_rfl) (by kernel_rfl) (by kernel_rfl) (fun _ _ _ h => h) (Or.inl ⟨by kernel_rfl, ?_⟩) (by assumption) ?_
            rotate_left
            · (intro w hSw; (try dsimp only at hSw); go_simp; try with_reducible rfl)
            try simp only [Act.put, List.setIfInBounds_toArray, List.set_cons_zero, List.set_cons_succ]
            refine wpAnyH_take (i := 3) (oi := ⟨some 35, _, _, _, _, _⟩) (v := ?_) rfl (by kernel_rfl) (by kernel_rfl) (by kernel_rfl) (fun _ _ _ h => h) (Or.inl ⟨by kernel_rfl, ?_⟩) (by assumption) ?_
            rotate_left
            · (intro w hSw; (try dsimp only at hSw); go_simp; try with_reducible rfl)
            try simp only [Act.put, List.setIfInBounds_toArray, List.set_cons_zero, List.set_cons_succ]
            refine wpAnyH_take (i := 4) (oi := ⟨some 36, _, _, _, _, _⟩) (v := _) rfl (by kernel_rfl) (by kernel_rfl) (by kernel_rfl) (fun _ _ _ h => h) (yields_rangeS (by kernel_rfl) _ _ rfl _ _ rfl _ _ (fun _ h => h.2) Tryd.underlying25 rfl info_value) (by assumption) ?_
            try simp only [Act.put, List.setIfInBounds_toArray, List.set_cons_zero, List.set_cons_succ]
            refine wpAnyH_take (i := 5) (oi := ⟨some 37, _, _, _, _, _⟩) (v := ?_) rfl (by kernel_rfl) (by kernel_rfl) (by kernel_rfl) (fun _ _ _ h => h) (Or.inl ⟨by kernel_rfl, ?_⟩) (by assumption) ?_
            rotate_left
            · (intro w hSw; (try dsimp only at hSw); go_simp; try with_reducible rfl)
            try simp only [Act.put, List.setIfInBounds_toArray, List.set_cons_zero, List.set_cons_succ]
            refine wpAnyH_take (i := 6) (oi := ⟨some 38, _, _, _, _, _⟩) (v := ?_) rfl (by kernel_rfl) (by kernel_rfl) (by kernel_rfl) (fun _ _ _ h => h) (Or.inl ⟨by kernel_rfl, ?_⟩) (by assumption) ?_
            rotate_left
            · (intro w hSw; (try dsimp only at hSw); go_simp; try with_reducible rfl)
            try simp only [Act.put, List.setIfInBounds_toArray, List.set_cons_zero, List.set_cons_succ]
            refine wpAnyH_take (i := 7) (oi := ⟨some 39, _, _, _, _, _⟩) (v := ?_) rfl (by kernel_rfl) (by kernel_rfl) (by kernel_rfl) (fun _ _ _ h => h) (Or.inl ⟨by kernel_rfl, ?_⟩) (by assumption) ?_
            rotate_left
            · (intro w hSw; (try dsimp only at hSw); go_simp; try with_reducible rfl)
            try simp only [Act.put, List.setIfInBounds_toArray, List.set_cons_zero, List.set_cons_succ]
            refine wpAnyH_take (i := 10) (oi := ⟨some 42, _, _, _, _, _⟩) (v := ?_) rfl (by kernel_rfl) (by kernel_rfl) (by kernel_rfl) (fun _ _ _ h => h) (Or.inl ⟨by kernel_rfl, ?_⟩) (by assumption) ?_
            rotate_left
            · (intro w hSw; (try dsimp only at hSw); go_simp; try with_reducible rfl)
            try simp only [Act.put, List.setIfInBounds_toArray, List.set_cons_zero, List.set_cons_succ]
            refine wpAnyH_take (i := 11) (oi := ⟨some 43, _, _, _, _, _⟩) (v := ?_) rfl (by kernel_rfl) (by kernel_rfl) (by kernel_rfl) (fun _ _ _ h => h) (Or.inl ⟨by kernel_rfl, ?_⟩) (by assumption) ?_
            rotate_left
            · (intro w hSw; (try dsimp only at hSw); go_simp; try with_reducible rfl)
            try simp only [Act.put, List.setIfInBounds_toArray, List.set_cons_zero, List.set_cons_succ]
            refine wpAnyH_ready (rs := [8]) (by kernel_rfl) (by simp) ?_
            refine AllReadyH.cons (o := ⟨some 40, _, _, _, _, _⟩) rfl (fun K hK => ?_) AllReadyH.nil
            go_simp
            (go_at_call 11; (with_reducible refine (decimal_any hqm _).mono ?_); rintro e w6 ⟨rfl, hb⟩)
            have hkp := KP.of (base := base) hb hbzq
            replace HOq := HOq.below hb
            replace hkq := hkq.trans hkp
            replace HJq := jv_kp hkp HJq HOJ.out
            replace hbzq := hkp.up hbzq
            replace HS := HS.kp hkp hblb
            clear hb hkp
            refine hK.out _ _ HS (fun hS2 => ?_)
            clear hK K hS2
            try simp only [Act.put, List.setIfInBounds_toArray, List.set_cons_zero, List.set_cons_succ]
            have hcat : (⟨#[47]⟩ : ByteArray).size = 1 := rfl
            refine wpAnyH_take (i := 9) (oi := ⟨some 41, _, _, _, _, _⟩) (v := ?_) rfl (by kernel_rfl) (by kernel_rfl) (by kernel_rfl) (fun _ _ _ h => h) (Or.inl ⟨by kernel_rfl, ?_⟩) (by assumption) ?_
            rotate_left
            · (intro w hSw; (try dsimp only at hSw); go_simp; try with_reducible rfl)
            try simp only [Act.put, List.setIfInBounds_toArray, List.set_cons_zero, List.set_cons_succ]
            refine wpAnyH_ready (rs := [12]) (by kernel_rfl) (by simp) ?_
            refine AllReadyH.cons (o := ⟨some 44, _, _, _, _, _⟩) rfl (fun K hK => ?_) AllReadyH.nil
            go_simp
            have HXI : IsJV w6 x := (by obtain ⟨bl2, off2, x2, hA2, hx2, _, HX2⟩ := jv_elem HJq (show q < j.l.length by have := LL.out; omega); obtain rfl := Option.some.inj (hx2.symm.trans HXE.out); exact HX2)
            (go_at_call 5; (refine (IH.out x (pathI p q) base _ _ _ HXS.out HXI HXO.out HOq hbzq HTL.out HPX.out).mono ?_); rintro e w7 ⟨v2, rfl, HO2, hkp⟩)
            replace HS := HS.kp hkp hblb
            replace hkq := hkq.trans hkp
            refine hK.out _ _ HS (fun hS2 => ?_)
            clear hK K hS2
            try simp only [Act.put, List.setIfInBounds_toArray, List.set_cons_zero, List.set_cons_succ]
            refine wpAnyH_take (i := 13) (oi := ⟨some 2, _, _, _, _, _⟩) (v := ?_) rfl (by kernel_rfl) (by kernel_rfl) (by kernel_rfl) (fun _ _ _ h => h) (Or.inl ⟨by kernel_rfl, ?_⟩) (by assumption) ?_
            rotate_left
            · (intro w hSw; (try dsimp only at hSw); go_simp; try with_reducible rfl)
            try simp only [Act.put, List.setIfInBounds_toArray, List.set_cons_zero, List.set_cons_succ]
            refine wpAnyH_done (by kernel_rfl) ?_ _
            go_wp2
            go_roundw
            case rel => exact ⟨q + 1, v2, rfl, by go_num, by omega, by (rw [HNX.out, ← List.append_assoc, ← take_more]; exact HO2), hkq⟩
            case measure => simp [intOf]; omega
          · obtain rfl : q = j.v.Ln := by omega
            have hlt2 : ¬ ((j.v.Ln : Nat) : Int) < j.v.Ln := by omega
            have HFIN : Hid ((L ++ [(p, j.v)] ++ walkL (j.l.take j.v.Ln) p 0).take 200 = (L ++ walkT j p).take 200) := Lib.hid (by rw [HK.out, List.take_of_length_le (l := j.l) (by have := LL.out; omega)])
            go_wp2
            go_ret
            exact ⟨_, rfl, by rw [← HFIN.out]; exact HOq, HB0.trans hkq⟩
      · by_cases hk5 : j.v.kind = 5
        · have HK : Hid (L ++ walkT j p = (L ++ [(p, j.v)]) ++ walkF j.vs j.ns p) := Lib.hid (by rw [walkT_5 hk5, List.append_assoc]; rfl)
          have HKD := Lib.hid hk5
          clear hk4 hk5
          go_enter Tryd.func5, Tryd.ntmps5
          go_wp2_with (first
            | (refine wpl_box_at rfl 25 (.tmp 0) rfl _ rfl ?_; intro w1 hw; have hkp := KP.of (base := base) (hid_grow hw) hbz; have B4 := (hid_alloc hw).1; replace HO := HO.below (hid_grow hw); replace HJ := jv_kp hkp HJ HOJ.out; replace HB := HB.trans hkp; replace hbz := HB.up hbz0; clear hkp hw; have c4_0 : w1.cell? ⟨_, 0, none⟩ = some (.int .i64 5) := (B4.cell 0).trans (by rw [← HKD.out]; rfl); have c4_4 : w1.cell? ⟨_, 4, none⟩ = some (.slice j.v.LA j.v.Ln j.v.Lc) := B4.cell 4; have c4_5 : w1.cell? ⟨_, 5, none⟩ = some (.slice j.v.FA j.v.Fn j.v.Fc) := B4.cell 5)
            | ((with_reducible refine is_load ?_); refine wpl_load_box rfl 25 (.tmp 4) rfl _ rfl _ _ _ B4 Tryd.underlying25 rfl info_value ?_)
            | ((with_reducible refine is_build ?_); refine wpl_build_at (vals := _) (pbuild p j.v) rfl _ rfl rfl ?_)
            | ((with_reducible refine is_slice ?_); refine wpl_slice_at 1 [(0, .agg (pcells p j.v))] (pcells p j.v) ie _ (by rw [hie3]; exact pfill p j.v) rfl 27 34 _ rfl rfl Tryd.underlying27 hie1 hie2 (by rw [hie3]; decide) (by rw [hie3]; decide) ?_; intro w9 hw; have hkp := KP.of (base := base) (hid_grow hw) hbz; have B9 := (hid_alloc hw).1; replace HO := HO.below (hid_grow hw); replace HJ := jv_kp hkp HJ HOJ.out; replace B4 := hkp.2 _ _ _ v_neP B4; replace HB := HB.trans hkp; replace hbz := HB.up hbz0; clear hkp hw)
            | (refine wpl_append_place rfl (.tmp 16) (.tmp 20) 27 rfl Tryd.underlying27 base _ _ rfl HO p j.v _ _ _ rfl B9 HL1.out hbz ?_; clear B9; intro v10 wz ho10 hkp; replace HO := ho10; clear ho10; replace HJ := jv_kp hkp HJ HOJ.out; replace B4 := hkp.2 _ _ _ v_neP B4; replace c4_0 : World.cell? _ ⟨_, 0, none⟩ = some (.int .i64 5) := (B4.cell 0).trans (by rw [← HKD.out]; rfl); replace c4_4 : World.cell? _ ⟨_, 4, none⟩ = some (.slice j.v.LA j.v.Ln j.v.Lc) := B4.cell 4; replace c4_5 : World.cell? _ ⟨_, 5, none⟩ = some (.slice j.v.FA j.v.Fn j.v.Fc) := B4.cell 5; replace HB := HB.trans hkp; clear hkp; replace hbz := HB.up hbz0))
          clear c4_0 c4_4
          have HJ0 := HJ
          have B40 := B4
          have HB0 := HB
          have HBZ := Lib.hid hbz
          go_loopw [2, 10] (fun bv iv wr => ∃ (q : Nat) (v1 : Value), v1 = bv ∧ iv = .int .i64 q ∧ q ≤ j.v.Fn ∧ OwnP wr base v1 (((L ++ [(p, j.v)]) ++ walkF (j.vs.take q) j.ns p).take 200) ∧ KP base wz wr) (fun _ iv _ => j.v.Fn - (intOf iv).toNat)
          case atStart => exact ⟨0, _, rfl, rfl, Nat.zero_le _, by (rw [List.take_zero]; unfold walkF; rw [List.append_nil, List.take_of_length_le (by have := HL1.out; simp; omega)]; exact HO), KP.refl hbz⟩
          case round =>
            obtain ⟨q, v1, rfl, rfl, hq, HOq, hkq⟩ := hrel
            obtain ⟨A1, n1, c1, hn1, rfl⟩ := own_sliceP HOq
            have HN1 := Lib.hid hn1
            clear hn1
            have HJq := jv_kp hkq HJ0 HOJ.out
            have B4q := hkq.2 _ _ _ v_neP B40
            have hbzq := Nat.le_trans HBZ.out hkq.1.size
            have c4q : wr.cell? ⟨_, 5, none⟩ = some (.slice j.v.FA j.v.Fn j.v.Fc) := B4q.cell 5
            clear c4_5
            by_cases hlt : q < j.v.Fn
            · obtain ⟨bl, off, nm, x, hA, hx, hnx, n1, RX, HX⟩ := jv_fld HJq (show q < j.vs.length by have := LV.out; omega)
              obtain ⟨hox, hbl⟩ := HO2.out _ _ hx
              have hblb : bl < base := by have := hbl _ hA; simp only at this; omega
              have HPX := Lib.hid (path_n HP.out hx hnx)
              have HXS := Lib.hid (show SizeOf.sizeOf x < sz by have := size_vs hx; have := SZ.out; omega)
              have HNX := Lib.hid (walkF_next hx hnx p)
              have hnz : nm.size ≤ 23068672 := by
                have h1 := szN_mem hnx
                have h2 := sz_fields j
                have := HP.out
                unfold pathMost at this
                omega
              have HNZ := Lib.hid hnz
              clear hnz
              have HXO := Lib.hid hox
              have HXE := Lib.hid hx
              have HA := Lib.hid hA
              have hcc : ¬ 9223372036854775807 < p.size + 1 := by have := HPS.out; omega
              have hcc2 : ¬ 9223372036854775807 < p.size + 1 + nm.size := by have := HPS.out; have := HNZ.out; omega
              have hbd : 0 ≤ (q : Int) ∧ (q : Int) < j.v.Fn := by omega
              have hlt2 : (q : Int) < j.v.Fn := by omega
              have HTL := Lib.hid (take_len ((L ++ [(p, j.v)]) ++ walkF (j.vs.take q) j.ns p) 200)
              rw [hA] at c4q
              have HS0 : LSO _ bl (off + q * 7) j.cells nm x.cells.toList wr := ⟨B4q, n1, RX⟩
              clear hx hox hbl RX HX hnx n1 hA
              go_wp2
              refine wp_region_S (S := LSO _ bl (off + q * 7) j.cells nm x.cells.toList) (by kernel_rfl) (fun w5 hh => HS0.to (fun k _ => by rw [hh])) (fun w5 hh hbb HS => ?_)
              have hb := hbb _ (Nat.le_refl _)
              have hkp := KP.of (base := base) hb hbzq
              replace HOq := HOq.below hb
              replace hkq := hkq.trans hkp
              replace HJq := jv_kp hkp HJq HOJ.out
              replace hbzq := hkp.up hbzq
              clear hb hbb hh HS0 hkp c4q
              refine wpAnyH_take (i := 0) (oi := ⟨some 55, _, _, _, _, _⟩) (v := ?_) rfl (by kernel_rfl) (by kernel_rfl) (by kernel_rfl) (fun _ _ _ h => h) (Or.inl ⟨by kernel_rfl, ?_⟩) (by assumption) ?_
              rotate_left
              · (intro w hSw; (try dsimp only at hSw); go_simp; try with_reducible rfl)
              try simp only [Act.put, List.setIfInBounds_toArray, List.set_cons_zero, List.set_cons_succ]
              refine wpAnyH_take (i := 1) (oi := ⟨some 56, _, _, _, _, _⟩) (v := ?_) rfl (by kernel_rfl) (by kernel_rfl) (by kernel_rfl) (fun _ _ _ h => h) (Or.inl ⟨by kernel_rfl, ?_⟩) (by assumption) ?_
              rotate_left
              · (intro w hSw; (try dsimp only at hSw); have c4 : w.cell? ⟨_, 5, none⟩ = some (.slice (some ⟨bl, off, none⟩) j.v.Fn j.v.Fc) := (by rw [← HA.out]; exact hSw.1.cell 5); go_simp; try with_reducible rfl)
              try simp only [Act.put, List.setIfInBounds_toArray, List.set_cons_zero, List.set_cons_succ]
              refine wpAnyH_take (i := 2) (oi := ⟨some 57, _, _, _, _, _⟩) (v := ?_) rfl (by kernel_rfl) (by kernel_rfl) (by kernel_rfl) (fun _ _ _ h => h) (Or.inl ⟨by kernel_rfl, ?_⟩) (by assumption) ?_
              rotate_left
              · (intro w hSw; (try dsimp only at hSw); go_simp; try with_reducible rfl)
              try simp only [Act.put, List.setIfInBounds_toArray, List.set_cons_zero, List.set_cons_succ]
              refine wpAnyH_take (i := 3) (oi := ⟨some 58, _, _, _, _, _⟩) (v := ?_) rfl (by kernel_rfl) (by kernel_rfl) (by kernel_rfl) (fun _ _ _ h => h) (Or.inl ⟨by kernel_rfl, ?_⟩) (by assumption) ?_
              rotate_left
              · (intro w hSw; (try dsimp only at hSw); go_simp; try with_reducible rfl)
              try simp only [Act.put, List.setIfInBounds_toArray, List.set_cons_zero, List.set_cons_succ]
              refine wpAnyH_take (i := 4) (oi := ⟨some 59, _, _, _, _, _⟩) (v := ?_) rfl (by kernel_rfl) (by kernel_rfl) (by kernel_rfl) (fun _ _ _ h => h) (Or.inl ⟨by kernel_rfl, ?_⟩) (by assumption) ?_
              rotate_left
              · (intro w hSw; (try dsimp only at hSw); go_simp; try with_reducible rfl)
              try simp only [Act.put, List.setIfInBounds_toArray, List.set_cons_zero, List.set_cons_succ]
              refine wpAnyH_take (i := 5) (oi := ⟨some 60, _, _, _, _, _⟩) (v := _) rfl (by kernel_rfl) (by kernel_rfl) (by kernel_rfl) (fun _ _ _ h => h) (yields_rangeS (by kernel_rfl) _ _ rfl _ _ rfl _ _ (fun _ h => h.2.2) Tryd.underlying25 rfl info_value) (by assumption) ?_
              try simp only [Act.put, List.setIfInBounds_toArray, List.set_cons_zero, List.set_cons_succ]
              refine wpAnyH_take (i := 6) (oi := ⟨some 61, _, _, _, _, _⟩) (v := ?_) rfl (by kernel_rfl) (by kernel_rfl) (by kernel_rfl) (fun _ _ _ h => h) (Or.inl ⟨by kernel_rfl, ?_⟩) (by assumption) ?_
              rotate_left
              · (intro w hSw; (try dsimp only at hSw); go_simp; try with_reducible rfl)
              try simp only [Act.put, List.setIfInBounds_toArray, List.set_cons_zero, List.set_cons_succ]
              refine wpAnyH_take (i := 7) (oi := ⟨some 62, _, _, _, _, _⟩) (v := ?_) rfl (by kernel_rfl) (by kernel_rfl) (by kernel_rfl) (fun _ _ _ h => h) (Or.inl ⟨by kernel_rfl, ?_⟩) (by assumption) ?_
              rotate_left
              · (intro w hSw; (try dsimp only at hSw); go_simp; try with_reducible rfl)
              try simp only [Act.put, List.setIfInBounds_toArray, List.set_cons_zero, List.set_cons_succ]
              refine wpAnyH_take (i := 8) (oi := ⟨some 63, _, _, _, _, _⟩) (v := ?_) rfl (by kernel_rfl) (by kernel_rfl) (by kernel_rfl) (fun _ _ _ h => h) (Or.inl ⟨by kernel_rfl, ?_⟩) (by assumption) ?_
              rotate_left
              · (intro w hSw; (try dsimp only at hSw); go_simp; try with_reducible rfl)
              try simp only [Act.put, List.setIfInBounds_toArray, List.set_cons_zero, List.set_cons_succ]
              refine wpAnyH_take (i := 9) (oi := ⟨some 64, _, _, _, _, _⟩) (v := ?_) rfl (by kernel_rfl) (by kernel_rfl) (by kernel_rfl) (fun _ _ _ h => h) (Or.inl ⟨by kernel_rfl, ?_⟩) (by assumption) ?_
              rotate_left
              · (intro w hSw; (try dsimp only at hSw); have c4 : w.cell? ⟨_, 5, none⟩ = some (.slice (some ⟨bl, off, none⟩) j.v.Fn j.v.Fc) := (by rw [← HA.out]; exact hSw.1.cell 5); go_simp; try with_reducible rfl)
              try simp only [Act.put, List.setIfInBounds_toArray, List.set_cons_zero, List.set_cons_succ]
              refine wpAnyH_take (i := 10) (oi := ⟨some 65, _, _, _, _, _⟩) (v := ?_) rfl (by kernel_rfl) (by kernel_rfl) (by kernel_rfl) (fun _ _ _ h => h) (Or.inl ⟨by kernel_rfl, ?_⟩) (by assumption) ?_
              rotate_left
              · (intro w hSw; (try dsimp only at hSw); go_simp; try with_reducible rfl)
              try simp only [Act.put, List.setIfInBounds_toArray, List.set_cons_zero, List.set_cons_succ]
              refine wpAnyH_take (i := 11) (oi := ⟨some 66, _, _, _, _, _⟩) (v := ?_) rfl (by kernel_rfl) (by kernel_rfl) (by kernel_rfl) (fun _ _ _ h => h) (Or.inl ⟨by kernel_rfl, ?_⟩) (by assumption) ?_
              rotate_left
              · (intro w hSw; (try dsimp only at hSw); go_simp; try with_reducible rfl)
              try simp only [Act.put, List.setIfInBounds_toArray, List.set_cons_zero, List.set_cons_succ]
              refine wpAnyH_take (i := 12) (oi := ⟨some 67, _, _, _, _, _⟩) (v := ?_) rfl (by kernel_rfl) (by kernel_rfl) (by kernel_rfl) (fun _ _ _ h => h) (Or.inl ⟨by kernel_rfl, ?_⟩) (by assumption) ?_
              rotate_left
              · (intro w hSw; (try dsimp only at hSw); go_simp; try with_reducible rfl)
              try simp only [Act.put, List.setIfInBounds_toArray, List.set_cons_zero, List.set_cons_succ]
              refine wpAnyH_take (i := 13) (oi := ⟨some 68, _, _, _, _, _⟩) (v := ?_) rfl (by kernel_rfl) (by kernel_rfl) (by kernel_rfl) (fun _ _ _ h => h) (Or.inl ⟨by kernel_rfl, ?_⟩) (by assumption) ?_
              rotate_left
              · (intro w hSw; (try dsimp only at hSw); have c9 := hSw.2.1; go_simp; try with_reducible rfl)
              try simp only [Act.put, List.setIfInBounds_toArray, List.set_cons_zero, List.set_cons_succ]
              refine wpAnyH_take (i := 14) (oi := ⟨some 69, _, _, _, _, _⟩) (v := ?_) rfl (by kernel_rfl) (by kernel_rfl) (by kernel_rfl) (fun _ _ _ h => h) (Or.inl ⟨by kernel_rfl, ?_⟩) (by assumption) ?_
              rotate_left
              · (intro w hSw; (try dsimp only at hSw); go_simp; try with_reducible rfl)
              try simp only [Act.put, List.setIfInBounds_toArray, List.set_cons_zero, List.set_cons_succ]
              refine wpAnyH_take (i := 15) (oi := ⟨some 70, _, _, _, _, _⟩) (v := ?_) rfl (by kernel_rfl) (by kernel_rfl) (by kernel_rfl) (fun _ _ _ h => h) (Or.inl ⟨by kernel_rfl, ?_⟩) (by assumption) ?_
              rotate_left
              · (intro w hSw; (try dsimp only at hSw); go_simp; try with_reducible rfl)
              try simp only [Act.put, List.setIfInBounds_toArray, List.set_cons_zero, List.set_cons_succ]
              refine wpAnyH_take (i := 16) (oi := ⟨some 71, _, _, _, _, _⟩) (v := ?_) rfl (by kernel_rfl) (by kernel_rfl) (by kernel_rfl) (fun _ _ _ h => h) (Or.inl ⟨by kernel_rfl, ?_⟩) (by assumption) ?_
              rotate_left
              · (intro w hSw; (try dsimp only at hSw); go_simp; try with_reducible rfl)
              try simp only [Act.put, List.setIfInBounds_toArray, List.set_cons_zero, List.set_cons_succ]
              refine wpAnyH_ready (rs := [17]) (by kernel_rfl) (by simp) ?_
              refine AllReadyH.cons (o := ⟨some 72, _, _, _, _, _⟩) rfl (fun K hK => ?_) AllReadyH.nil
              go_simp
              have HXI : IsJV w5 x := (by obtain ⟨bl2, off2, nm2, x2, hA2, hx2, hn2, _, _, HX2⟩ := jv_fld HJq (show q < j.vs.length by have := LV.out; omega); obtain rfl := Option.some.inj (hx2.symm.trans HXE.out); exact HX2)
              (go_at_call 5; (refine (IH.out x (pathN p nm) base _ _ _ HXS.out HXI HXO.out HOq hbzq HTL.out HPX.out).mono ?_); rintro e w7 ⟨v2, rfl, HO2, hkp⟩)
              replace HS := HS.kp hkp hblb
              replace hkq := hkq.trans hkp
              refine hK.out _ _ HS (fun hS2 => ?_)
              clear hK K hS2
              try simp only [Act.put, List.setIfInBounds_toArray, List.set_cons_zero, List.set_cons_succ]
              refine wpAnyH_take (i := 18) (oi := ⟨some 2, _, _, _, _, _⟩) (v := ?_) rfl (by kernel_rfl) (by kernel_rfl) (by kernel_rfl) (fun _ _ _ h => h) (Or.inl ⟨by kernel_rfl, ?_⟩) (by assumption) ?_
              rotate_left
              · (intro w hSw; (try dsimp only at hSw); go_simp; try with_reducible rfl)
              try simp only [Act.put, List.setIfInBounds_toArray, List.set_cons_zero, List.set_cons_succ]
              refine wpAnyH_done (by kernel_rfl) ?_ _
              go_wp2
              go_roundw
              case rel => exact ⟨q + 1, v2, rfl, by go_num, by omega, by (rw [HNX.out, ← List.append_assoc, ← take_more]; exact HO2), hkq⟩
              case measure => simp [intOf]; omega
            · obtain rfl : q = j.v.Fn := by omega
              have hlt2 : ¬ ((j.v.Fn : Nat) : Int) < j.v.Fn := by omega
              have HFIN : Hid ((L ++ [(p, j.v)] ++ walkF (j.vs.take j.v.Fn) j.ns p).take 200 = (L ++ walkT j p).take 200) := Lib.hid (by rw [HK.out, List.take_of_length_le (l := j.vs) (by have := LV.out; omega)])
              go_wp2
              go_ret
              exact ⟨_, rfl, by rw [← HFIN.out]; exact HOq, HB0.trans hkq⟩
        · have HK : Hid (L ++ walkT j p = L ++ [(p, j.v)]) := Lib.hid (by rw [walkT_leaf hk4 hk5])
          have HTK := Lib.hid (show (L ++ [(p, j.v)]).length ≤ 200 by have := HL1.out; simp; omega)
          have q4 : (j.v.kind == 4) = false := by simpa using hk4
          have q5 : (j.v.kind == 5) = false := by simpa using hk5
          clear hk4 hk5
          go_enter Tryd.func5, Tryd.ntmps5
          go_wp2_with (first
            | (refine wpl_box_at rfl 25 (.tmp 0) rfl _ rfl ?_; intro w1 hw; have hkp := KP.of (base := base) (hid_grow hw) hbz; have B4 := (hid_alloc hw).1; replace HO := HO.below (hid_grow hw); replace HJ := jv_kp hkp HJ HOJ.out; replace HB := HB.trans hkp; replace hbz := HB.up hbz0; clear hkp hw; have c4_0 : w1.cell? ⟨_, 0, none⟩ = some (.int .i64 j.v.kind) := (B4.cell 0).trans (by rfl); have c4_4 : w1.cell? ⟨_, 4, none⟩ = some (.slice j.v.LA j.v.Ln j.v.Lc) := B4.cell 4; have c4_5 : w1.cell? ⟨_, 5, none⟩ = some (.slice j.v.FA j.v.Fn j.v.Fc) := B4.cell 5)
            | ((with_reducible refine is_load ?_); refine wpl_load_box rfl 25 (.tmp 4) rfl _ rfl _ _ _ B4 Tryd.underlying25 rfl info_value ?_)
            | ((with_reducible refine is_build ?_); refine wpl_build_at (vals := _) (pbuild p j.v) rfl _ rfl rfl ?_)
            | ((with_reducible refine is_slice ?_); refine wpl_slice_at 1 [(0, .agg (pcells p j.v))] (pcells p j.v) ie _ (by rw [hie3]; exact pfill p j.v) rfl 27 34 _ rfl rfl Tryd.underlying27 hie1 hie2 (by rw [hie3]; decide) (by rw [hie3]; decide) ?_; intro w9 hw; have hkp := KP.of (base := base) (hid_grow hw) hbz; have B9 := (hid_alloc hw).1; replace HO := HO.below (hid_grow hw); replace HJ := jv_kp hkp HJ HOJ.out; replace B4 := hkp.2 _ _ _ v_neP B4; replace HB := HB.trans hkp; replace hbz := HB.up hbz0; clear hkp hw)
            | (refine wpl_append_place rfl (.tmp 16) (.tmp 20) 27 rfl Tryd.underlying27 base _ _ rfl HO p j.v _ _ _ rfl B9 HL1.out hbz ?_; clear B9; intro v10 wz ho10 hkp; replace HO := ho10; clear ho10; replace HJ := jv_kp hkp HJ HOJ.out; replace B4 := hkp.2 _ _ _ v_neP B4; replace c4_0 : World.cell? _ ⟨_, 0, none⟩ = some (.int .i64 j.v.kind) := (B4.cell 0).trans (by rfl); replace c4_4 : World.cell? _ ⟨_, 4, none⟩ = some (.slice j.v.LA j.v.Ln j.v.Lc) := B4.cell 4; replace c4_5 : World.cell? _ ⟨_, 5, none⟩ = some (.slice j.v.FA j.v.Fn j.v.Fc) := B4.cell 5; replace HB := HB.trans hkp; clear hkp; replace hbz := HB.up hbz0))
          go_ret
          exact ⟨_, rfl, by rw [HK.out, List.take_of_length_le HTK.out]; exact HO, HB⟩
theorem refwalk_any {j : JV} {w : World} (HJ : IsJV w j) (hs : SzT (er j) ≤ 1048576) : Calls Tryd.prog 5 #[.agg j.cells, .string ⟨#[]⟩, .slice none 0 0, .int .i64 200] w (WkV w.heap.size ((walkT j ⟨#[]⟩).take 200) w) :=
  wk_to _ j ⟨#[]⟩ w.heap.size (.slice none 0 0) [] w (Nat.lt_succ_self _) HJ (off_heap HJ) (own_nilP _ _) (Nat.le_refl _) (by decide) (by unfold pathMost; simp [ByteArray.size]; omega)
end Go.Proofs.YtmiphbjpcbfaeaaDoor
