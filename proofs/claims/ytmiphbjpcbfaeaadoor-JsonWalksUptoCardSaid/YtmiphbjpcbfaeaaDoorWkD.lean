/- Layer 2: json.walk, a helper that calls itself and hands yield on, walked: for every loop body that keeps its word. -/
import Derived.Test.YtmiphbjpcbfaeaaDoorWkA
import Derived.Test.YtmiphbjpcbfaeaaDoorRegB
import Derived.RangeFuncNested
import Derived.RangeFuncBound
import Derived.RangeFuncCalls
import Derived.RangeFuncLeaves
import Derived.OwnWalkIn
import Derived.TacticsInMore
import Derived.Lib.LaidTab
import Derived.Lib.AppendIntMem
import Derived.Test.YtmiphbjpcbfaeaaDoorBesL
import Derived.Test.YtmiphbjpcbfaeaaDoorShelf
namespace Go.Proofs.YtmiphbjpcbfaeaaDoor
open Go.RowKit Go.PlainAid
set_option linter.unusedVariables false
set_option linter.unusedSimpArgs false
attribute [local go_sem] Oper.semAt_some
/-- What a round keeps: what lay below n₀; every block of cells but one. -/
def KK (n₀ nb : Nat) (A B : World) : Prop := (B.os = A.os ∧ B.tape = A.tape ∧ B.output = A.output ∧ A.heap.size ≤ B.heap.size) ∧ ∀ k, k ≠ nb → (k < n₀ → B.heap[k]? = A.heap[k]?) ∧ ∀ (arr : Array Value) (t : TypeId) (fr : Nat × Nat), A.heap[k]? = some (.cells arr t fr) → B.heap[k]? = some (.cells arr t fr)
theorem KK.trans {n₀ nb : Nat} {a b c : World} (h : KK n₀ nb a b) (k : KK n₀ nb b c) : KK n₀ nb a c :=
  ⟨⟨k.1.1.trans h.1.1, k.1.2.1.trans h.1.2.1, k.1.2.2.1.trans h.1.2.2.1, Nat.le_trans h.1.2.2.2 k.1.2.2.2⟩, fun i hi => ⟨fun hl => ((k.2 i hi).1 hl).trans ((h.2 i hi).1 hl), fun arr t fr ha => (k.2 i hi).2 _ _ _ ((h.2 i hi).2 _ _ _ ha)⟩⟩
theorem KK.of {n₀ nb : Nat} {w w' : World} (h : Below w.heap.size w w') (hb : n₀ ≤ w.heap.size) : KK n₀ nb w w' :=
  ⟨⟨h.os, h.tape, h.output, h.size⟩, fun i _ => ⟨fun hl => h.block i (by omega), fun arr t fr hI => (h.block i (Array.getElem?_eq_some_iff.1 hI).1).trans hI⟩⟩
theorem KK.refl {n₀ nb : Nat} {w : World} (hb : n₀ ≤ w.heap.size) : KK n₀ nb w w := KK.of (Below.refl _ _) hb
theorem KK.below {n₀ nb n1 : Nat} {w w' : World} (h : KK n₀ nb w w') (h1 : n1 ≤ n₀) (h2 : n1 ≤ nb) : Below n1 w w' := ⟨h.1.1, h.1.2.1, h.1.2.2.1, h.1.2.2.2, fun k hk => (h.2 k (by omega)).1 (by omega)⟩
theorem KK.size {n₀ nb : Nat} {w w' : World} (h : KK n₀ nb w w') : w.heap.size ≤ w'.heap.size := h.1.2.2.2
theorem KK.box {n₀ nb : Nat} {w w' : World} (h : KK n₀ nb w w') {g : Nat} {t : TypeId} {arr : Array Value} (hI : IBox w g t arr) (hg : g ≠ nb) : IBox w' g t arr := (h.2 g hg).2 arr t (0, 0) hI
theorem grown_of_below {w w' : World} (h : Below w.heap.size w w') : w.grownBy w' none := ⟨h.os, h.tape, h.output, h.size, fun k hk _ => h.block k hk⟩
theorem off_wide (k : Nat) : Fence.wide.depth.isSome = true → 1 ≤ k := fun h => by cases h
/-- The table of powers of ten lies. -/
abbrev Tab10 (W : World) : Prop := Lib.TabIs Tryd.prog W "internal/strconv.uint64pow10" .u64 Lib.pow10Tab
/-- What a round answers. -/
def YR (n₀ nb : Nat) (J Jx : List Pl → World → Prop) (pre : List Pl) (x : Pl) (W : World) (e : Ending) (W' : World) : Prop :=
  (e = .returned (.bool true) ∧ J (pre ++ [x]) W' ∧ KK n₀ nb W W') ∨ (e = .returned (.bool false) ∧ Jx (pre ++ [x]) W')
def WR (n₀ nb : Nat) (J Jx : List Pl → World → Prop) (pre L : List Pl) (W : World) (e : Ending) (W' : World) : Prop :=
  (e = .returned (.bool true) ∧ J (pre ++ L) W' ∧ KK n₀ nb W W') ∨ (e = .returned (.bool false) ∧ ∃ q, q <+: L ∧ Jx (pre ++ q) W')
theorem walkL_pre (l : List JV) (p : ByteArray) (q : Nat) : walkL (l.take q) p 0 <+: walkL l p 0 := by
  refine ⟨walkL (l.drop q) p (0 + (l.take q).length), ?_⟩
  rw [← walkL_append, List.take_append_drop]
theorem walkF_pre (l : List JV) (ns : List ByteArray) (p : ByteArray) (q : Nat) : walkF (l.take q) ns p <+: walkF l ns p := by
  refine ⟨walkF (l.drop q) (ns.drop (l.take q).length) p, ?_⟩
  rw [← walkF_append, List.take_append_drop]
theorem pre_app {α : Type} {a b c d : List α} (h : a ++ b <+: d) (k : c <+: b) : a ++ c <+: d := by
  obtain ⟨x, rfl⟩ := k
  obtain ⟨y, rfl⟩ := h
  exact ⟨x ++ y, by simp⟩
theorem zero_fieldW : (Tryd.prog.info? 46).map (fun i => (i.zero, i.size)) = some (some (.agg (fldA (⟨#[]⟩, JV.zero))), 7) := by kernel_rfl
theorem zeroFW (w : World) : (zeroValue 46).run Tryd.prog w = .ok (.agg (fldA (⟨#[]⟩, JV.zero))) w := (Go.zero_of_info zero_fieldW).1 w
theorem field_range {w : World} {b off : Nat} {nm : ByteArray} {x : JV} (h1 : w.cell? ⟨b, off, none⟩ = some (.string nm)) (h2 : w.rangeAt b (off + 1) x.cells.toList) : w.rangeAt b off (fldA (nm, x)).toList := fun j v hv => by
  cases j with
  | zero =>
    obtain rfl : Value.string nm = v := by simpa [fldA] using hv
    exact h1
  | succ n =>
    have h3 := h2 n v (by simpa [fldA, JV.cells, VM.cells] using hv)
    rwa [show off + 1 + n = off + (n + 1) by omega] at h3
theorem field_val {w : World} {g : Nat} {t : TypeId} {nm : ByteArray} {x : JV} (h : IBox w g t (fldA (nm, x))) : w.rangeAt g 1 x.cells.toList := fun j v hv => by
  have h3 := box_range h (1 + j) v (by
    rw [Nat.add_comm]
    simpa [fldA, JV.cells, VM.cells] using hv)
  rwa [Nat.zero_add] at h3
theorem grow_below {w w' : World} {k : Nat} {os : Array Obj} (h : w' = Sort.grow (w.drewN k) os) : Below w.heap.size w w' := by subst h; exact Lib.below_grow _ w (Nat.le_refl _) k os
theorem op_load_box {P : Program} {o : Oper} {a : Act} {w : World} {Q : Exit → Act → World → Prop} {K : Act → World → Prop} (ty : TypeId) (x : Operand) (ho : o.op = .load ty x) (g : Nat) (hx : a.eval x = .pointer (some ⟨g, 0, none⟩)) (t : TypeId) (arr : Array Value) (d : TypeDesc)
    (hc : IBox w g t arr) (hu : P.underlying ty = some d) (hd : d.isRow = true) (hi : (P.info? ty).map (·.size) = some arr.size)
    (h : K (a.put o.dst (.agg arr)) w) : o.wp P a w K Q := by
  refine wp_load_mid ty x ho g 0 hx arr.toList d (fun j v hv => ?_) hu hd (by simpa using hi) ?_
  · rw [Nat.zero_add, hc.cell j]; simpa using hv
  · rw [Array.toArray_toList]; exact h
set_option maxRecDepth 100000 in
set_option maxHeartbeats 8000000 in
theorem jw_to {l Bs nb N : Nat} {J Jx : List Pl → World → Prop} {w0 : World} (hnB : w0.heap.size ≤ Bs) (hnn : w0.heap.size ≤ nb) (hT : ∀ W, Below w0.heap.size w0 W → Tab10 W) (hJ : ∀ s W W', J s W → Below W.heap.size W W' → J s W')
    (hY : ∀ (m : Nat) pre x W, J pre W → pre.length < N → YieldAt Fence.wide m Tryd.prog l #[.string x.1, .agg x.2.cells] W (YR Bs nb J Jx pre x W)) (sz : Nat) :
    ∀ (j : JV) (p : ByteArray) (pre : List Pl) (W : World), SizeOf.sizeOf j < sz → IsJV w0 j → Below w0.heap.size w0 W → nb < W.heap.size → Bs ≤ W.heap.size → J pre W → pre.length + (walkT j p).length ≤ N → p.size + 22 * SzT (er j) ≤ pathMost →
      Calls Tryd.prog 13 #[.agg j.cells, .string p, .func (.yield l) #[] #[]] W (WR Bs nb J Jx pre (walkT j p) W) := by
  induction sz with
  | zero => intro j p pre W h; omega
  | succ sz ih =>
    intro j p pre W hsz HJ HB0 hnb hn1 hpre hlen hp
    obtain ⟨l1, l2, l3, l4, l5⟩ := jv_lens HJ
    have LL := Lib.hid l1
    have LV := Lib.hid l2
    have LN := Lib.hid l3
    have SZ := Lib.hid hsz
    have IH := Lib.hid ih
    have HP := Lib.hid hp
    have HLEN := Lib.hid hlen
    have HYY := Lib.hid hY
    have HT := Lib.hid hT
    have HJJ := Lib.hid hJ
    have HWT := Lib.hid (walkT_eq j p)
    have hps : p.size ≤ 23068672 := by unfold pathMost at hp; omega
    have hpre1 : pre.length < N := by rw [walkT_eq] at hlen; simp at hlen; omega
    have HPR := Lib.hid hpre1
    clear ih hsz l1 l2 l3 hp hlen hY hpre1 hT hJ
    go_enter Tryd.func13, Tryd.ntmps13
    refine wp_seq_k fun K hK => ?_
    have HK := Lib.hid hK
    clear hK
    go_wp2_with (first
      | (refine wpl_box_at rfl 25 (.tmp 0) rfl _ rfl ?_; intro w1 hw; have hb := hid_grow hw; have B3 := (hid_alloc hw).1; clear hw))
    refine HK.out _ _ ?_
    clear HK K
    have kk1 := KK.of (n₀ := Bs) (nb := nb) hb hn1
    have hb3 : W.heap.size ≠ nb := by omega
    have hpre1 := HJJ.out _ _ _ hpre hb
    have hnb1 : nb < w1.heap.size := Nat.lt_of_lt_of_le hnb hb.size
    clear hpre hb
    refine wp_seq_k fun K hK => ?_
    have HK := Lib.hid hK
    clear hK
    refine wp_seq_k fun K2 hK2 => ?_
    have HK2 := Lib.hid hK2
    clear hK2
    obtain ⟨fn, tmps, assign, body, hy, hR⟩ := HYY.out 0 pre (p, j.v) w1 hpre1 HPR.out
    have c0 : w1.cell? ⟨_, 0, none⟩ = some (.int .i64 j.v.kind) := B3.cell 0
    have c1 : w1.cell? ⟨_, 1, none⟩ = some (.bool j.v.b) := B3.cell 1
    have c2 : w1.cell? ⟨_, 2, none⟩ = some (.int .i64 j.v.i) := B3.cell 2
    have c3 : w1.cell? ⟨_, 3, none⟩ = some (.string j.v.t) := B3.cell 3
    have c4 : w1.cell? ⟨_, 4, none⟩ = some (.slice j.v.LA j.v.Ln j.v.Lc) := B3.cell 4
    have c5 : w1.cell? ⟨_, 5, none⟩ = some (.slice j.v.FA j.v.Fn j.v.Fc) := B3.cell 5
    refine (wpIn_wide (n := 1)).1 ?_
    have hy2 : (Instr.yield l #[.string p, .agg #[.int .i64 j.v.kind, .bool j.v.b, .int .i64 j.v.i, .string j.v.t, .slice j.v.LA j.v.Ln j.v.Lc, .slice j.v.FA j.v.Fn j.v.Fc]]).run Tryd.prog w1 = .ok (.round l fn tmps assign body) w1 := hy
    clear hy
    gi_wp2_with (first
      | ((try refine ⟨off_wide _, ?_⟩); refine hR.mono ?_; clear hR; rintro e W2 (⟨rfl, hJ2, hk2⟩ | ⟨rfl, hx2⟩)))
    · refine HK2.out _ _ ?_
      clear HK2 K2 hy2 c0 c1 c2 c3 c4 c5
      go_wp2
      refine HK.out _ _ ?_
      clear HK K
      replace B3 := hk2.box B3 hb3
      have hkk := kk1.trans hk2
      have hnb2 : nb < W2.heap.size := Nat.lt_of_lt_of_le hnb1 hk2.size
      have hbs2 : Bs ≤ W2.heap.size := Nat.le_trans hn1 hkk.size
      have HB2 : Below w0.heap.size w0 W2 := HB0.trans (hkk.below hnB hnn)
      clear hk2 kk1 hpre1 hnb1
      have c0 : W2.cell? ⟨_, 0, none⟩ = some (.int .i64 j.v.kind) := B3.cell 0
      have c4 : W2.cell? ⟨_, 4, none⟩ = some (.slice j.v.LA j.v.Ln j.v.Lc) := B3.cell 4
      have c5 : W2.cell? ⟨_, 5, none⟩ = some (.slice j.v.FA j.v.Fn j.v.Fc) := B3.cell 5
      by_cases hk4 : j.v.kind = 4
      · have HWK : Hid (walkT j p = (p, j.v) :: walkL j.l p 0) := Lib.hid (walkT_4 hk4 p)
        rw [hk4] at c0
        clear hk4 c5
        go_wp2
        go_loopw [23] (fun iv wr => ∃ q : Nat, iv = .int .i64 q ∧ q ≤ j.v.Ln ∧ J (pre ++ (p, j.v) :: walkL (j.l.take q) p 0) wr ∧ KK Bs nb W2 wr) (fun iv _ => j.v.Ln - (intOf iv).toNat)
        case atStart => exact ⟨0, rfl, Nat.zero_le _, (by rw [List.take_zero]; unfold walkL; exact hJ2), KK.refl hbs2⟩
        case round =>
          obtain ⟨q, rfl, hq, hJq, hkq⟩ := hrel
          have hnbr : nb < wr.heap.size := Nat.lt_of_lt_of_le hnb2 hkq.size
          have hbsr : Bs ≤ wr.heap.size := Nat.le_trans hbs2 hkq.size
          have HBr : Below w0.heap.size w0 wr := HB2.trans (hkq.below hnB hnn)
          by_cases hlt : q < j.v.Ln
          · obtain ⟨bl, off, x, hA, hx, RX, HX⟩ := jv_elem HJ (show q < j.l.length by have := LL.out; omega)
            have HPX := Lib.hid (path_i HP.out hx)
            have HXS := Lib.hid (show SizeOf.sizeOf x < sz by have := size_l hx; have := SZ.out; omega)
            have HNX := Lib.hid (walkL_next hx p)
            have hql : (dig q).length ≤ 20 := dig_len20 (by have h3 := (sz_parts j).1; have := HP.out; unfold pathMost at this; have := LL.out; omega)
            have HPL := Lib.hid (show walkL (j.l.take q) p 0 ++ walkT x (pathI p q) <+: walkL j.l p 0 by rw [← HNX.out]; exact walkL_pre _ _ _)
            have hqi : (-9223372036854775808 : Int) ≤ (q : Int) ∧ (q : Int) ≤ 9223372036854775807 := by omega
            have HQI := Lib.hid hqi
            clear hqi
            replace RX := range_below HBr RX
            have HAA := Lib.hid hA
            have hlt2 : (q : Int) < j.v.Ln := by omega
            have hbd : 0 ≤ (q : Int) ∧ (q : Int) < j.v.Ln := by omega
            have HLQ : Hid ((pre ++ (p, j.v) :: walkL (j.l.take q) p 0).length + (walkT x (pathI p q)).length ≤ N) := Lib.hid (by
              have h1 := HLEN.out
              rw [HWK.out] at h1
              obtain ⟨z, h2⟩ := HPL.out
              rw [← h2] at h1
              simp only [List.length_append, List.length_cons] at h1 ⊢
              omega)
            rw [HAA.out]
            clear hx hA c0
            have hcc : ¬ 9223372036854775807 < p.size + 1 := by omega
            have hcc2 : ¬ 9223372036854775807 < p.size + 1 + (dig q).length := by omega
            go_wp2_with (first
              | ((with_reducible refine is_load ?_); refine wpl_load_arr rfl 25 (.tmp 26) rfl _ _ rfl x.cells _ RX Tryd.underlying25 rfl info_value ?_)
              | ((with_reducible refine is_alloc ?_); refine wpl_alloc_at rfl 25 rfl _ zeroV ?_; intro w5 hw; have hb5 := hid_grow hw; have B8 := hid_alloc0 hw; have hz5 := (hid_alloc hw).2.1; clear hw)
              | ((with_reducible refine is_store ?_); refine wpl_store_at rfl 25 (.tmp 8) (.tmp 27) rfl _ _ rfl rfl _ _ B8 info_value rfl (jv_one _) ?_; intro w6 hw; have hb6 := (hid_row_below hw (Nat.le_refl _) hb5).1; have B9 := hid_row hw B8; clear hw hb5 B8))
            have hn6 : Bs ≤ w6.heap.size := Nat.le_trans hbsr hb6.size
            replace hkq := hkq.trans (KK.of hb6 hbsr)
            replace hJq := HJJ.out _ _ _ hJq hb6
            replace HBr := HBr.trans (hb6.mono HBr.size)
            replace hnbr := Nat.lt_of_lt_of_le hnbr hb6.size
            replace hbsr := hn6
            clear hb6 hn6 hz5
            refine wp_region_S (S := fun _ => True) (by kernel_rfl) (fun _ _ => trivial) (fun w8 hh hbb HS => ?_)
            have hb := hbb _ (Nat.le_refl _)
            have B10 := IBox.below B9 hb (IBox.lt B9)
            replace hkq := hkq.trans (KK.of hb hbsr)
            replace hJq := HJJ.out _ _ _ hJq hb
            replace HBr := HBr.trans (hb.mono HBr.size)
            replace hnbr := Nat.lt_of_lt_of_le hnbr hb.size
            replace hbsr := Nat.le_trans hbsr hb.size
            clear hb hbb hh B9
            refine wpAnyH_take (i := 1) (oi := ⟨some 29, _, _, _, _, _⟩) (v := ?_) rfl (by kernel_rfl) (by kernel_rfl) (by kernel_rfl) (fun _ _ _ h => h) (Or.inl ⟨by kernel_rfl, ?_⟩) (by assumption) ?_
            rotate_left
            · (intro w hSw; (try dsimp only at hSw); go_simp; try with_reducible rfl)
            try simp only [Act.put, List.setIfInBounds_toArray, List.set_cons_zero, List.set_cons_succ]
            refine wpAnyH_take (i := 2) (oi := ⟨some 30, _, _, _, _, _⟩) (v := ?_) rfl (by kernel_rfl) (by kernel_rfl) (by kernel_rfl) (fun _ _ _ h => h) (Or.inl ⟨by kernel_rfl, ?_⟩) (by assumption) ?_
            rotate_left
            · (intro w hSw; (try dsimp only at hSw); go_simp; try with_reducible rfl)
            try simp only [Act.put, List.setIfInBounds_toArray, List.set_cons_zero, List.set_cons_succ]
            refine wpAnyH_take (i := 3) (oi := ⟨some 31, _, _, _, _, _⟩) (v := ?_) rfl (by kernel_rfl) (by kernel_rfl) (by kernel_rfl) (fun _ _ _ h => h) (Or.inl ⟨by kernel_rfl, ?_⟩) (by assumption) ?_
            rotate_left
            · (intro w hSw; (try dsimp only at hSw); go_simp; try with_reducible rfl)
            try simp only [Act.put, List.setIfInBounds_toArray, List.set_cons_zero, List.set_cons_succ]
            refine wpAnyH_take (i := 6) (oi := ⟨some 34, _, _, _, _, _⟩) (v := ?_) rfl (by kernel_rfl) (by kernel_rfl) (by kernel_rfl) (fun _ _ _ h => h) (Or.inl ⟨by kernel_rfl, ?_⟩) (by assumption) ?_
            rotate_left
            · (intro w hSw; (try dsimp only at hSw); go_simp; try with_reducible rfl)
            try simp only [Act.put, List.setIfInBounds_toArray, List.set_cons_zero, List.set_cons_succ]
            refine wpAnyH_ready (rs := [0, 4]) (by kernel_rfl) (by simp) ?_
            refine AllReadyH.cons (o := ⟨some 28, _, _, _, _, _⟩) rfl (fun K hK => ?_) (AllReadyH.cons (o := ⟨some 32, _, _, _, _, _⟩) rfl (fun K hK => ?_) AllReadyH.nil)
            · simp only [Region.wanted, if_true]
              refine op_load_box 25 (.tmp 8) rfl _ rfl _ _ _ B10 Tryd.underlying25 rfl info_value ?_
              refine hK.out _ _ trivial (fun _ => ?_)
              clear hK K
              try simp only [Act.put, List.setIfInBounds_toArray, List.set_cons_zero, List.set_cons_succ]
              refine wpAnyH_ready (rs := [4]) (by kernel_rfl) (by simp) ?_
              refine AllReadyH.cons (o := ⟨some 32, _, _, _, _, _⟩) rfl (fun K hK => ?_) AllReadyH.nil
              go_simp
              (go_at_call 20; (with_reducible refine (Tryd.strconv_Itoa q HQI.out.1 HQI.out.2 _ (HT.out _ HBr)).mono ?_); rintro e w9 ⟨rfl, kk, os, hw9⟩)
              have hb := grow_below hw9
              have B11 := IBox.below B10 hb (IBox.lt B10)
              replace hkq := hkq.trans (KK.of hb hbsr)
              replace hJq := HJJ.out _ _ _ hJq hb
              replace HBr := HBr.trans (hb.mono HBr.size)
              replace hnbr := Nat.lt_of_lt_of_le hnbr hb.size
              replace hbsr := Nat.le_trans hbsr hb.size
              rw [itoa_dig]
              clear hb hw9 B10
              refine hK.out _ _ trivial (fun _ => ?_)
              clear hK K
              try simp only [Act.put, List.setIfInBounds_toArray, List.set_cons_zero, List.set_cons_succ]
              refine wpAnyH_take (i := 5) (oi := ⟨some 33, _, _, _, _, _⟩) (v := ?_) rfl (by kernel_rfl) (by kernel_rfl) (by kernel_rfl) (fun _ _ _ h => h) (Or.inl ⟨by kernel_rfl, ?_⟩) (by assumption) ?_
              rotate_left
              · (intro w hSw; (try dsimp only at hSw); go_simp; try with_reducible rfl)
              try simp only [Act.put, List.setIfInBounds_toArray, List.set_cons_zero, List.set_cons_succ]
              refine wpAnyH_ready (rs := [7]) (by kernel_rfl) (by simp) ?_
              refine AllReadyH.cons (o := ⟨some 35, _, _, _, _, _⟩) rfl (fun K hK => ?_) AllReadyH.nil
              go_simp
              (go_at_call 13; (refine (IH.out x (pathI p q) _ _ HXS.out HX HBr hnbr hbsr hJq HLQ.out HPX.out).mono ?_); rintro e w7 (⟨rfl, hj7, hk7⟩ | ⟨rfl, q7, hq7, hx7⟩))
              · refine hK.out _ _ trivial (fun _ => ?_)
                clear hK K
                try simp only [Act.put, List.setIfInBounds_toArray, List.set_cons_zero, List.set_cons_succ]
                refine wpAnyH_take (i := 8) (oi := ⟨some 36, _, _, _, _, _⟩) (v := ?_) rfl (by kernel_rfl) (by kernel_rfl) (by kernel_rfl) (fun _ _ _ h => h) (Or.inl ⟨by kernel_rfl, ?_⟩) (by assumption) ?_
                rotate_left
                · (intro w hSw; (try dsimp only at hSw); go_simp; try with_reducible rfl)
                try simp only [Act.put, List.setIfInBounds_toArray, List.set_cons_zero, List.set_cons_succ]
                refine wpAnyH_done (by kernel_rfl) ?_ _
                replace hkq := hkq.trans hk7
                go_wp2
                go_roundw
                case rel => exact ⟨q + 1, by go_num, by omega, (by rw [HNX.out]; simpa only [List.append_assoc, List.cons_append] using hj7), hkq⟩
                case measure => simp [intOf]; omega
              · refine hK.out _ _ trivial (fun _ => ?_)
                clear hK K
                try simp only [Act.put, List.setIfInBounds_toArray, List.set_cons_zero, List.set_cons_succ]
                refine wpAnyH_take (i := 8) (oi := ⟨some 36, _, _, _, _, _⟩) (v := ?_) rfl (by kernel_rfl) (by kernel_rfl) (by kernel_rfl) (fun _ _ _ h => h) (Or.inl ⟨by kernel_rfl, ?_⟩) (by assumption) ?_
                rotate_left
                · (intro w hSw; (try dsimp only at hSw); go_simp; try with_reducible rfl)
                try simp only [Act.put, List.setIfInBounds_toArray, List.set_cons_zero, List.set_cons_succ]
                refine wpAnyH_done (by kernel_rfl) ?_ _
                go_wp2
                go_ret
                refine .inr ⟨rfl, (p, j.v) :: (walkL (j.l.take q) p 0 ++ q7), ?_, by simpa only [List.append_assoc, List.cons_append] using hx7⟩
                rw [HWK.out]
                obtain ⟨z, hz⟩ := pre_app HPL.out hq7
                exact ⟨z, by rw [List.cons_append, hz]⟩
            · go_simp
              (go_at_call 20; (with_reducible refine (Tryd.strconv_Itoa q HQI.out.1 HQI.out.2 _ (HT.out _ HBr)).mono ?_); rintro e w9 ⟨rfl, kk, os, hw9⟩)
              have hb := grow_below hw9
              have B11 := IBox.below B10 hb (IBox.lt B10)
              replace hkq := hkq.trans (KK.of hb hbsr)
              replace hJq := HJJ.out _ _ _ hJq hb
              replace HBr := HBr.trans (hb.mono HBr.size)
              replace hnbr := Nat.lt_of_lt_of_le hnbr hb.size
              replace hbsr := Nat.le_trans hbsr hb.size
              rw [itoa_dig]
              clear hb hw9 B10
              refine hK.out _ _ trivial (fun _ => ?_)
              clear hK K
              try simp only [Act.put, List.setIfInBounds_toArray, List.set_cons_zero, List.set_cons_succ]
              refine wpAnyH_take (i := 5) (oi := ⟨some 33, _, _, _, _, _⟩) (v := ?_) rfl (by kernel_rfl) (by kernel_rfl) (by kernel_rfl) (fun _ _ _ h => h) (Or.inl ⟨by kernel_rfl, ?_⟩) (by assumption) ?_
              rotate_left
              · (intro w hSw; (try dsimp only at hSw); go_simp; try with_reducible rfl)
              try simp only [Act.put, List.setIfInBounds_toArray, List.set_cons_zero, List.set_cons_succ]
              refine wpAnyH_ready (rs := [0]) (by kernel_rfl) (by simp) ?_
              refine AllReadyH.cons (o := ⟨some 28, _, _, _, _, _⟩) rfl (fun K hK => ?_) AllReadyH.nil
              simp only [Region.wanted, if_true]
              refine op_load_box 25 (.tmp 8) rfl _ rfl _ _ _ B11 Tryd.underlying25 rfl info_value ?_
              refine hK.out _ _ trivial (fun _ => ?_)
              clear hK K
              try simp only [Act.put, List.setIfInBounds_toArray, List.set_cons_zero, List.set_cons_succ]
              refine wpAnyH_ready (rs := [7]) (by kernel_rfl) (by simp) ?_
              refine AllReadyH.cons (o := ⟨some 35, _, _, _, _, _⟩) rfl (fun K hK => ?_) AllReadyH.nil
              go_simp
              (go_at_call 13; (refine (IH.out x (pathI p q) _ _ HXS.out HX HBr hnbr hbsr hJq HLQ.out HPX.out).mono ?_); rintro e w7 (⟨rfl, hj7, hk7⟩ | ⟨rfl, q7, hq7, hx7⟩))
              · refine hK.out _ _ trivial (fun _ => ?_)
                clear hK K
                try simp only [Act.put, List.setIfInBounds_toArray, List.set_cons_zero, List.set_cons_succ]
                refine wpAnyH_take (i := 8) (oi := ⟨some 36, _, _, _, _, _⟩) (v := ?_) rfl (by kernel_rfl) (by kernel_rfl) (by kernel_rfl) (fun _ _ _ h => h) (Or.inl ⟨by kernel_rfl, ?_⟩) (by assumption) ?_
                rotate_left
                · (intro w hSw; (try dsimp only at hSw); go_simp; try with_reducible rfl)
                try simp only [Act.put, List.setIfInBounds_toArray, List.set_cons_zero, List.set_cons_succ]
                refine wpAnyH_done (by kernel_rfl) ?_ _
                replace hkq := hkq.trans hk7
                go_wp2
                go_roundw
                case rel => exact ⟨q + 1, by go_num, by omega, (by rw [HNX.out]; simpa only [List.append_assoc, List.cons_append] using hj7), hkq⟩
                case measure => simp [intOf]; omega
              · refine hK.out _ _ trivial (fun _ => ?_)
                clear hK K
                try simp only [Act.put, List.setIfInBounds_toArray, List.set_cons_zero, List.set_cons_succ]
                refine wpAnyH_take (i := 8) (oi := ⟨some 36, _, _, _, _, _⟩) (v := ?_) rfl (by kernel_rfl) (by kernel_rfl) (by kernel_rfl) (fun _ _ _ h => h) (Or.inl ⟨by kernel_rfl, ?_⟩) (by assumption) ?_
                rotate_left
                · (intro w hSw; (try dsimp only at hSw); go_simp; try with_reducible rfl)
                try simp only [Act.put, List.setIfInBounds_toArray, List.set_cons_zero, List.set_cons_succ]
                refine wpAnyH_done (by kernel_rfl) ?_ _
                go_wp2
                go_ret
                refine .inr ⟨rfl, (p, j.v) :: (walkL (j.l.take q) p 0 ++ q7), ?_, by simpa only [List.append_assoc, List.cons_append] using hx7⟩
                rw [HWK.out]
                obtain ⟨z, hz⟩ := pre_app HPL.out hq7
                exact ⟨z, by rw [List.cons_append, hz]⟩
          · obtain rfl : q = j.v.Ln := by omega
            have hlt2 : ¬ ((j.v.Ln : Nat) : Int) < j.v.Ln := by omega
            go_wp2
            go_ret
            refine .inl ⟨rfl, ?_, hkk.trans hkq⟩
            rw [HWK.out]
            rw [List.take_of_length_le (by have := LL.out; omega)] at hJq
            exact hJq
      by_cases hk5 : j.v.kind = 5
      · have HWK : Hid (walkT j p = (p, j.v) :: walkF j.vs j.ns p) := Lib.hid (walkT_5 hk5 p)
        rw [hk5] at c0
        clear hk4 hk5 c4
        go_wp2
        go_loopw [43] (fun iv wr => ∃ q : Nat, iv = .int .i64 q ∧ q ≤ j.v.Fn ∧ J (pre ++ (p, j.v) :: walkF (j.vs.take q) j.ns p) wr ∧ KK Bs nb W2 wr) (fun iv _ => j.v.Fn - (intOf iv).toNat)
        case atStart => exact ⟨0, rfl, Nat.zero_le _, (by rw [List.take_zero]; unfold walkF; exact hJ2), KK.refl hbs2⟩
        case round =>
          obtain ⟨q, rfl, hq, hJq, hkq⟩ := hrel
          have hnbr : nb < wr.heap.size := Nat.lt_of_lt_of_le hnb2 hkq.size
          have hbsr : Bs ≤ wr.heap.size := Nat.le_trans hbs2 hkq.size
          have HBr : Below w0.heap.size w0 wr := HB2.trans (hkq.below hnB hnn)
          by_cases hlt : q < j.v.Fn
          · obtain ⟨bl, off, nm, x, hA, hx, hnx, n1, RX, HX⟩ := jv_fld HJ (show q < j.vs.length by have := LV.out; omega)
            have HPX := Lib.hid (path_n HP.out hx hnx)
            have HXS := Lib.hid (show SizeOf.sizeOf x < sz by have := size_vs hx; have := SZ.out; omega)
            have HNX := Lib.hid (walkF_next hx hnx p)
            have hnz : nm.size ≤ 23068672 := by
              have h1 := szN_mem hnx
              have h2 := sz_fields j
              have := HP.out
              unfold pathMost at this
              omega
            have HPL := Lib.hid (show walkF (j.vs.take q) j.ns p ++ walkT x (pathN p nm) <+: walkF j.vs j.ns p by rw [← HNX.out]; exact walkF_pre _ _ _ _)
            replace RX := range_below HBr RX
            replace n1 := cell_below HBr n1
            have HAA := Lib.hid hA
            have hlt2 : (q : Int) < j.v.Fn := by omega
            have hbd : 0 ≤ (q : Int) ∧ (q : Int) < j.v.Fn := by omega
            have HLQ : Hid ((pre ++ (p, j.v) :: walkF (j.vs.take q) j.ns p).length + (walkT x (pathN p nm)).length ≤ N) := Lib.hid (by
              have h1 := HLEN.out
              rw [HWK.out] at h1
              obtain ⟨z, h2⟩ := HPL.out
              rw [← h2] at h1
              simp only [List.length_append, List.length_cons] at h1 ⊢
              omega)
            rw [HAA.out]
            clear hx hA hnx c0
            have hcc : ¬ 9223372036854775807 < p.size + 1 := by omega
            have hcc2 : ¬ 9223372036854775807 < p.size + 1 + nm.size := by omega
            have FC : wr.rangeAt bl (off + q * 7) (fldA (nm, x)).toList := field_range n1 RX
            go_wp2_with (first
              | ((with_reducible refine is_load ?_); refine wpl_load_arr rfl 46 (.tmp 45) rfl _ _ rfl (fldA (nm, x)) _ FC Tryd.underlying46 rfl info_field7 ?_)
              | (refine wpl_newbox 10 rfl rfl 46 rfl rfl (.tmp 46) rfl _ zeroFW (fldA (nm, x)) rfl rfl info_field7 rfl (fld_one _) ?_; intro w6 hw; have hb6 := hid_grow hw; have B9 := (hid_alloc hw).1; clear hw; have cn : w6.cell? ⟨_, 0, none⟩ = some (.string nm) := B9.cell 0; have RV : w6.rangeAt _ 1 x.cells.toList := field_val B9; replace hkq := hkq.trans (KK.of hb6 hbsr); replace hJq := HJJ.out _ _ _ hJq hb6; replace HBr := HBr.trans (hb6.mono HBr.size); replace hnbr := Nat.lt_of_lt_of_le hnbr hb6.size; replace hbsr := Nat.le_trans hbsr hb6.size; clear hb6)
              | ((with_reducible refine is_load ?_); refine wpl_load_arr rfl 25 (.tmp 47) rfl _ _ rfl x.cells _ RV Tryd.underlying25 rfl info_value ?_)
              | (go_at_call 13; (refine (IH.out x (pathN p nm) _ _ HXS.out HX HBr hnbr hbsr hJq HLQ.out HPX.out).mono ?_); rintro e w7 (⟨rfl, hj7, hk7⟩ | ⟨rfl, q7, hq7, hx7⟩)))
            · replace hkq := hkq.trans hk7
              go_roundw
              case rel => exact ⟨q + 1, by go_num, by omega, (by rw [HNX.out]; simpa only [List.append_assoc, List.cons_append] using hj7), hkq⟩
              case measure => simp [intOf]; omega
            · go_ret
              refine .inr ⟨rfl, (p, j.v) :: (walkF (j.vs.take q) j.ns p ++ q7), ?_, by simpa only [List.append_assoc, List.cons_append] using hx7⟩
              rw [HWK.out]
              obtain ⟨z, hz⟩ := pre_app HPL.out hq7
              exact ⟨z, by rw [List.cons_append, hz]⟩
          · obtain rfl : q = j.v.Fn := by omega
            have hlt2 : ¬ ((j.v.Fn : Nat) : Int) < j.v.Fn := by omega
            go_wp2
            go_ret
            refine .inl ⟨rfl, ?_, hkk.trans hkq⟩
            rw [HWK.out]
            rw [List.take_of_length_le (by have := LV.out; omega)] at hJq
            exact hJq
      · have q4 : (j.v.kind == 4) = false := by simpa using hk4
        have q5 : (j.v.kind == 5) = false := by simpa using hk5
        have HWK := Lib.hid (walkT_leaf hk4 hk5 p)
        clear hk4 hk5
        go_wp2
        go_ret
        exact .inl ⟨rfl, by rw [HWK.out]; exact hJ2, hkk⟩
    · refine HK2.out _ _ ?_
      clear HK2 K2 hy2 c0 c1 c2 c3 c4 c5
      go_wp2
      go_ret
      exact .inr ⟨rfl, [(p, j.v)], by rw [HWT.out]; exact ⟨_, rfl⟩, hx2⟩
end Go.Proofs.YtmiphbjpcbfaeaaDoor
