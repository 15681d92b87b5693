/- Layer 3, the document's: Without, walked. -/
import Derived.Test.YtnjhmnolngdfaaaGreatDoorQ31
import Derived.Test.YtnjhmnolngdfaaaGreatDoorQZip
namespace Go.Proofs.YtnjhmnolngdfaaaGreatDoor
open Go.RowKit Go.PlainAid
set_option linter.unusedVariables false
set_option linter.unusedSimpArgs false
theorem wnames_at {w : World} {A : Option Addr} {step : Nat} {L : List ByteArray} (h : NamesAt w A step 0 L) {k : Nat} (hk : k < L.length) : ∃ b off n, A = some ⟨b, off, none⟩ ∧ L[k]? = some n ∧ w.cell? ⟨b, off + k * step, none⟩ = some (.string n) ∧ n.size ≤ reach := by
  have e : L[k]? = some L[k] := List.getElem?_eq_getElem hk
  obtain ⟨⟨b, off, hA, hc⟩, hs⟩ := h.get e
  rw [Nat.zero_add] at hc
  exact ⟨b, off, L[k], hA, e, hc, hs⟩
theorem offL_mem {X : Nat → Prop} : ∀ {l : List JV}, OffL X l → ∀ x ∈ l, Off X x
  | [], _, x, hx => by cases hx
  | y :: r, h, x, hx => by
    unfold OffL at h
    rcases List.mem_cons.1 hx with rfl | hx
    · exact h.1
    · exact offL_mem h.2 x hx
theorem off_vs {X : Nat → Prop} {j : JV} (h : Off X j) {i : Nat} {x : JV} (hx : j.vs[i]? = some x) : Off X x := by
  obtain ⟨v, l, ns, vs⟩ := j
  unfold Off at h
  exact offL_mem h.2.2.2 x (List.mem_of_getElem? hx)
theorem has_next {L : List ByteArray} {k : Nat} {n nm : ByteArray} (h : L[k]? = some n) : hasN (L.take (k + 1)) nm = (hasN (L.take k) nm || n.toList == nm.toList) := by
  unfold hasN
  rw [take_next h, List.any_append]
  simp
/-- The row under way alone. -/
theorem PK.bare {b1 g : Nat} {E : TypeId} {size : Nat} {arr : Array Value} {v v' : Value} {n n' : Nat} {xs xs' : List Value} {w w' : World} (h : PK b1 g E size arr v n xs [] w) (ho : w'.ownsRow b1 E size v' n' xs') (hb : Bes (fun q => v.ownBlock = some q) w w') : PK b1 g E size arr v' n' xs' [] w' :=
  ⟨Bes.box hb h.box (fun e => by have := (own_in h.own e).1; have := h.st.1; omega), ho, (fun y hy => by cases hy), ⟨h.st.1, Nat.le_trans h.st.2 hb.size⟩⟩
/-- What the document's Without leaves. -/
def RoV (j : JV) (L : List ByteArray) (w : World) (e : Ending) (w' : World) : Prop := Below w.heap.size w w' ∧
  if witC j = 0 then ∃ x, e = .returned (.tuple #[.agg x.cells, .int .i64 0]) ∧ IsJV w' x ∧ er x = witT L (nrmT (er j))
  else e = .returned (.tuple #[.agg JV.zero.cells, .int .i64 (witC j)])
theorem RoV.bad {j : JV} {L : List ByteArray} {w w' : World} {c : Int} (h : witC j = c) (hc : c ≠ 0) (hb : Below w.heap.size w w') : RoV j L w (.returned (.tuple #[.agg JV.zero.cells, .int .i64 c])) w' := ⟨hb, by rw [h, if_neg hc]⟩
theorem RoV.ok {j : JV} {L : List ByteArray} {w w' : World} (h : witC j = 0) (hb : Below w.heap.size w w') {x : JV} (hx : IsJV w' x) (he : er x = witT L (nrmT (er j))) : RoV j L w (.returned (.tuple #[.agg x.cells, .int .i64 0])) w' := ⟨hb, by rw [if_pos h]; exact ⟨x, rfl, hx, he⟩⟩
theorem results_ro {fn : Func} (h : fn.results = #[.cell 4 25, .tmp 5]) (tmps : Array Value) (w : World) (g : Nat) (cs : Array Value) (ev : Value) (hp : tmps.getD 4 undef = .pointer (some ⟨g, 0, none⟩)) (hq : tmps.getD 5 undef = ev) (hg : IBox w g 25 cs) (hi : (Tryz.prog.info? 25).map (·.size) = some cs.size) :
    (results fn tmps).run Tryz.prog w = .ok (.tuple #[.agg cs, ev]) w := by
  rw [← hq]
  exact results_box_tmp h tmps w g 25 cs _ hp hg Tryz.underlying25 rfl hi
theorem ro_tree {j y : JV} {L : List ByteArray} {A : Option Addr} {c : Nat} {M : List (ByteArray × JV)} (hk : j.v.kind = 5) (hy : er y = nrmT (er j)) (h : (M.map fun p => (p.1, er p.2)) = (y.ns.zip (erL y.vs)).filter fun p => !hasN L p.1) : er (objJ A c M) = witT L (nrmT (er j)) := by
  have h1 := hy
  rw [nrm_eq j, if_neg (by omega), if_neg (by omega), if_neg (by omega), if_neg (by omega), if_pos hk, er_mk] at h1
  injection h1 with _ _ _ _ _ e6 e7
  rw [er_no A c M _ h, nrm_eq j, if_neg (by omega), if_neg (by omega), if_neg (by omega), if_neg (by omega), if_pos hk, ← e6, ← e7]
  rfl
set_option maxRecDepth 100000 in
set_option maxHeartbeats 8000000 in
theorem rwithout_any {j : JV} {w : World} {nA : Option Addr} {nn nc : Nat} {L : List ByteArray} (HJ : IsJV w j) (hz : SzT (er j) ≤ 1048576) (HNM : NamesAt w nA 1 0 L) (hnn : nn = L.length) (hnb : nn ≤ 9223372036854775807) : Calls Tryz.prog 16 #[.agg j.cells, .slice nA nn nc] w (RoV j L w) := by
  have HZ := Lib.hid hz
  have HNN := Lib.hid hnn
  have HB := Below.refl w.heap.size w
  have HLN := Lib.hid (er_len HJ)
  clear hz hnn
  by_cases hk5 : j.v.kind = 5
  · have HKD := Lib.hid hk5
    clear hk5
    rcases wrt_ways (er j) with ⟨l, hs⟩ | ⟨c, hs, hc⟩
    · have HS := Lib.hid hs
      have HC := Lib.hid (show witC j = 0 by unfold witC; rw [if_pos HKD.out, hs])
      clear hs
      obtain ⟨ie, z, hie1, hie2, hie3, hie4, hz⟩ := fld_slice0
      subst hz
      go_enter Tryz.func16, Tryz.ntmps16
      go_wp2_with (first
        | (refine wpl_box_at rfl 25 (.tmp 0) rfl _ rfl ?_; intro w1 hw; have hb := hid_grow hw; have B2 := (hid_alloc hw).1; replace HB := zT HB hb; (try replace HJ := HJ.below hb); (try replace HY := HY.below hb); (try replace HNM := HNM.below hb); (try replace B4 := zI B4 hb); (try replace B6 := zI B6 hb); (try replace c6_5 := cell_below hb c6_5); clear hb hw; have c2_0 : w1.cell? ⟨_, 0, none⟩ = some (.int .i64 5) := (B2.cell 0).trans (by rw [← HKD.out]; rfl))
        | ((with_reducible refine is_alloc ?_); refine wpl_alloc_at (o := ⟨some 4, _, _, _, _, _⟩) rfl 25 rfl _ zeroV ?_; intro w2 hw; have hb := hid_grow hw; have B4 := hid_alloc0 hw; have L01 := HB.size; replace HB := zT HB hb; (try replace HJ := HJ.below hb); (try replace HY := HY.below hb); (try replace HNM := HNM.below hb); (try replace B2 := zI B2 hb); (try replace B6 := zI B6 hb); (try replace c2_0 := cell_below hb c2_0); (try replace c6_5 := cell_below hb c6_5); clear hb hw; have L12 := IBox.lt B4)
        | ((with_reducible refine is_load ?_); refine wpl_load_box rfl 25 (.tmp 2) rfl _ rfl _ _ _ B2 Tryz.underlying25 rfl info_value ?_))
      refine (rnorm_any HJ HZ.out).mono ?_
      intro e w4 hnm
      obtain ⟨y, he, HY, hey, hoy, hb⟩ := RnV.yes HS.out hnm
      subst he
      clear hnm
      have HEY := Lib.hid hey
      have HOY := Lib.hid hoy
      have HYZ := Lib.hid (show SzT (er y) ≤ 1048576 by rw [hey]; exact Nat.le_trans (nrm_sz (er j) HLN.out) HZ.out)
      clear hey hoy
      replace HB := zT HB hb
      (try replace HJ := HJ.below hb)
      (try replace HNM := HNM.below hb)
      (try replace B2 := zI B2 hb)
      (try replace B4 := zI B4 hb)
      (try replace B6 := zI B6 hb)
      (try replace c2_0 := cell_below hb c2_0)
      (try replace c6_5 := cell_below hb c6_5)
      clear hb
      go_wp2_with (first
        | ((with_reducible refine is_alloc ?_); refine wpl_newbox 6 rfl rfl 25 rfl rfl (.tmp 19) rfl _ zeroV y.cells rfl rfl info_value rfl (jv_one _) ?_; intro w5 hw; have hb := hid_grow hw; have B6 := (hid_alloc hw).1; replace HB := zT HB hb; (try replace HJ := HJ.below hb); (try replace HY := HY.below hb); (try replace HNM := HNM.below hb); (try replace B2 := zI B2 hb); (try replace B4 := zI B4 hb); (try replace c2_0 := cell_below hb c2_0); clear hb hw; have c6_5 : w5.cell? ⟨w4.heap.size, 5, none⟩ = some (.slice y.v.FA y.v.Fn y.v.Fc) := B6.cell 5)
        | ((with_reducible refine is_build ?_); refine wpl_build_at (pbl_kind 5) rfl _ rfl rfl ?_)
        | ((with_reducible refine is_alloc ?_); refine wpl_newbox 8 rfl rfl 25 rfl rfl (.tmp 25) rfl _ zeroV (leafJ 5 false 0 ⟨#[]⟩).cells rfl rfl info_value rfl (jv_one _) ?_; intro w7 hw; have hb := hid_grow hw; have B8 := (hid_alloc hw).1; have HY5 := Lib.hid HY; have HN5 := Lib.hid HNM; have B65 := Lib.hid B6; have HB5 := Lib.hid HB; have B45 := Lib.hid B4; have H57 := Lib.hid hb; clear HY HNM B6 hb hw B2 c2_0 HB B4))
      have h64 := HYZ.out
      obtain ⟨l1, l2, l3, l4, l5⟩ := jv_lens HY5.out
      obtain ⟨s1, s2, s3, s4⟩ := sz_parts y
      have LV := Lib.hid l2
      have LN := Lib.hid l3
      have hFn : y.v.Fn ≤ 1048576 := by omega
      have HZ7 := Lib.hid (show w5.heap.size < w7.heap.size from IBox.lt B8)
      have HZ5 := Lib.hid (show w4.heap.size < w5.heap.size from IBox.lt B65.out)
      clear h64 l1 l2 l3 l4 l5 s1 s2 s3 s4 c6_5
      go_loopw [9] (fun iv wr => ∃ (q : Nat) (A : Option Addr) (c : Nat) (M : List (ByteArray × JV)), iv = .int .i64 q ∧ q ≤ y.v.Fn ∧ Hid ((M.map fun p => (p.1, er p.2)) = ((y.ns.zip (erL y.vs)).take q).filter fun p => !hasN L p.1) ∧ Hid (M.length ≤ q) ∧ Hid (∀ p ∈ M, p.1.size ≤ reach ∧ IsJV w5 p.2 ∧ Off (fun q => q < w2.heap.size) p.2) ∧ PK w7.heap.size w5.heap.size 52 7 (#[.int .i64 5, .bool false, .int .i64 0, .string ⟨#[]⟩, .slice none 0 0, .slice A M.length c] : Array Value) (.slice A M.length c) M.length (fldL M) [] wr ∧ Below w5.heap.size w7 wr) (fun iv _ => y.v.Fn - (intOf iv).toNat)
      case atStart => exact ⟨0, none, 0, [], rfl, Nat.zero_le _, Lib.hid rfl, Lib.hid (Nat.le_refl _), Lib.hid (fun p hp => by cases hp), ⟨B8, ⟨rfl, .inl ⟨rfl, rfl⟩⟩, (fun y hy => by cases hy), ⟨HZ7.out, Nat.le_refl _⟩⟩, Below.refl _ _⟩
      case round =>
        obtain ⟨q, A, c, M, rfl, hq, HFI, HMQ, HEL, HL, hbq⟩ := hrel
        have HL0 : w5.heap.size < w7.heap.size := HZ7.out
        have H5r := Lib.hid (H57.out.trans hbq)
        by_cases hqF : q < y.v.Fn
        · obtain ⟨bl, off, nm, x, hla, hx, hn, n1, hrg, HX⟩ := jv_fld (HY5.out.below H5r.out) (show q < y.vs.length by have := LV.out; omega)
          obtain ⟨bl5, off5, nm5, x5, hla5, hx5, hn5, n15, _, HX5⟩ := jv_fld HY5.out (show q < y.vs.length by have := LV.out; omega)
          obtain rfl : x = x5 := by rw [hx] at hx5; injection hx5
          obtain rfl : nm = nm5 := by rw [hn] at hn5; injection hn5
          have hbl5 : bl < w5.heap.size := by
            rw [hla] at hla5
            injection hla5 with e
            injection e with e1
            rw [e1]; exact block_lt_of_cell n15
          have HEX := Lib.hid (show nm.size ≤ reach ∧ IsJV w5 x ∧ Off (fun q => q < w2.heap.size) x from ⟨jv_nm_le HY5.out hn, HX5, off_vs HOY.out hx⟩)
          have HZX : Hid ((y.ns.zip (erL y.vs))[q]? = some (nm, er x)) := Lib.hid (by rw [List.getElem?_zip_eq_some]; exact ⟨hn, by rw [erL_map, List.getElem?_map, hx]; rfl⟩)
          have HLA := Lib.hid hla
          have c6_5 : wr.cell? ⟨w4.heap.size, 5, none⟩ = some (.slice (some ⟨bl, off, none⟩) y.v.Fn y.v.Fc) := by
            rw [← hla]
            exact cell_below H5r.out (B65.out.cell 5)
          have HNr := Lib.hid (HN5.out.below H5r.out)
          have HSr := Lib.hid (show LSW w4.heap.size bl (off + q * 7) y.cells (fldA (nm, x)).toList wr from ⟨IBox.below B65.out H5r.out (IBox.lt B65.out), field_range n1 hrg⟩)
          have HSG : Hid (∀ k, k = w4.heap.size ∨ k = bl → k < w5.heap.size) := Lib.hid (fun k hk => by have := HZ5.out; omega)
          clear hla hla5 hx hx5 hn hn5 hrg HX HX5 n15 hbl5
          go_wp2
          go_loopw [10, 11] (fun av kv wk => ∃ (b : Bool) (k : Nat), av = .bool b ∧ kv = .int .i64 k ∧ k ≤ nn ∧ Hid (b = hasN (L.take k) nm) ∧ Below wr.heap.size wr wk) (fun _ kv _ => nn - (intOf kv).toNat)
          case atStart => exact ⟨false, 0, rfl, rfl, Nat.zero_le _, Lib.hid rfl, Below.refl _ _⟩
          case round =>
            obtain ⟨b0, k, rfl, rfl, hk, HHK, hbk⟩ := hrel
            have HBK := Lib.hid hbk
            by_cases hkq : k < nn
            · obtain ⟨bl2, off2, nk, hA2, hnk, n2, _⟩ := wnames_at (HNr.out.below hbk) (show k < L.length by have := HNN.out; omega)
              have HNK := Lib.hid hnk
              rw [Nat.mul_one] at n2
              subst hA2
              have c6k := cell_below hbk c6_5
              have n1k := cell_below hbk n1
              have hkq2 : (k : Int) < nn := by omega
              have hkb : 0 ≤ (k : Int) ∧ (k : Int) < nn := by omega
              have hqb : 0 ≤ (q : Int) ∧ (q : Int) < y.v.Fn := by omega
              clear hbk hnk
              cases b0
              · cases hnm : (nk.toList == nm.toList)
                · have HNQ := Lib.hid hnm
                  go_wp2
                  refine wp_region_QL (by kernel_rfl) (by kernel_rfl) ?_
                  repeat (refine QL.step (fun K hK => ?_); go_simp; first | (refine hK _ ?_; clear hK K) | (apply Exists.intro; refine ⟨fun _ => ?_, hK _ ?_⟩; clear hK K))
                  refine QL.nil ?_
                  intro _ hw'
                  obtain ⟨nq, hw''⟩ := hw'
                  subst hw''
                  generalize hw2 : World.drewN _ nq = w10
                  have hb := below_dq hw2
                  replace HBK := Lib.hid (HBK.out.trans (hb.mono HBK.out.size))
                  clear hw2 hb
                  go_wp2
                  go_roundw
                  case rel => exact ⟨false, k + 1, rfl, by go_num, hkq, Lib.hid (by rw [has_next HNK.out, ← HHK.out]; rw [HNQ.out]; rfl), HBK.out⟩
                  case measure => simp [intOf]; omega
                · have HNQ := Lib.hid hnm
                  go_wp2
                  refine wp_region_QL (by kernel_rfl) (by kernel_rfl) ?_
                  repeat (refine QL.step (fun K hK => ?_); go_simp; first | (refine hK _ ?_; clear hK K) | (apply Exists.intro; refine ⟨fun _ => ?_, hK _ ?_⟩; clear hK K))
                  refine QL.nil ?_
                  intro _ hw'
                  obtain ⟨nq, hw''⟩ := hw'
                  subst hw''
                  generalize hw2 : World.drewN _ nq = w10
                  have hb := below_dq hw2
                  replace HBK := Lib.hid (HBK.out.trans (hb.mono HBK.out.size))
                  clear hw2 hb
                  go_wp2
                  go_roundw
                  case rel => exact ⟨true, k + 1, rfl, by go_num, hkq, Lib.hid (by rw [has_next HNK.out, ← HHK.out]; rw [HNQ.out]; rfl), HBK.out⟩
                  case measure => simp [intOf]; omega
              · go_wp2
                refine wp_region_QL (by kernel_rfl) (by kernel_rfl) ?_
                repeat (refine QL.step (fun K hK => ?_); go_simp; first | (refine hK _ ?_; clear hK K) | (apply Exists.intro; refine ⟨fun _ => ?_, hK _ ?_⟩; clear hK K))
                refine QL.nil ?_
                intro _ hw'
                obtain ⟨nq, hw''⟩ := hw'
                subst hw''
                generalize hw2 : World.drewN _ nq = w10
                have hb := below_dq hw2
                replace HBK := Lib.hid (HBK.out.trans (hb.mono HBK.out.size))
                clear hw2 hb
                go_wp2
                go_roundw
                case rel => exact ⟨true, k + 1, rfl, by go_num, hkq, Lib.hid (by rw [has_next HNK.out, ← HHK.out]; rfl), HBK.out⟩
                case measure => simp [intOf]; omega
            · obtain rfl : k = nn := by omega
              have hkq2 : ¬ ((k : Nat) : Int) < k := by omega
              have HHN := Lib.hid (show hasN L nm = b0 by rw [HHK.out, List.take_of_length_le (by have := HNN.out; omega)])
              have HLs := HL.st.2
              replace HL := HL.below HBK.out
              replace hbq := hbq.trans (HBK.out.mono (Nat.le_trans (Nat.le_of_lt HL0) HLs))
              have HS0 : LSW w4.heap.size bl (off + q * 7) y.cells (fldA (nm, x)).toList wr := HSr.out.to (fun k hk => HBK.out.block k (HSr.out.lt hk))
              clear HBK HLs c6_5 n1 hkq
              cases b0
              · go_wp2
                refine wp_region_S (S := LSW w4.heap.size bl (off + q * 7) y.cells (fldA (nm, x)).toList) (by kernel_rfl) (fun wx hh => HS0.to (fun k _ => by rw [hh])) (fun wx hh hbb HS => ?_)
                have hb := hbb _ (Nat.le_refl _)
                replace hbq := hbq.trans (hb.mono (Nat.le_trans (Nat.le_of_lt HL0) HL.st.2))
                replace HL := HL.below hb
                clear hb hbb hh HS0
                refine TKC 0 55 rfl ?_
                try simp only [Act.put, zA, zB, zC]
                refine TKC 2 57 rfl ?_
                try simp only [Act.put, zA, zB, zC]
                refine TKB 3 58 ?_ rfl ?_ ?_
                rotate_left
                · (intro w hSw; (try dsimp only at hSw); have : w.cell? ⟨w4.heap.size, 5, none⟩ = some (.slice (some ⟨bl, off, none⟩) y.v.Fn y.v.Fc) := (by rw [← HLA.out]; exact hSw.1.cell 5); go_simp; try with_reducible rfl)
                try simp only [Act.put, zA, zB, zC]
                refine TKC 4 59 rfl ?_
                try simp only [Act.put, zA, zB, zC]
                refine TKC 5 60 rfl ?_
                try simp only [Act.put, zA, zB, zC]
                refine wpAnyH_take (i := 6) (oi := ⟨some 61, _, _, _, _, _⟩) (v := _) rfl (by kernel_rfl) (by kernel_rfl) (by kernel_rfl) (fun _ _ _ h => h) (yields_rangeS (by kernel_rfl) _ _ rfl _ _ rfl (fldA (nm, x)) _ (fun _ h => h.2) Tryz.underlying52 rfl info_field7) (by assumption) ?_
                try simp only [Act.put, zA, zB, zC]
                refine wpAnyH_ready (rs := [1, 7]) (by kernel_rfl) (by simp) ?_
                refine AllReadyH.cons (o := ⟨some 56, _, _, _, _, _⟩) rfl (fun K hK => ?_) ?_
                · have cg : _ = some (Value.slice A M.length c) := HL.box.cell 5
                  go_simp
                  clear cg
                  refine hK.out _ _ HS (fun hS2 => ?_)
                  clear hK K hS2
                  try simp only [Act.put, zA, zB, zC]
                  refine wpAnyH_ready (rs := [7]) (by kernel_rfl) (by simp) ?_
                  refine AllReadyH.cons (o := ⟨some 62, _, _, _, _, _⟩) rfl (fun K hK => ?_) AllReadyH.nil
                  simp only [Region.wanted, if_true]
                  refine op_slice_at 1 _ _ ie _ (by rw [hie3]; exact fld_fill (nm, x)) 23 52 _ rfl rfl rfl hie1 hie2 (by rw [hie3]; decide) (by rw [hie3]; decide) ?_
                  intro wa hw
                  have hb := hid_grow hw
                  have BN := (hid_alloc hw).1
                  replace HS := HS.to (fun k hk => hb.block k (HS.lt hk))
                  have HLs := HL.st.2
                  replace HL := HL.below hb
                  replace hbq := hbq.trans (hb.mono (Nat.le_trans (Nat.le_of_lt HL0) HLs))
                  clear hb hw HLs
                  refine hK.out _ _ HS (fun hS2 => ?_)
                  clear hK K hS2
                  try simp only [Act.put, zA, zB, zC]
                  refine wpAnyH_ready (rs := [8]) (by kernel_rfl) (by simp) ?_
                  refine AllReadyH.cons (o := ⟨some 63, _, _, _, _, _⟩) rfl (fun K hK => ?_) AllReadyH.nil
                  simp only [Region.wanted, if_true]
                  refine op_append_at _ _ 23 rfl w7.heap.size 52 ie _ 7 104 rfl hie1 hie2 hie3 hie4 rfl (by decide) (.slice A M.length c) M.length (fldL M) rfl HL.own _ _ _ _ BN (by rfl) rfl (fld_one _) (by have := HMQ.out; unfold maxLen; omega) (by have := HMQ.out; omega) HL.st.2 ?_
                  intro ga cap wb HO2 hgrow hat hlt
                  have hbe := Bes.grown (X := fun q => (Value.slice A M.length c).ownBlock = some q) hgrow (fun _ h => h)
                  have hlo : ∀ q, (Value.slice A M.length c).ownBlock = some q → w7.heap.size ≤ q := fun q e => (own_in HL.own e).1
                  replace HS := HS.to (fun k hk => hbe.block k (HS.lt hk) (fun e => Nat.lt_irrefl _ (Nat.lt_of_lt_of_le (HSG.out k hk) (Nat.le_trans (Nat.le_of_lt HL0) (hlo k e)))))
                  replace hbq := hbq.trans (Bes.below hbe (fun q e => Nat.le_trans (Nat.le_of_lt HL0) (hlo q e)) (Nat.le_trans (Nat.le_of_lt HL0) HL.st.2))
                  have HL2 := HL.bare HO2 hbe
                  clear hbe hlo hat hlt HO2 HL hgrow BN
                  refine hK.out _ _ HS (fun hS2 => ?_)
                  clear hK K hS2
                  try simp only [Act.put, zA, zB, zC]
                  refine TKC 9 64 rfl ?_
                  try simp only [Act.put, zA, zB, zC]
                  refine wpAnyH_ready (rs := [10]) (by kernel_rfl) (by simp) ?_
                  refine AllReadyH.cons (o := ⟨none, _, _, _, _, _⟩) rfl (fun K hK => ?_) AllReadyH.nil
                  simp only [Region.wanted, if_true]
                  refine op_store_cell 23 _ _ rfl w5.heap.size 5 rfl (.slice (some ⟨ga, 0, none⟩) (M.length + 1) cap) rfl _ _ HL2.box (show 5 < 6 by decide) psz_sf rfl ?_
                  intro wc hw
                  have hbe := Bes.row (X := fun q => q = w5.heap.size) hw rfl
                  replace HS := HS.to (fun k hk => hbe.block k (HS.lt hk) (fun e => by have h1 := HSG.out k hk; have e2 : k = w5.heap.size := e; omega))
                  replace hbq := hbq.trans (Bes.below hbe (fun q e => by have e2 : q = w5.heap.size := e; omega) (Nat.le_trans (Nat.le_of_lt HL0) HL2.st.2))
                  have HL3 := PK.put HL2 (arr2 := (#[.int .i64 5, .bool false, .int .i64 0, .string ⟨#[]⟩, .slice none 0 0, .slice (some ⟨ga, 0, none⟩) (M.length + 1) cap] : Array Value)) hw
                  clear hbe hw HL2
                  refine hK.out _ _ HS (fun hS2 => ?_)
                  clear hK K hS2
                  try simp only [Act.put, zA, zB, zC]
                  refine wpAnyH_done (by kernel_rfl) ?_ _
                  clear HS
                  go_wp2
                  go_roundw
                  case rel =>
                    refine ⟨q + 1, some ⟨ga, 0, none⟩, cap, M ++ [(nm, x)], by go_num, hqF, Lib.hid ?_, Lib.hid (by rw [List.length_append]; have := HMQ.out; simp; omega), Lib.hid (fun p hp => ?_), ?_, hbq⟩
                    · rw [List.map_append, HFI.out, take_next HZX.out, List.filter_append, List.filter_cons_of_pos (by rw [HHN.out]; rfl), List.filter_nil]
                      rfl
                    · rcases List.mem_append.1 hp with hp | hp
                      · exact HEL.out p hp
                      · obtain rfl : p = (nm, x) := by simpa using hp
                        exact HEX.out
                    · rw [fldL_app, fldL_one, List.length_append]
                      exact HL3
                  case measure => simp [intOf]; omega
                refine AllReadyH.cons (o := ⟨some 62, _, _, _, _, _⟩) rfl (fun K hK => ?_) AllReadyH.nil
                simp only [Region.wanted, if_true]
                refine op_slice_at 1 _ _ ie _ (by rw [hie3]; exact fld_fill (nm, x)) 23 52 _ rfl rfl rfl hie1 hie2 (by rw [hie3]; decide) (by rw [hie3]; decide) ?_
                intro wa hw
                have hb := hid_grow hw
                have BN := (hid_alloc hw).1
                replace HS := HS.to (fun k hk => hb.block k (HS.lt hk))
                have HLs := HL.st.2
                replace HL := HL.below hb
                replace hbq := hbq.trans (hb.mono (Nat.le_trans (Nat.le_of_lt HL0) HLs))
                clear hb hw HLs
                refine hK.out _ _ HS (fun hS2 => ?_)
                clear hK K hS2
                try simp only [Act.put, zA, zB, zC]
                refine wpAnyH_ready (rs := [1]) (by kernel_rfl) (by simp) ?_
                refine AllReadyH.cons (o := ⟨some 56, _, _, _, _, _⟩) rfl (fun K hK => ?_) AllReadyH.nil
                have cg : _ = some (Value.slice A M.length c) := HL.box.cell 5
                go_simp
                clear cg
                refine hK.out _ _ HS (fun hS2 => ?_)
                clear hK K hS2
                try simp only [Act.put, zA, zB, zC]
                refine wpAnyH_ready (rs := [8]) (by kernel_rfl) (by simp) ?_
                refine AllReadyH.cons (o := ⟨some 63, _, _, _, _, _⟩) rfl (fun K hK => ?_) AllReadyH.nil
                simp only [Region.wanted, if_true]
                refine op_append_at _ _ 23 rfl w7.heap.size 52 ie _ 7 104 rfl hie1 hie2 hie3 hie4 rfl (by decide) (.slice A M.length c) M.length (fldL M) rfl HL.own _ _ _ _ BN (by rfl) rfl (fld_one _) (by have := HMQ.out; unfold maxLen; omega) (by have := HMQ.out; omega) HL.st.2 ?_
                intro ga cap wb HO2 hgrow hat hlt
                have hbe := Bes.grown (X := fun q => (Value.slice A M.length c).ownBlock = some q) hgrow (fun _ h => h)
                have hlo : ∀ q, (Value.slice A M.length c).ownBlock = some q → w7.heap.size ≤ q := fun q e => (own_in HL.own e).1
                replace HS := HS.to (fun k hk => hbe.block k (HS.lt hk) (fun e => Nat.lt_irrefl _ (Nat.lt_of_lt_of_le (HSG.out k hk) (Nat.le_trans (Nat.le_of_lt HL0) (hlo k e)))))
                replace hbq := hbq.trans (Bes.below hbe (fun q e => Nat.le_trans (Nat.le_of_lt HL0) (hlo q e)) (Nat.le_trans (Nat.le_of_lt HL0) HL.st.2))
                have HL2 := HL.bare HO2 hbe
                clear hbe hlo hat hlt HO2 HL hgrow BN
                refine hK.out _ _ HS (fun hS2 => ?_)
                clear hK K hS2
                try simp only [Act.put, zA, zB, zC]
                refine TKC 9 64 rfl ?_
                try simp only [Act.put, zA, zB, zC]
                refine wpAnyH_ready (rs := [10]) (by kernel_rfl) (by simp) ?_
                refine AllReadyH.cons (o := ⟨none, _, _, _, _, _⟩) rfl (fun K hK => ?_) AllReadyH.nil
                simp only [Region.wanted, if_true]
                refine op_store_cell 23 _ _ rfl w5.heap.size 5 rfl (.slice (some ⟨ga, 0, none⟩) (M.length + 1) cap) rfl _ _ HL2.box (show 5 < 6 by decide) psz_sf rfl ?_
                intro wc hw
                have hbe := Bes.row (X := fun q => q = w5.heap.size) hw rfl
                replace HS := HS.to (fun k hk => hbe.block k (HS.lt hk) (fun e => by have h1 := HSG.out k hk; have e2 : k = w5.heap.size := e; omega))
                replace hbq := hbq.trans (Bes.below hbe (fun q e => by have e2 : q = w5.heap.size := e; omega) (Nat.le_trans (Nat.le_of_lt HL0) HL2.st.2))
                have HL3 := PK.put HL2 (arr2 := (#[.int .i64 5, .bool false, .int .i64 0, .string ⟨#[]⟩, .slice none 0 0, .slice (some ⟨ga, 0, none⟩) (M.length + 1) cap] : Array Value)) hw
                clear hbe hw HL2
                refine hK.out _ _ HS (fun hS2 => ?_)
                clear hK K hS2
                try simp only [Act.put, zA, zB, zC]
                refine wpAnyH_done (by kernel_rfl) ?_ _
                clear HS
                go_wp2
                go_roundw
                case rel =>
                  refine ⟨q + 1, some ⟨ga, 0, none⟩, cap, M ++ [(nm, x)], by go_num, hqF, Lib.hid ?_, Lib.hid (by rw [List.length_append]; have := HMQ.out; simp; omega), Lib.hid (fun p hp => ?_), ?_, hbq⟩
                  · rw [List.map_append, HFI.out, take_next HZX.out, List.filter_append, List.filter_cons_of_pos (by rw [HHN.out]; rfl), List.filter_nil]
                    rfl
                  · rcases List.mem_append.1 hp with hp | hp
                    · exact HEL.out p hp
                    · obtain rfl : p = (nm, x) := by simpa using hp
                      exact HEX.out
                  · rw [fldL_app, fldL_one, List.length_append]
                    exact HL3
                case measure => simp [intOf]; omega
              · clear HS0
                go_wp2
                go_roundw
                case rel =>
                  refine ⟨q + 1, A, c, M, by go_num, hqF, Lib.hid ?_, Lib.hid (by have := HMQ.out; omega), HEL, HL, hbq⟩
                  rw [HFI.out]
                  rw [take_next HZX.out, List.filter_append, List.filter_cons_of_neg (by rw [HHN.out]; decide), List.filter_nil, List.append_nil]
                case measure => simp [intOf]; omega
        · obtain rfl : q = y.v.Fn := by omega
          have hnl : ¬ ((y.v.Fn : Nat) : Int) < y.v.Fn := by omega
          have c6_5 : wr.cell? ⟨w4.heap.size, 5, none⟩ = some (.slice y.v.FA y.v.Fn y.v.Fc) := cell_below H5r.out (B65.out.cell 5)
          have B8 := HL.box
          obtain ⟨A', c', hv, HFJ⟩ := own_obj HL.own rfl (fun p hp => ⟨(HEL.out p hp).1, (HEL.out p hp).2.1.below H5r.out⟩) (by have := HMQ.out; unfold reach; omega)
          injection hv with e1 e2 e3
          subst e1 e3
          have HFO : Hid (Off (fun q => q = w1.heap.size) (objJ A c M)) := Lib.hid (by
            unfold objJ Off
            refine ⟨fun h => absurd rfl h, fun _ a ha e => ?_, by unfold OffL; exact True.intro, offL_of fun x hx => ?_⟩
            · have h1 := own_at HL.own a ha
              have e2 : a.block = w1.heap.size := e
              have h2 := IBox.lt B45.out
              omega
            · obtain ⟨p, hp, rfl⟩ := List.mem_map.1 hx
              exact Off.mono (fun q e => by have e2 : q = w1.heap.size := e; show q < w2.heap.size; omega) (HEL.out p hp).2.2)
          have HB := HB5.out.trans (H5r.out.mono HB5.out.size)
          have B4 := IBox.below B45.out H5r.out (IBox.lt B45.out)
          have HTR := Lib.hid (ro_tree (A := A) (c := c) HKD.out HEY.out (HFI.out.trans (by rw [List.take_of_length_le (by rw [List.length_zip, erL_len]; have := LV.out; omega)])))
          clear HL hbq
          go_wp2_with (first
            | ((with_reducible refine is_load ?_); refine wpl_load_box rfl 25 (.tmp 8) rfl _ rfl _ (objJ A c M).cells _ B8 Tryz.underlying25 rfl info_value ?_)
            | ((with_reducible refine is_store ?_); refine wpl_store_at rfl 25 (.tmp 4) (.tmp 65) rfl _ (objJ A c M).cells rfl rfl _ _ B4 info_value rfl (jv_one _) ?_; intro w9 hw; have hq := hid_row_below hw L01 HB; replace HB := hq.1; replace HFJ := IsJV.bes (Bes.row (X := fun q => q = w1.heap.size) hw rfl) HFJ HFO.out; replace B4 := hid_row hw B4; clear hq hw))
          exact bodyPost_ret (results_ro rfl _ _ w1.heap.size (objJ A c M).cells (.int .i64 0) rfl rfl B4 info_value) rfl (RoV.ok HC.out HB HFJ HTR.out)
    · have HS := Lib.hid hs
      have HC := Lib.hid (show witC j = c by unfold witC; rw [if_pos HKD.out, hs])
      have hcb : (c == 0) = false := by simpa using hc
      clear hs
      go_enter Tryz.func16, Tryz.ntmps16
      go_wp2_with (first
        | (refine wpl_box_at rfl 25 (.tmp 0) rfl _ rfl ?_; intro w1 hw; have hb := hid_grow hw; have B2 := (hid_alloc hw).1; replace HB := zT HB hb; (try replace HJ := HJ.below hb); (try replace HY := HY.below hb); (try replace HNM := HNM.below hb); (try replace B4 := zI B4 hb); (try replace B6 := zI B6 hb); (try replace c6_5 := cell_below hb c6_5); clear hb hw; have c2_0 : w1.cell? ⟨_, 0, none⟩ = some (.int .i64 5) := (B2.cell 0).trans (by rw [← HKD.out]; rfl))
        | ((with_reducible refine is_alloc ?_); refine wpl_alloc_at (o := ⟨some 4, _, _, _, _, _⟩) rfl 25 rfl _ zeroV ?_; intro w2 hw; have hb := hid_grow hw; have B4 := hid_alloc0 hw; have L01 := HB.size; replace HB := zT HB hb; (try replace HJ := HJ.below hb); (try replace HY := HY.below hb); (try replace HNM := HNM.below hb); (try replace B2 := zI B2 hb); (try replace B6 := zI B6 hb); (try replace c2_0 := cell_below hb c2_0); (try replace c6_5 := cell_below hb c6_5); clear hb hw; have L12 := IBox.lt B4)
        | ((with_reducible refine is_load ?_); refine wpl_load_box rfl 25 (.tmp 2) rfl _ rfl _ _ _ B2 Tryz.underlying25 rfl info_value ?_))
      refine (rnorm_any HJ HZ.out).mono ?_
      intro e w4 hnm
      obtain ⟨he, hb⟩ := RnV.not HS.out hc hnm
      subst he
      clear hnm
      replace HB := zT HB hb
      (try replace HJ := HJ.below hb)
      (try replace HY := HY.below hb)
      (try replace HNM := HNM.below hb)
      (try replace B2 := zI B2 hb)
      (try replace B4 := zI B4 hb)
      (try replace B6 := zI B6 hb)
      (try replace c2_0 := cell_below hb c2_0)
      (try replace c6_5 := cell_below hb c6_5)
      clear hb
      go_wp2_with (first
        | ((with_reducible refine is_alloc ?_); refine wpl_newbox 6 rfl rfl 25 rfl rfl (.tmp 19) rfl _ zeroV JV.zero.cells rfl rfl info_value rfl (jv_one _) ?_; intro w5 hw; have hb := hid_grow hw; have B6 := (hid_alloc hw).1; replace HB := zT HB hb; (try replace HJ := HJ.below hb); (try replace HY := HY.below hb); (try replace HNM := HNM.below hb); (try replace B2 := zI B2 hb); (try replace B4 := zI B4 hb); (try replace c2_0 := cell_below hb c2_0); clear hb hw)
        | ((with_reducible refine is_build ?_); refine wpl_build_at zero_build rfl _ rfl rfl ?_)
        | ((with_reducible refine is_store ?_); refine wpl_store_at rfl 25 (.tmp 4) (.tmp 23) rfl _ JV.zero.cells rfl rfl _ _ B4 info_value rfl (jv_one _) ?_; intro w9 hw; have hq := hid_row_below hw L01 HB; replace HB := hq.1; replace B4 := hid_row hw B4; clear hq hw))
      exact bodyPost_ret (results_ro rfl _ _ w1.heap.size JV.zero.cells (.int .i64 c) rfl rfl B4 info_value) rfl (RoV.bad HC.out hc HB)
  · have hkb : (j.v.kind == 5) = false := by simpa using hk5
    have HC := Lib.hid (show witC j = 8 by unfold witC; rw [if_neg hk5])
    clear hk5
    go_enter Tryz.func16, Tryz.ntmps16
    go_wp2_with (first
      | (refine wpl_box_at rfl 25 (.tmp 0) rfl _ rfl ?_; intro w1 hw; have hb := hid_grow hw; have B2 := (hid_alloc hw).1; replace HB := zT HB hb; (try replace HJ := HJ.below hb); (try replace HY := HY.below hb); (try replace HNM := HNM.below hb); (try replace B4 := zI B4 hb); (try replace B6 := zI B6 hb); (try replace c6_5 := cell_below hb c6_5); clear hb hw; have c2_0 : w1.cell? ⟨_, 0, none⟩ = some (.int .i64 j.v.kind) := (B2.cell 0).trans (by skip; rfl))
      | ((with_reducible refine is_alloc ?_); refine wpl_alloc_at (o := ⟨some 4, _, _, _, _, _⟩) rfl 25 rfl _ zeroV ?_; intro w2 hw; have hb := hid_grow hw; have B4 := hid_alloc0 hw; have L01 := HB.size; replace HB := zT HB hb; (try replace HJ := HJ.below hb); (try replace HY := HY.below hb); (try replace HNM := HNM.below hb); (try replace B2 := zI B2 hb); (try replace B6 := zI B6 hb); (try replace c2_0 := cell_below hb c2_0); (try replace c6_5 := cell_below hb c6_5); clear hb hw; have L12 := IBox.lt B4)
      | ((with_reducible refine is_build ?_); refine wpl_build_at zero_build rfl _ rfl rfl ?_)
      | ((with_reducible refine is_store ?_); refine wpl_store_at rfl 25 (.tmp 4) (.tmp 15) rfl _ JV.zero.cells rfl rfl _ _ B4 info_value rfl (jv_one _) ?_; intro w9 hw; have hq := hid_row_below hw L01 HB; replace HB := hq.1; replace B4 := hid_row hw B4; clear hq hw))
    exact bodyPost_ret (results_ro rfl _ _ w1.heap.size JV.zero.cells (.int .i64 8) rfl rfl B4 info_value) rfl (RoV.bad HC.out (by decide) HB)
end Go.Proofs.YtnjhmnolngdfaaaGreatDoor
