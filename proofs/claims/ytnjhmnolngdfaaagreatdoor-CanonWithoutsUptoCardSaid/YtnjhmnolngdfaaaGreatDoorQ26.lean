/- Layer 3: the one form of a value, by the document (coveyref03.Normed): a list. -/
import Derived.Test.YtnjhmnolngdfaaaGreatDoorQ25
import Derived.Test.YtnjhmnolngdfaaaGreatDoorQZip
namespace Go.Proofs.YtnjhmnolngdfaaaGreatDoor
open Go.RowKit Go.PlainAid
set_option linter.unusedVariables false
set_option linter.unusedSimpArgs false
theorem nk_round {j x k : JV} {acc : List JV} {b1 g ga cap : Nat} {w3 w : World} (h : PK b1 g 25 6 (#[.int .i64 4, .bool false, .int .i64 0, .string ⟨#[]⟩, .slice (some ⟨ga, 0, none⟩) (acc.length + 1) cap, .slice none 0 0] : Array Value) (.slice (some ⟨ga, 0, none⟩) (acc.length + 1) cap) (acc.length + 1) (valL acc ++ k.cells.toList) (acc ++ [k]) w)
    (hac : acc.map er = ((erL j.l).map nrmT).take acc.length) (hk : er k = nrmT (er x)) (hx : j.l[acc.length]? = some x) (hl : acc.length < j.v.Ln) (hb : Below g w3 w) :
    (∃ (q : Nat) (A : Option Addr) (c : Nat) (acc_1 : List JV), Value.int .i64 ((acc.length : Int) + 1) = .int .i64 q ∧ q ≤ j.v.Ln ∧ acc_1.length = q ∧ Hid (acc_1.map er = ((erL j.l).map nrmT).take q) ∧ PK b1 g 25 6 (#[.int .i64 4, .bool false, .int .i64 0, .string ⟨#[]⟩, .slice A acc_1.length c, .slice none 0 0] : Array Value) (.slice A acc_1.length c) acc_1.length (valL acc_1) acc_1 w ∧ Below g w3 w) ∧
      j.v.Ln - (intOf (Value.int .i64 ((acc.length : Int) + 1))).toNat < j.v.Ln - (intOf (Value.int .i64 (acc.length : Int))).toNat := by
  refine ⟨⟨acc.length + 1, some ⟨ga, 0, none⟩, cap, acc ++ [k], by simp, hl, by simp, Lib.hid ?_, ?_, hb⟩, ?_⟩
  · rw [take_next (x := er k) (by rw [erL_map, hk]; simp [hx]), ← hac, List.map_append]
    rfl
  · rw [valL_app, valL_one, List.length_append]
    exact h
  · show j.v.Ln - ((acc.length : Int) + 1).toNat < j.v.Ln - ((acc.length : Int)).toNat
    omega
set_option maxRecDepth 100000 in
set_option maxHeartbeats 8000000 in
theorem nd_list {j : JV} {w : World} (HJ : IsJV w j) (hs : SzT (er j) ≤ 1048576) (hse : SndE (er j)) (IH : Hid (∀ (x : JV) (w : World), SizeOf.sizeOf x < SizeOf.sizeOf j → IsJV w x → SzT (er x) ≤ 1048576 → SndE (er x) → Calls Tryz.prog 29 #[.agg x.cells] w (NdV x w))) (hk4 : j.v.kind = 4) : Calls Tryz.prog 29 #[.agg j.cells] w (NdV j w) := by
    obtain ⟨l1, l2, l3, l4, l5⟩ := jv_lens HJ
    obtain ⟨s1, s2, s3, s4⟩ := sz_parts j
    have hI : I64 j.v.kind ∧ I64 j.v.i ∧ j.v.t.size ≤ reach := by obtain ⟨v, _, _, _⟩ := j; unfold IsJV at HJ; exact ⟨HJ.1.1, HJ.1.2.1, HJ.1.2.2.1⟩
    have HI := Lib.hid hI
    have HP := Lib.hid (nrm_eq j)
    have LL := Lib.hid l1
    have LV := Lib.hid l2
    have LN := Lib.hid l3
    have S3 := Lib.hid s3
    have S4 := Lib.hid s4
    have HSS := Lib.hid hs
    have hLn : j.v.Ln ≤ 1048576 := by omega
    have hFn : j.v.Fn ≤ 1048576 := by omega
    clear l1 l2 l3 hI s1 s2 s3 s4 hs
    have HSE := Lib.hid hse
    clear hse
    have HB := Below.refl w.heap.size w
    have hk1 : j.v.kind ≠ 1 := by omega
    have hk2 : j.v.kind ≠ 2 := by omega
    have hk3 : j.v.kind ≠ 3 := by omega
    have HK : Hid (nrmT (er j) = .mk 4 false 0 ⟨#[]⟩ ((erL j.l).map nrmT) [] []) := Lib.hid (by rw [HP.out, if_neg hk1, if_neg hk2, if_neg hk3, if_pos hk4])
    have HKD := Lib.hid hk4
    have HJ0 := HJ
    clear hk1 hk2 hk3 hk4
    obtain ⟨ie, z, hie1, hie2, hie3, hie4, hz⟩ := val_slice0
    subst hz
    go_enter Tryz.func29, Tryz.ntmps29
    go_wp2_with (first
      | (refine wpl_newbox 3 rfl rfl 25 rfl rfl (.tmp 10) rfl _ zeroV (leafJ 4 false 0 ⟨#[]⟩).cells rfl rfl info_value rfl (jv_one _) ?_; intro w3 hw; have hb := hid_grow hw; have B3 := (hid_alloc hw).1; have hz3 := Lib.hid (hid_alloc hw).2.1; replace B1 := zI B1 hb; replace B2 := zI B2 hb; replace HB := zT HB hb; replace HJ := HJ.below hb; clear hb hw; clear c1_0; have c1_0 : w3.cell? ⟨_, 0, none⟩ = some (.int .i64 4) := (B1.cell 0).trans (by rw [← HKD.out]; rfl); have c1_1 : w3.cell? ⟨_, 1, none⟩ = some (.bool j.v.b) := B1.cell 1; have c1_2 : w3.cell? ⟨_, 2, none⟩ = some (.int .i64 j.v.i) := B1.cell 2; have c1_3 : w3.cell? ⟨_, 3, none⟩ = some (.string j.v.t) := B1.cell 3; have c1_4 : w3.cell? ⟨_, 4, none⟩ = some (.slice j.v.LA j.v.Ln j.v.Lc) := B1.cell 4; have c1_5 : w3.cell? ⟨_, 5, none⟩ = some (.slice j.v.FA j.v.Fn j.v.Fc) := B1.cell 5; have hzz : w1.heap.size = w.heap.size + 1 ∧ w2.heap.size = w.heap.size + 2 ∧ w3.heap.size = w.heap.size + 3 := (by have := hz1.out; have := hz2.out; have := hz3.out; omega); have HZ := Lib.hid hzz; clear hzz hz1 hz2 hz3)
      | (refine wpl_box_at rfl 25 (.tmp 0) rfl _ rfl ?_; intro w1 hw; have hb := hid_grow hw; have B1 := (hid_alloc hw).1; have hz1 := Lib.hid (hid_alloc hw).2.1; replace HB := zT HB hb; replace HJ := HJ.below hb; clear hb hw)
      | ((with_reducible refine is_alloc ?_); refine wpl_alloc_at rfl 25 rfl _ zeroV ?_; intro w2 hw; have hb := hid_grow hw; have B2 := hid_alloc0 hw; have hz2 := Lib.hid (hid_alloc hw).2.1; replace B1 := zI B1 hb; replace HB := zT HB hb; replace HJ := HJ.below hb; clear hb hw; have c1_0 : w2.cell? ⟨_, 0, none⟩ = some (.int .i64 4) := (B1.cell 0).trans (by rw [← HKD.out]; rfl))
      | ((with_reducible refine is_build ?_); refine wpl_build_at (vals := _) (pbl_kind 4) rfl _ rfl rfl ?_))
    clear c1_0 c1_1 c1_2 c1_3
    go_loopw [4] (fun iv wr => ∃ (q : Nat) (A : Option Addr) (c : Nat) (acc : List JV), iv = .int .i64 q ∧ q ≤ j.v.Ln ∧ acc.length = q ∧ Hid (acc.map er = ((erL j.l).map nrmT).take q) ∧ PK w3.heap.size w2.heap.size 25 6 (#[.int .i64 4, .bool false, .int .i64 0, .string ⟨#[]⟩, .slice A acc.length c, .slice none 0 0] : Array Value) (.slice A acc.length c) acc.length (valL acc) acc wr ∧ Below w2.heap.size w3 wr) (fun iv _ => j.v.Ln - (intOf iv).toNat)
    case atStart => exact ⟨0, none, 0, [], rfl, Nat.zero_le _, rfl, Lib.hid rfl, ⟨B3, ⟨rfl, .inl ⟨rfl, rfl⟩⟩, (fun y hy => by cases hy), ⟨Nat.lt_of_lt_of_le (by have := HZ.out; omega) (Nat.le_refl _), Nat.le_refl _⟩⟩, Below.refl _ _⟩
    case round =>
      obtain ⟨_, A, c, acc, rfl, hq, rfl, HAC, HL, hbq⟩ := hrel
      have HL0 : w2.heap.size < w3.heap.size := by have := HZ.out; omega
      have c1_4 : wr.cell? ⟨_, 4, none⟩ = some (.slice j.v.LA j.v.Ln j.v.Lc) := (IBox.below B1 hbq (by have := HZ.out; omega)).cell 4
      by_cases hqL : acc.length < j.v.Ln
      · obtain ⟨bl, off, x, hla, hx, hrg, HX⟩ := jv_elem HJ0 (show acc.length < j.l.length from LL.out ▸ hqL)
        have HXS := Lib.hid (size_l hx)
        have HXZ := Lib.hid (Nat.le_trans (S3.out _ x hx) HSS.out)
        have hblw : bl < w.heap.size := block_lt_of_cell (hrg 0 (.int .i64 x.v.kind) rfl)
        have HB3 : Below w.heap.size w wr := HB.trans (hbq.mono (by have := HZ.out; omega))
        have HS0 : LS w.heap.size bl (off + acc.length * 6) j.cells x.cells.toList wr := ⟨IBox.below B1 hbq (by have := HZ.out; omega), range_below HB3 hrg⟩
        have HSG : Hid (∀ k, k = w.heap.size ∨ k = bl → k < w3.heap.size) := Lib.hid (fun k hk => by have := HZ.out; omega)
        have HSL : Hid (∀ k, k = w.heap.size ∨ k = bl → k < w2.heap.size) := Lib.hid (fun k hk => by have := HZ.out; omega)
        have HX1 := Lib.hid hx
        have HXE := Lib.hid (snd_list HKD.out HSE.out hx)
        have HLA := Lib.hid hla
        clear hx hla hrg HB3 hblw
        go_wp2
        refine wp_region_S (S := LS w.heap.size bl (off + acc.length * 6) j.cells x.cells.toList) (by kernel_rfl) (fun w5 hh => HS0.to (fun k _ => by rw [hh])) (fun w5 hh hbb HS => ?_)
        have hb := hbb _ (Nat.le_refl _)
        replace hbq := hbq.trans (hb.mono (Nat.le_trans (Nat.le_of_lt HL0) HL.st.2))
        replace HL := HL.below hb
        clear hb hbb hh HS0 c1_4
        refine TKC 0 37 rfl ?_
        try simp only [Act.put, zA, zB, zC]
        refine TKC 2 39 rfl ?_
        try simp only [Act.put, zA, zB, zC]
        refine TKB 3 40 ?_ rfl ?_ ?_
        rotate_left
        · (intro w hSw; (try dsimp only at hSw); have : w.cell? ⟨_, 4, none⟩ = some (.slice (some ⟨bl, off, none⟩) j.v.Ln j.v.Lc) := (by rw [← HLA.out]; exact hSw.1.cell 4); go_simp; try with_reducible rfl)
        try simp only [Act.put, zA, zB, zC]
        refine TKC 4 41 rfl ?_
        try simp only [Act.put, zA, zB, zC]
        refine TKC 5 42 rfl ?_
        try simp only [Act.put, zA, zB, zC]
        refine wpAnyH_take (i := 6) (oi := ⟨some 43, _, _, _, _, _⟩) (v := _) rfl (by kernel_rfl) (by kernel_rfl) (by kernel_rfl) (fun _ _ _ h => h) (yields_rangeS (by kernel_rfl) _ _ rfl _ _ rfl _ _ (fun _ h => h.2) Tryz.underlying25 rfl info_value) (by assumption) ?_
        try simp only [Act.put, zA, zB, zC]
        refine wpAnyH_ready (rs := [1, 7]) (by kernel_rfl) (by simp) ?_
        refine AllReadyH.cons (o := ⟨some 38, _, _, _, _, _⟩) rfl (fun K hK => ?_) ?_
        · have cg : _ = some (Value.slice A acc.length c) := HL.box.cell 4
          go_simp
          clear cg
          refine hK.out _ _ HS (fun hS2 => ?_)
          clear hK K hS2
          try simp only [Act.put, zA, zB, zC]
          refine wpAnyH_ready (rs := [7]) (by kernel_rfl) (by simp) ?_
          refine AllReadyH.cons (o := ⟨some 44, _, _, _, _, _⟩) rfl (fun K hK => ?_) AllReadyH.nil
          go_simp
          (go_at_call 29; (with_reducible refine (IH.out x _ HXS.out (IsJV.below (HB.trans (hbq.mono (by have := HZ.out; omega))) HX) HXZ.out HXE.out).mono ?_); rintro e w9 ⟨k, rfl, HK1, HK2, HK3, hb⟩)
          have HLs := HL.st.2
          have HLo := HL.own
          replace HS := HS.to (fun k hk => hb.block k (HS.lt hk))
          replace HL := HL.below hb
          replace hbq := hbq.trans (hb.mono (Nat.le_trans (Nat.le_of_lt HL0) HLs))
          clear hb
          have HKO : Off (fun q => q < w3.heap.size ∨ (Value.slice A acc.length c).ownBlock = some q) k := Off.mono (fun q e => e.elim (fun h => Nat.lt_of_lt_of_le h HLs) (fun h => (own_in HLo h).2)) HK3
          clear HLs HLo HK3
          refine hK.out _ _ HS (fun hS2 => ?_)
          clear hK K hS2
          try simp only [Act.put, zA, zB, zC]
          refine wpAnyH_ready (rs := [8]) (by kernel_rfl) (by simp) ?_
          refine AllReadyH.cons (o := ⟨some 45, _, _, _, _, _⟩) rfl (fun K hK => ?_) AllReadyH.nil
          simp only [Region.wanted, if_true]
          refine op_slice_at 1 _ _ ie _ (by rw [hie3]; exact pval_fill k) 22 25 _ rfl rfl rfl hie1 hie2 (by rw [hie3]; decide) (by rw [hie3]; decide) ?_
          intro w10 hw
          have hb := hid_grow hw
          have BN := (hid_alloc hw).1
          replace HK1 := IsJV.below hb HK1
          have HLs := HL.st.2
          have HLo := HL.own
          replace HS := HS.to (fun k hk => hb.block k (HS.lt hk))
          replace HL := HL.below hb
          replace hbq := hbq.trans (hb.mono (Nat.le_trans (Nat.le_of_lt HL0) HLs))
          clear hb
          clear HLs HLo hw
          refine hK.out _ _ HS (fun hS2 => ?_)
          clear hK K hS2
          try simp only [Act.put, zA, zB, zC]
          refine wpAnyH_ready (rs := [9]) (by kernel_rfl) (by simp) ?_
          refine AllReadyH.cons (o := ⟨some 46, _, _, _, _, _⟩) rfl (fun K hK => ?_) AllReadyH.nil
          simp only [Region.wanted, if_true]
          refine op_append_at _ _ 22 rfl w3.heap.size 25 ie _ 6 88 rfl hie1 hie2 hie3 hie4 rfl (by decide) (.slice A acc.length c) acc.length (valL acc) rfl HL.own _ _ _ _ BN (by rfl) rfl (jv_one _) (by unfold maxLen; omega) (by omega) HL.st.2 ?_
          intro ga cap w11 HO2 hgrow hat hlt
          have hbe := Bes.grown (X := fun q => (Value.slice A acc.length c).ownBlock = some q) hgrow (fun _ h => h)
          have hlo : ∀ q, (Value.slice A acc.length c).ownBlock = some q → w3.heap.size ≤ q := fun q e => (own_in HL.own e).1
          replace HS := HS.to (fun k hk => hbe.block k (HS.lt hk) (fun e => Nat.lt_irrefl _ (Nat.lt_of_lt_of_le (HSG.out k hk) (hlo k e))))
          replace hbq := hbq.trans (Bes.below hbe (fun q e => Nat.le_trans (Nat.le_of_lt HL0) (hlo q e)) (Nat.le_trans (Nat.le_of_lt HL0) HL.st.2))
          have HL2 := HL.more HO2 hbe (hat.elim (fun h => .inl h.symm) (fun h => .inr (congrArg some h))) HK1 HKO
          clear hbe hlo hat hlt HO2 HL hgrow BN
          refine hK.out _ _ HS (fun hS2 => ?_)
          clear hK K hS2
          try simp only [Act.put, zA, zB, zC]
          refine TKC 10 47 rfl ?_
          try simp only [Act.put, zA, zB, zC]
          refine wpAnyH_ready (rs := [11]) (by kernel_rfl) (by simp) ?_
          refine AllReadyH.cons (o := ⟨none, _, _, _, _, _⟩) rfl (fun K hK => ?_) AllReadyH.nil
          simp only [Region.wanted, if_true]
          refine op_store_cell 22 _ _ rfl w2.heap.size 4 rfl (.slice (some ⟨ga, 0, none⟩) (acc.length + 1) cap) rfl _ _ HL2.box (show 4 < 6 by decide) psz_sv rfl ?_
          intro w12 hw
          have hbe := Bes.row (X := fun q => q = w2.heap.size) hw rfl
          replace HS := HS.to (fun k hk => hbe.block k (HS.lt hk) (fun e => by have h1 := HSL.out k hk; have e2 : k = w2.heap.size := e; omega))
          replace hbq := hbq.trans (Bes.below hbe (fun q e => by have e2 : q = w2.heap.size := e; omega) (Nat.le_trans (Nat.le_of_lt HL0) HL2.st.2))
          have HL3 := PK.put HL2 (arr2 := #[.int .i64 4, .bool false, .int .i64 0, .string ⟨#[]⟩, .slice (some ⟨ga, 0, none⟩) (acc.length + 1) cap, .slice none 0 0]) hw
          clear hbe hw HL2
          refine hK.out _ _ HS (fun hS2 => ?_)
          clear hK K hS2
          try simp only [Act.put, zA, zB, zC]
          refine wpAnyH_done (by kernel_rfl) ?_ _
          clear HS
          go_wp2
          exact nk_round HL3 HAC.out HK2 HX1.out hqL hbq
        refine AllReadyH.cons (o := ⟨some 44, _, _, _, _, _⟩) rfl (fun K hK => ?_) AllReadyH.nil
        go_simp
        (go_at_call 29; (with_reducible refine (IH.out x _ HXS.out (IsJV.below (HB.trans (hbq.mono (by have := HZ.out; omega))) HX) HXZ.out HXE.out).mono ?_); rintro e w9 ⟨k, rfl, HK1, HK2, HK3, hb⟩)
        have HLs := HL.st.2
        have HLo := HL.own
        replace HS := HS.to (fun k hk => hb.block k (HS.lt hk))
        replace HL := HL.below hb
        replace hbq := hbq.trans (hb.mono (Nat.le_trans (Nat.le_of_lt HL0) HLs))
        clear hb
        have HKO : Off (fun q => q < w3.heap.size ∨ (Value.slice A acc.length c).ownBlock = some q) k := Off.mono (fun q e => e.elim (fun h => Nat.lt_of_lt_of_le h HLs) (fun h => (own_in HLo h).2)) HK3
        clear HLs HLo HK3
        refine hK.out _ _ HS (fun hS2 => ?_)
        clear hK K hS2
        try simp only [Act.put, zA, zB, zC]
        refine wpAnyH_ready (rs := [1, 8]) (by kernel_rfl) (by simp) ?_
        refine AllReadyH.cons (o := ⟨some 38, _, _, _, _, _⟩) rfl (fun K hK => ?_) ?_
        · have cg : _ = some (Value.slice A acc.length c) := HL.box.cell 4
          go_simp
          clear cg
          refine hK.out _ _ HS (fun hS2 => ?_)
          clear hK K hS2
          try simp only [Act.put, zA, zB, zC]
          refine wpAnyH_ready (rs := [8]) (by kernel_rfl) (by simp) ?_
          refine AllReadyH.cons (o := ⟨some 45, _, _, _, _, _⟩) rfl (fun K hK => ?_) AllReadyH.nil
          simp only [Region.wanted, if_true]
          refine op_slice_at 1 _ _ ie _ (by rw [hie3]; exact pval_fill k) 22 25 _ rfl rfl rfl hie1 hie2 (by rw [hie3]; decide) (by rw [hie3]; decide) ?_
          intro w10 hw
          have hb := hid_grow hw
          have BN := (hid_alloc hw).1
          replace HK1 := IsJV.below hb HK1
          have HLs := HL.st.2
          have HLo := HL.own
          replace HS := HS.to (fun k hk => hb.block k (HS.lt hk))
          replace HL := HL.below hb
          replace hbq := hbq.trans (hb.mono (Nat.le_trans (Nat.le_of_lt HL0) HLs))
          clear hb
          clear HLs HLo hw
          refine hK.out _ _ HS (fun hS2 => ?_)
          clear hK K hS2
          try simp only [Act.put, zA, zB, zC]
          refine wpAnyH_ready (rs := [9]) (by kernel_rfl) (by simp) ?_
          refine AllReadyH.cons (o := ⟨some 46, _, _, _, _, _⟩) rfl (fun K hK => ?_) AllReadyH.nil
          simp only [Region.wanted, if_true]
          refine op_append_at _ _ 22 rfl w3.heap.size 25 ie _ 6 88 rfl hie1 hie2 hie3 hie4 rfl (by decide) (.slice A acc.length c) acc.length (valL acc) rfl HL.own _ _ _ _ BN (by rfl) rfl (jv_one _) (by unfold maxLen; omega) (by omega) HL.st.2 ?_
          intro ga cap w11 HO2 hgrow hat hlt
          have hbe := Bes.grown (X := fun q => (Value.slice A acc.length c).ownBlock = some q) hgrow (fun _ h => h)
          have hlo : ∀ q, (Value.slice A acc.length c).ownBlock = some q → w3.heap.size ≤ q := fun q e => (own_in HL.own e).1
          replace HS := HS.to (fun k hk => hbe.block k (HS.lt hk) (fun e => Nat.lt_irrefl _ (Nat.lt_of_lt_of_le (HSG.out k hk) (hlo k e))))
          replace hbq := hbq.trans (Bes.below hbe (fun q e => Nat.le_trans (Nat.le_of_lt HL0) (hlo q e)) (Nat.le_trans (Nat.le_of_lt HL0) HL.st.2))
          have HL2 := HL.more HO2 hbe (hat.elim (fun h => .inl h.symm) (fun h => .inr (congrArg some h))) HK1 HKO
          clear hbe hlo hat hlt HO2 HL hgrow BN
          refine hK.out _ _ HS (fun hS2 => ?_)
          clear hK K hS2
          try simp only [Act.put, zA, zB, zC]
          refine TKC 10 47 rfl ?_
          try simp only [Act.put, zA, zB, zC]
          refine wpAnyH_ready (rs := [11]) (by kernel_rfl) (by simp) ?_
          refine AllReadyH.cons (o := ⟨none, _, _, _, _, _⟩) rfl (fun K hK => ?_) AllReadyH.nil
          simp only [Region.wanted, if_true]
          refine op_store_cell 22 _ _ rfl w2.heap.size 4 rfl (.slice (some ⟨ga, 0, none⟩) (acc.length + 1) cap) rfl _ _ HL2.box (show 4 < 6 by decide) psz_sv rfl ?_
          intro w12 hw
          have hbe := Bes.row (X := fun q => q = w2.heap.size) hw rfl
          replace HS := HS.to (fun k hk => hbe.block k (HS.lt hk) (fun e => by have h1 := HSL.out k hk; have e2 : k = w2.heap.size := e; omega))
          replace hbq := hbq.trans (Bes.below hbe (fun q e => by have e2 : q = w2.heap.size := e; omega) (Nat.le_trans (Nat.le_of_lt HL0) HL2.st.2))
          have HL3 := PK.put HL2 (arr2 := #[.int .i64 4, .bool false, .int .i64 0, .string ⟨#[]⟩, .slice (some ⟨ga, 0, none⟩) (acc.length + 1) cap, .slice none 0 0]) hw
          clear hbe hw HL2
          refine hK.out _ _ HS (fun hS2 => ?_)
          clear hK K hS2
          try simp only [Act.put, zA, zB, zC]
          refine wpAnyH_done (by kernel_rfl) ?_ _
          clear HS
          go_wp2
          exact nk_round HL3 HAC.out HK2 HX1.out hqL hbq
        refine AllReadyH.cons (o := ⟨some 45, _, _, _, _, _⟩) rfl (fun K hK => ?_) AllReadyH.nil
        simp only [Region.wanted, if_true]
        refine op_slice_at 1 _ _ ie _ (by rw [hie3]; exact pval_fill k) 22 25 _ rfl rfl rfl hie1 hie2 (by rw [hie3]; decide) (by rw [hie3]; decide) ?_
        intro w10 hw
        have hb := hid_grow hw
        have BN := (hid_alloc hw).1
        replace HK1 := IsJV.below hb HK1
        have HLs := HL.st.2
        have HLo := HL.own
        replace HS := HS.to (fun k hk => hb.block k (HS.lt hk))
        replace HL := HL.below hb
        replace hbq := hbq.trans (hb.mono (Nat.le_trans (Nat.le_of_lt HL0) HLs))
        clear hb
        clear HLs HLo hw
        refine hK.out _ _ HS (fun hS2 => ?_)
        clear hK K hS2
        try simp only [Act.put, zA, zB, zC]
        refine wpAnyH_ready (rs := [1]) (by kernel_rfl) (by simp) ?_
        refine AllReadyH.cons (o := ⟨some 38, _, _, _, _, _⟩) rfl (fun K hK => ?_) AllReadyH.nil
        have cg : _ = some (Value.slice A acc.length c) := HL.box.cell 4
        go_simp
        clear cg
        refine hK.out _ _ HS (fun hS2 => ?_)
        clear hK K hS2
        try simp only [Act.put, zA, zB, zC]
        refine wpAnyH_ready (rs := [9]) (by kernel_rfl) (by simp) ?_
        refine AllReadyH.cons (o := ⟨some 46, _, _, _, _, _⟩) rfl (fun K hK => ?_) AllReadyH.nil
        simp only [Region.wanted, if_true]
        refine op_append_at _ _ 22 rfl w3.heap.size 25 ie _ 6 88 rfl hie1 hie2 hie3 hie4 rfl (by decide) (.slice A acc.length c) acc.length (valL acc) rfl HL.own _ _ _ _ BN (by rfl) rfl (jv_one _) (by unfold maxLen; omega) (by omega) HL.st.2 ?_
        intro ga cap w11 HO2 hgrow hat hlt
        have hbe := Bes.grown (X := fun q => (Value.slice A acc.length c).ownBlock = some q) hgrow (fun _ h => h)
        have hlo : ∀ q, (Value.slice A acc.length c).ownBlock = some q → w3.heap.size ≤ q := fun q e => (own_in HL.own e).1
        replace HS := HS.to (fun k hk => hbe.block k (HS.lt hk) (fun e => Nat.lt_irrefl _ (Nat.lt_of_lt_of_le (HSG.out k hk) (hlo k e))))
        replace hbq := hbq.trans (Bes.below hbe (fun q e => Nat.le_trans (Nat.le_of_lt HL0) (hlo q e)) (Nat.le_trans (Nat.le_of_lt HL0) HL.st.2))
        have HL2 := HL.more HO2 hbe (hat.elim (fun h => .inl h.symm) (fun h => .inr (congrArg some h))) HK1 HKO
        clear hbe hlo hat hlt HO2 HL hgrow BN
        refine hK.out _ _ HS (fun hS2 => ?_)
        clear hK K hS2
        try simp only [Act.put, zA, zB, zC]
        refine TKC 10 47 rfl ?_
        try simp only [Act.put, zA, zB, zC]
        refine wpAnyH_ready (rs := [11]) (by kernel_rfl) (by simp) ?_
        refine AllReadyH.cons (o := ⟨none, _, _, _, _, _⟩) rfl (fun K hK => ?_) AllReadyH.nil
        simp only [Region.wanted, if_true]
        refine op_store_cell 22 _ _ rfl w2.heap.size 4 rfl (.slice (some ⟨ga, 0, none⟩) (acc.length + 1) cap) rfl _ _ HL2.box (show 4 < 6 by decide) psz_sv rfl ?_
        intro w12 hw
        have hbe := Bes.row (X := fun q => q = w2.heap.size) hw rfl
        replace HS := HS.to (fun k hk => hbe.block k (HS.lt hk) (fun e => by have h1 := HSL.out k hk; have e2 : k = w2.heap.size := e; omega))
        replace hbq := hbq.trans (Bes.below hbe (fun q e => by have e2 : q = w2.heap.size := e; omega) (Nat.le_trans (Nat.le_of_lt HL0) HL2.st.2))
        have HL3 := PK.put HL2 (arr2 := #[.int .i64 4, .bool false, .int .i64 0, .string ⟨#[]⟩, .slice (some ⟨ga, 0, none⟩) (acc.length + 1) cap, .slice none 0 0]) hw
        clear hbe hw HL2
        refine hK.out _ _ HS (fun hS2 => ?_)
        clear hK K hS2
        try simp only [Act.put, zA, zB, zC]
        refine wpAnyH_done (by kernel_rfl) ?_ _
        clear HS
        go_wp2
        exact nk_round HL3 HAC.out HK2 HX1.out hqL hbq
      · have hqe := Lib.hid (Nat.le_antisymm hq (Nat.le_of_not_lt hqL))
        replace B2 := IBox.below B2 hbq (by have := HZ.out; omega)
        replace HB := HB.trans (hbq.mono (by have := HZ.out; omega))
        have HFJ := pk_list HL (by unfold reach; omega)
        have HFO := HFJ.2
        replace HFJ := HFJ.1
        have B3 := HL.box
        clear HL
        go_wp2_with (first
          | ((with_reducible refine is_load ?_); refine wpl_load_box rfl 25 (.tmp 3) rfl _ rfl _ (listJ A c acc).cells _ B3 Tryz.underlying25 rfl info_value ?_)
          | ((with_reducible refine is_store ?_); refine wpl_store_at rfl 25 (.tmp 2) (.tmp 114) rfl w1.heap.size (listJ A c acc).cells rfl rfl _ _ B2 info_value rfl (jv_one _) ?_; intro w5 hw; have hbe := Bes.row (X := fun q => q = w1.heap.size) hw rfl; replace HB := HB.trans (Bes.below hbe (fun q e => by have e2 : q = w1.heap.size := e; have := HZ.out; omega) HB.size); replace B2 := hid_row hw B2; replace HFJ := IsJV.bes hbe HFJ (Off.mono (fun q e => by have e2 : q = w1.heap.size := e; have := HZ.out; show q < w3.heap.size; omega) HFO); clear hw hbe))
        refine bodyPost_ret (results_box rfl _ _ w1.heap.size _ (listJ A c acc).cells _ rfl B2 Tryz.underlying25 rfl info_value) rfl ?_
        exact ⟨listJ A c acc, rfl, HFJ, (er_pl A c acc _ HAC.out (by rw [List.length_map, erL_len, ← LL.out, hqe.out])).trans HK.out.symm, Off.mono (fun q e => by have := HZ.out; show q < w3.heap.size; have e2 : q < w.heap.size := e; omega) HFO, HB⟩
end Go.Proofs.YtnjhmnolngdfaaaGreatDoor
