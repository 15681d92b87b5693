/- Layer 3: the one form of a value, by the document (coveyref03.Normed): an object. -/
import Derived.Test.YtnjhmnolngdfaaaGreatDoorQ25
import Derived.Test.YtnjhmnolngdfaaaGreatDoorQZip
namespace Go.Proofs.YtnjhmnolngdfaaaGreatDoor
open Go.RowKit Go.PlainAid
set_option linter.unusedVariables false
set_option linter.unusedSimpArgs false
set_option maxRecDepth 100000 in
set_option maxHeartbeats 8000000 in
theorem nd_obj {j : JV} {w : World} (HJ : IsJV w j) (hs : SzT (er j) ≤ 1048576) (hse : SndE (er j)) (IH : Hid (∀ (x : JV) (w : World), SizeOf.sizeOf x < SizeOf.sizeOf j → IsJV w x → SzT (er x) ≤ 1048576 → SndE (er x) → Calls Tryz.prog 29 #[.agg x.cells] w (NdV x w))) (hk5 : j.v.kind = 5) : Calls Tryz.prog 29 #[.agg j.cells] w (NdV j w) := by
    obtain ⟨l1, l2, l3, l4, l5⟩ := jv_lens HJ
    obtain ⟨s1, s2, s3, s4⟩ := sz_parts j
    have hI : I64 j.v.kind ∧ I64 j.v.i ∧ j.v.t.size ≤ reach := by obtain ⟨v, _, _, _⟩ := j; unfold IsJV at HJ; exact ⟨HJ.1.1, HJ.1.2.1, HJ.1.2.2.1⟩
    have HI := Lib.hid hI
    have HP := Lib.hid (nrm_eq j)
    have LL := Lib.hid l1
    have LV := Lib.hid l2
    have LN := Lib.hid l3
    have S3 := Lib.hid s3
    have S4 := Lib.hid s4
    have HSS := Lib.hid hs
    have hLn : j.v.Ln ≤ 1048576 := by omega
    have hFn : j.v.Fn ≤ 1048576 := by omega
    clear hI s1 s2 s3 s4 hs
    have HSN := Lib.hid (snd_obj hk5 (by omega) hse)
    have HNS : Hid (∀ n ∈ j.ns, n.size ≤ 1048576) := Lib.hid (fun n hn => Nat.le_trans (sz_name j hn) HSS.out)
    clear hse
    have HB := Below.refl w.heap.size w
    have hk1 : j.v.kind ≠ 1 := by omega
    have hk2 : j.v.kind ≠ 2 := by omega
    have hk3 : j.v.kind ≠ 3 := by omega
    have hk4 : j.v.kind ≠ 4 := by omega
    have HK : Hid (nrmT (er j) = .mk 5 false 0 ⟨#[]⟩ [] ((fldN j.ns (erL j.vs)).map (·.1)) ((fldN j.ns (erL j.vs)).map (·.2))) := Lib.hid (by rw [HP.out, if_neg hk1, if_neg hk2, if_neg hk3, if_neg hk4, if_pos hk5])
    have HKD := Lib.hid hk5
    have HJ0 := HJ
    clear hk1 hk2 hk3 hk4 hk5 l1 l2 l3
    obtain ⟨ie, z, hie1, hie2, hie3, hie4, hz⟩ := fld_slice0
    subst hz
    go_enter Tryz.func29, Tryz.ntmps29
    go_wp2_with (first
      | (refine wpl_newbox 3 rfl rfl 25 rfl rfl (.tmp 10) rfl _ zeroV (leafJ 5 false 0 ⟨#[]⟩).cells rfl rfl info_value rfl (jv_one _) ?_; intro w3 hw; have hb := hid_grow hw; have B3 := (hid_alloc hw).1; have hz3 := Lib.hid (hid_alloc hw).2.1; replace B1 := zI B1 hb; replace B2 := zI B2 hb; replace HB := zT HB hb; replace HJ := HJ.below hb; clear hb hw; clear c1_0; have c1_0 : w3.cell? ⟨_, 0, none⟩ = some (.int .i64 5) := (B1.cell 0).trans (by rw [← HKD.out]; rfl); have c1_1 : w3.cell? ⟨_, 1, none⟩ = some (.bool j.v.b) := B1.cell 1; have c1_2 : w3.cell? ⟨_, 2, none⟩ = some (.int .i64 j.v.i) := B1.cell 2; have c1_3 : w3.cell? ⟨_, 3, none⟩ = some (.string j.v.t) := B1.cell 3; have c1_4 : w3.cell? ⟨_, 4, none⟩ = some (.slice j.v.LA j.v.Ln j.v.Lc) := B1.cell 4; have c1_5 : w3.cell? ⟨_, 5, none⟩ = some (.slice j.v.FA j.v.Fn j.v.Fc) := B1.cell 5; have hzz : w1.heap.size = w.heap.size + 1 ∧ w2.heap.size = w.heap.size + 2 ∧ w3.heap.size = w.heap.size + 3 := (by have := hz1.out; have := hz2.out; have := hz3.out; omega); have HZ := Lib.hid hzz; clear hzz hz1 hz2 hz3)
      | (refine wpl_box_at rfl 25 (.tmp 0) rfl _ rfl ?_; intro w1 hw; have hb := hid_grow hw; have B1 := (hid_alloc hw).1; have hz1 := Lib.hid (hid_alloc hw).2.1; replace HB := zT HB hb; replace HJ := HJ.below hb; clear hb hw)
      | ((with_reducible refine is_alloc ?_); refine wpl_alloc_at rfl 25 rfl _ zeroV ?_; intro w2 hw; have hb := hid_grow hw; have B2 := hid_alloc0 hw; have hz2 := Lib.hid (hid_alloc hw).2.1; replace B1 := zI B1 hb; replace HB := zT HB hb; replace HJ := HJ.below hb; clear hb hw; have c1_0 : w2.cell? ⟨_, 0, none⟩ = some (.int .i64 5) := (B1.cell 0).trans (by rw [← HKD.out]; rfl))
      | ((with_reducible refine is_build ?_); refine wpl_build_at (vals := _) (pbl_kind 5) rfl _ rfl rfl ?_))
    clear c1_0 c1_1 c1_2 c1_3
    go_loopw [5] (fun iv wr => ∃ (q : Nat) (A : Option Addr) (c : Nat) (L : List (ByteArray × JV)), iv = .int .i64 q ∧ q ≤ j.v.Fn ∧ L.length = q ∧ Hid ((L.map fun p => (p.1, er p.2)) = ((j.ns.zip ((erL j.vs).map nrmT)).take q).foldl insF []) ∧ Hid (∀ p ∈ L, p.1 ∈ j.ns) ∧ PK w3.heap.size w2.heap.size 52 7 (#[.int .i64 5, .bool false, .int .i64 0, .string ⟨#[]⟩, .slice none 0 0, .slice A L.length c] : Array Value) (.slice A L.length c) L.length (fldL L) (L.map (·.2)) wr ∧ Below w2.heap.size w3 wr) (fun iv _ => j.v.Fn - (intOf iv).toNat)
    case atStart => exact ⟨0, none, 0, [], rfl, Nat.zero_le _, rfl, Lib.hid rfl, Lib.hid (fun p hp => by cases hp), ⟨B3, ⟨rfl, .inl ⟨rfl, rfl⟩⟩, (fun y hy => by cases hy), ⟨Nat.lt_of_lt_of_le (by have := HZ.out; omega) (Nat.le_refl _), Nat.le_refl _⟩⟩, Below.refl _ _⟩
    case round =>
      obtain ⟨_, A, c, L, rfl, hq, rfl, HAC, HAN, HL, hbq⟩ := hrel
      have HL0 : w2.heap.size < w3.heap.size := by have := HZ.out; omega
      have c1_5 : wr.cell? ⟨_, 5, none⟩ = some (.slice j.v.FA j.v.Fn j.v.Fc) := (IBox.below B1 hbq (by have := HZ.out; omega)).cell 5
      by_cases hqL : L.length < j.v.Fn
      · obtain ⟨bl, off, nm, x, hla, hx, hn, hcn, hrg, HX⟩ := jv_fld HJ0 (show L.length < j.vs.length from LV.out ▸ hqL)
        have HXS := Lib.hid (size_vs hx)
        have HXZ := Lib.hid (Nat.le_trans (S4.out _ x hx) HSS.out)
        have HXE := Lib.hid (HSN.out.2 _ x hx)
        have hblw : bl < w.heap.size := block_lt_of_cell hcn
        have HB3 : Below w.heap.size w wr := HB.trans (hbq.mono (by have := HZ.out; omega))
        have HS0 : LSO w.heap.size bl (off + L.length * 7) j.cells nm x.cells.toList wr := ⟨IBox.below B1 hbq (by have := HZ.out; omega), cell_below HB3 hcn, range_below HB3 hrg⟩
        have HSG : Hid (∀ k, k = w.heap.size ∨ k = bl → k < w3.heap.size) := Lib.hid (fun k hk => by have := HZ.out; omega)
        have HSL : Hid (∀ k, k = w.heap.size ∨ k = bl → k < w2.heap.size) := Lib.hid (fun k hk => by have := HZ.out; omega)
        have HX1 := Lib.hid hx
        have HX2 := Lib.hid hn
        have HLA := Lib.hid hla
        clear hx hn hla hcn hrg HB3 hblw
        go_wp2
        refine wp_region_S (S := LSO w.heap.size bl (off + L.length * 7) j.cells nm x.cells.toList) (by kernel_rfl) (fun w5 hh => HS0.to (fun k _ => by rw [hh])) (fun w5 hh hbb HS => ?_)
        have hb := hbb _ (Nat.le_refl _)
        replace hbq := hbq.trans (hb.mono (Nat.le_trans (Nat.le_of_lt HL0) HL.st.2))
        replace HL := HL.below hb
        clear hb hbb hh HS0 c1_5
        refine TKC 0 57 rfl ?_
        try simp only [Act.put, zA, zB, zC]
        refine TKB 1 58 ?_ rfl ?_ ?_
        rotate_left
        · (intro w hSw; (try dsimp only at hSw); have : w.cell? ⟨_, 5, none⟩ = some (.slice (some ⟨bl, off, none⟩) j.v.Fn j.v.Fc) := (by rw [← HLA.out]; exact hSw.1.cell 5); go_simp; try with_reducible rfl)
        try simp only [Act.put, zA, zB, zC]
        refine TKC 2 59 rfl ?_
        try simp only [Act.put, zA, zB, zC]
        refine TKC 3 60 rfl ?_
        try simp only [Act.put, zA, zB, zC]
        refine TKC 4 61 rfl ?_
        try simp only [Act.put, zA, zB, zC]
        refine TKB 5 62 ?_ rfl ?_ ?_
        rotate_left
        · (intro w hSw; (try dsimp only at hSw); have := hSw.2.1; go_simp; try with_reducible rfl)
        try simp only [Act.put, zA, zB, zC]
        refine TKC 6 63 rfl ?_
        try simp only [Act.put, zA, zB, zC]
        refine TKB 7 64 ?_ rfl ?_ ?_
        rotate_left
        · (intro w hSw; (try dsimp only at hSw); have : w.cell? ⟨_, 5, none⟩ = some (.slice (some ⟨bl, off, none⟩) j.v.Fn j.v.Fc) := (by rw [← HLA.out]; exact hSw.1.cell 5); go_simp; try with_reducible rfl)
        try simp only [Act.put, zA, zB, zC]
        refine TKC 8 65 rfl ?_
        try simp only [Act.put, zA, zB, zC]
        refine TKC 9 66 rfl ?_
        try simp only [Act.put, zA, zB, zC]
        refine TKC 10 67 rfl ?_
        try simp only [Act.put, zA, zB, zC]
        refine wpAnyH_take (i := 11) (oi := ⟨some 68, _, _, _, _, _⟩) (v := _) rfl (by kernel_rfl) (by kernel_rfl) (by kernel_rfl) (fun _ _ _ h => h) (yields_rangeS (by kernel_rfl) _ _ rfl _ _ rfl _ _ (fun _ h => h.2.2) Tryz.underlying25 rfl info_value) (by assumption) ?_
        try simp only [Act.put, zA, zB, zC]
        refine wpAnyH_share (fun (y : JV × Nat) (a : Act) => (((a.put (some 69) (.agg y.1.cells)).put (some 70) (.agg (fldA (nm, y.1)))).put (some 6) (.pointer (some ⟨y.2, 0, none⟩))).put none undef) (fun (y : JV × Nat) (wq : World) => IsJV wq y.1 ∧ er y.1 = nrmT (er x) ∧ Off (fun q => q < w3.heap.size ∨ (Value.slice A L.length c).ownBlock = some q) y.1 ∧ IBox wq y.2 52 (fldA (nm, y.1)) ∧ PK w3.heap.size w2.heap.size 52 7 (#[.int .i64 5, .bool false, .int .i64 0, .string ⟨#[]⟩, .slice none 0 0, .slice A L.length c] : Array Value) (.slice A L.length c) L.length (fldL L) (L.map (·.2)) wq ∧ Below w2.heap.size w3 wq ∧ w3.heap.size ≤ y.2 ∧ ∀ q, (Value.slice A L.length c).ownBlock = some q → q ≠ y.2) (fun HT => ?_) ?_
        · refine wpAnyH_ready (rs := [12, 14]) (by kernel_rfl) (by simp) ?_
          refine AllReadyH.cons (o := ⟨some 69, _, _, _, _, _⟩) rfl (fun K hK => ?_) ?_
          · go_simp
            (go_at_call 29; (with_reducible refine (IH.out x _ HXS.out (IsJV.below (HB.trans (hbq.mono (by have := HZ.out; omega))) HX) HXZ.out HXE.out).mono ?_); rintro e w9 ⟨k, rfl, HK1, HK2, HK3, hb⟩)
            have HLs := HL.st.2
            have HLo := HL.own
            have HKO : Off (fun q => q < w3.heap.size ∨ (Value.slice A L.length c).ownBlock = some q) k := Off.mono (fun q e => e.elim (fun h => Nat.lt_of_lt_of_le h HLs) (fun h => (own_in HLo h).2)) HK3
            replace HS := HS.to (fun k hk => hb.block k (HS.lt hk))
            replace HL := HL.below hb
            replace hbq := hbq.trans (hb.mono (Nat.le_trans (Nat.le_of_lt HL0) HLs))
            clear hb HLs HLo HK3
            refine hK.out _ _ HS (fun hS2 => ?_)
            clear hK K hS2
            try simp only [Act.put, zA, zB, zC]
            refine wpAnyH_take (i := 13) (oi := ⟨some 70, _, _, _, _, _⟩) (v := _) rfl (by kernel_rfl) (by kernel_rfl) (by kernel_rfl) (fun _ _ _ h => h) (yields_build (by kernel_rfl) (fld_build nm k) _ rfl rfl) (by assumption) ?_
            try simp only [Act.put, zA, zB, zC]
            refine wpAnyH_ready (rs := [14]) (by kernel_rfl) (by simp) ?_
            refine AllReadyH.cons (o := ⟨some 6, _, _, _, _, _⟩) rfl (fun K hK => ?_) AllReadyH.nil
            simp only [Region.wanted, if_true]
            refine op_alloc_at 52 rfl _ zeroFC ?_
            intro w10 hw
            have hb1 := hid_grow hw
            have B6 := hid_alloc0 hw
            clear hw
            replace HS := HS.to (fun k hk => hb1.block k (HS.lt hk))
            refine hK.out _ _ HS (fun hS2 => ?_)
            clear hK K hS2
            try simp only [Act.put, zA, zB, zC]
            refine wpAnyH_ready (rs := [15]) (by kernel_rfl) (by simp) ?_
            refine AllReadyH.cons (o := ⟨none, _, _, _, _, _⟩) rfl (fun K hK => ?_) AllReadyH.nil
            simp only [Region.wanted, if_true]
            refine op_store_at 52 _ _ rfl _ _ rfl rfl _ _ B6 info_field7 rfl (fld_one _) ?_
            intro w11 hw
            have hb2 := (hid_row_below hw (Nat.le_refl _) hb1).1
            have B6n := hid_row hw B6
            clear hw B6
            have hHS := hb2
            replace HS := HS.to (fun k hk => by have h1 := HSG.out k hk; have h2 := HL.st.2; have h3 := hb1.size; exact (hb2.block k (by omega)).trans (hb1.block k (by omega)).symm)
            refine hK.out _ _ HS (fun hS2 => ?_)
            clear hK K hS2
            try simp only [Act.put, zA, zB, zC]
            refine wpAnyH_done (by kernel_rfl) ?_ _
            clear HS
            exact HT.out (k, w9.heap.size) _ _ ⟨IsJV.below hb2 HK1, HK2, HKO, B6n, HL.below hb2, hbq.trans (hb2.mono (Nat.le_trans (Nat.le_of_lt HL0) HL.st.2)), HL.st.2, fun q e => Nat.ne_of_lt (own_in HL.own e).2⟩ (by kernel_rfl)
          refine AllReadyH.cons (o := ⟨some 6, _, _, _, _, _⟩) rfl (fun K hK => ?_) AllReadyH.nil
          simp only [Region.wanted, if_true]
          refine op_alloc_at 52 rfl _ zeroFC ?_
          intro w10 hw
          have hb1 := hid_grow hw
          have B6 := hid_alloc0 hw
          clear hw
          replace HS := HS.to (fun k hk => hb1.block k (HS.lt hk))
          have HG6 : w2.heap.size ≤ w5.heap.size := Nat.le_trans (Nat.le_of_lt HL0) HL.st.2
          refine hK.out _ _ HS (fun hS2 => ?_)
          clear hK K hS2
          try simp only [Act.put, zA, zB, zC]
          refine wpAnyH_ready (rs := [12]) (by kernel_rfl) (by simp) ?_
          refine AllReadyH.cons (o := ⟨some 69, _, _, _, _, _⟩) rfl (fun K hK => ?_) AllReadyH.nil
          go_simp
          (go_at_call 29; (with_reducible refine (IH.out x _ HXS.out (IsJV.below (HB.trans ((hbq.trans (hb1.mono HG6)).mono (by have := HZ.out; omega))) HX) HXZ.out HXE.out).mono ?_); rintro e w9 ⟨k, rfl, HK1, HK2, HK3, hb⟩)
          have HLs := HL.st.2
          have HLo := HL.own
          have HKO : Off (fun q => q < w3.heap.size ∨ (Value.slice A L.length c).ownBlock = some q) k := Off.mono (fun q e => Nat.lt_of_lt_of_le (e.elim (fun h => Nat.lt_of_lt_of_le h HLs) (fun h => (own_in HLo h).2)) hb1.size) HK3
          have HKG : Off (fun q => q = w5.heap.size) k := Off.mono (fun q e => by have e2 : q = w5.heap.size := e; have := IBox.lt B6; show q < w10.heap.size; omega) HK3
          have hb3 := zT hb1 hb
          replace B6 := zI B6 hb
          replace HS := HS.to (fun k hk => hb.block k (HS.lt hk))
          clear hb HLs HLo HK3
          refine hK.out _ _ HS (fun hS2 => ?_)
          clear hK K hS2
          try simp only [Act.put, zA, zB, zC]
          refine wpAnyH_take (i := 13) (oi := ⟨some 70, _, _, _, _, _⟩) (v := _) rfl (by kernel_rfl) (by kernel_rfl) (by kernel_rfl) (fun _ _ _ h => h) (yields_build (by kernel_rfl) (fld_build nm k) _ rfl rfl) (by assumption) ?_
          try simp only [Act.put, zA, zB, zC]
          refine wpAnyH_ready (rs := [15]) (by kernel_rfl) (by simp) ?_
          refine AllReadyH.cons (o := ⟨none, _, _, _, _, _⟩) rfl (fun K hK => ?_) AllReadyH.nil
          simp only [Region.wanted, if_true]
          refine op_store_at 52 _ _ rfl _ _ rfl rfl _ _ B6 info_field7 rfl (fld_one _) ?_
          intro w11 hw
          have hb2 := (hid_row_below hw (Nat.le_refl _) hb3).1
          have B6n := hid_row hw B6
          have HK4 := IsJV.bes (Bes.row (X := fun q => q = w5.heap.size) hw rfl) HK1 HKG
          clear hw B6
          replace HS := HS.to (fun k hk => by have h1 := HSG.out k hk; have h2 := HL.st.2; exact (hb2.block k (by omega)).trans (hb3.block k (by omega)).symm)
          refine hK.out _ _ HS (fun hS2 => ?_)
          clear hK K hS2
          try simp only [Act.put, zA, zB, zC]
          refine wpAnyH_done (by kernel_rfl) ?_ _
          clear HS
          exact HT.out (k, w5.heap.size) _ _ ⟨HK4, HK2, HKO, B6n, HL.below hb2, hbq.trans (hb2.mono HG6), HL.st.2, fun q e => Nat.ne_of_lt (own_in HL.own e).2⟩ (by kernel_rfl)
        · rintro ⟨k, g6⟩ w6 ⟨HK1, HK2, HKO, B6, HL2, hbq2, HG3, HGO⟩
          replace HK1 : IsJV w6 k := HK1
          replace HK2 : Hid (er k = nrmT (er x)) := Lib.hid HK2
          replace HKO : Off (fun q => q < w3.heap.size ∨ (Value.slice A L.length c).ownBlock = some q) k := HKO
          replace B6 : IBox w6 g6 52 (fldA (nm, k)) := B6
          replace HG3 : w3.heap.size ≤ g6 := HG3
          replace HGO : Hid (∀ q, (Value.slice A L.length c).ownBlock = some q → q ≠ g6) := Lib.hid HGO
          replace hbq := hbq2
          replace HL := HL2
          clear hbq2 HL2
          try simp only [Act.put, zA, zB, zC]
          have c3_5 : w6.cell? ⟨w2.heap.size, 5, none⟩ = some (.slice A L.length c) := HL.box.cell 5
          go_wp2_with (first
            | ((with_reducible refine is_load ?_); refine wpl_load_box rfl 52 (.tmp 6) rfl _ rfl _ _ _ B6 Tryz.underlying52 rfl info_field7 ?_)
            | ((with_reducible refine is_slice ?_); refine wpl_slice_at 1 [(0, .agg (fldA (nm, k)))] (fldA (nm, k)) ie _ (by rw [hie3]; exact fld_fill (nm, k)) rfl 23 52 _ rfl rfl Tryz.underlying23 hie1 hie2 (by rw [hie3]; decide) (by rw [hie3]; decide) ?_; intro w7 hw; have hb := hid_grow hw; have BN := (hid_alloc hw).1; replace B6 := zI B6 hb; replace HK1 := IsJV.below hb HK1; have HLs := HL.st.2; replace HL := HL.below hb; replace hbq := hbq.trans (hb.mono (Nat.le_trans (Nat.le_of_lt HL0) HLs)); clear hb hw HLs c3_5)
            | (at_builtin; refine wpl_append_pk rfl (.tmp 72) (.tmp 74) 23 rfl ie _ 7 104 Tryz.underlying23 hie1 hie2 hie3 hie4 rfl (by decide) (.slice A L.length c) L.length (fldL L) (L.map (·.2)) k rfl HL _ 1 (fldA (nm, k)) _ BN rfl rfl (fld_one _) HK1 HKO (by unfold maxLen; omega) (by omega) ?_; intro ga cap w8 HL2 hbe hga; have hlo : ∀ q, (Value.slice A L.length c).ownBlock = some q → w3.heap.size ≤ q := (fun q e => (own_in HL.own e).1); replace hbq := hbq.trans (Bes.below hbe (fun q e => Nat.le_trans (Nat.le_of_lt HL0) (hlo q e)) (Nat.le_trans (Nat.le_of_lt HL0) HL.st.2)); have hg6 := IBox.lt B6; replace B6 := Bes.box hbe B6 (fun e => HGO.out _ e rfl); have HGA : Hid (ga ≠ g6) := Lib.hid (hga.elim (fun e => HGO.out _ e) (fun e => by omega)); clear HL hbe hga hlo BN hg6)
            | ((with_reducible refine is_store ?_); refine wpl_store_cell rfl 23 (.tmp 76) (.tmp 75) rfl w2.heap.size 5 rfl (.slice (some ⟨ga, 0, none⟩) (L.length + 1) cap) rfl _ _ HL2.box (show 5 < 6 by decide) psz_sf rfl ?_; intro w9 hw; have hbe := Bes.row (X := fun q => q = w2.heap.size) hw rfl; replace hbq := hbq.trans (Bes.below hbe (fun q e => by have e2 : q = w2.heap.size := e; omega) (Nat.le_trans (Nat.le_of_lt HL0) HL2.st.2)); replace B6 := Bes.box hbe B6 (fun e => by have e2 : g6 = w2.heap.size := e; omega); have HL3 := PK.put HL2 (arr2 := (#[.int .i64 5, .bool false, .int .i64 0, .string ⟨#[]⟩, .slice none 0 0, .slice (some ⟨ga, 0, none⟩) (L.length + 1) cap] : Array Value)) hw; clear hbe hw HL2; have c3_5 : w9.cell? ⟨w2.heap.size, 5, none⟩ = some (.slice (some ⟨ga, 0, none⟩) (L.length + 1) cap) := HL3.box.cell 5))
          clear c3_5 HK1 HKO HGO
          have HGB : Hid (w3.heap.size ≤ ga) := Lib.hid (own_at HL3.own _ rfl)
          go_loopw [7] (fun kv wr2 => ∃ k9 : Nat, kv = .int .i64 k9 ∧ k9 ≤ L.length ∧ Hid (posR L nm k9 = posR L nm L.length) ∧ PK w3.heap.size w2.heap.size 52 7 (#[.int .i64 5, .bool false, .int .i64 0, .string ⟨#[]⟩, .slice none 0 0, .slice (some ⟨ga, 0, none⟩) (L.length + 1) cap] : Array Value) (.slice (some ⟨ga, 0, none⟩) (L.length + 1) cap) (L.length + 1) (fldL (L.take k9 ++ (nm, k) :: L.drop k9)) (L.map (·.2) ++ [k]) wr2 ∧ IBox wr2 g6 52 (fldA (nm, k)) ∧ Below w2.heap.size w3 wr2) (fun kv _ => (intOf kv).toNat)
          case atStart => exact ⟨L.length, by first | rfl | (congr 1; omega), Nat.le_refl _, Lib.hid rfl, by rw [List.take_length, List.drop_length, fldL_app, fldL_one]; exact HL3, B6, hbq⟩
          case round =>
            clear HL3 B6 hbq
            obtain ⟨k9, rfl, hk9, HPO, HL, B6, hbq⟩ := hrel
            by_cases hk0 : k9 = 0
            · subst hk0
              have HINS : Hid (posR L nm L.length = 0) := Lib.hid (by rw [← HPO.out]; rfl)
              clear HPO
              have HLs := HL.st.2
              have hwb : w2.heap.size ≤ wr.heap.size := Nat.le_trans (Nat.le_of_lt HL0) HLs
              go_wp2
              refine wp_region_below (by kernel_rfl) (fun w8 hHeld => ?_)
              refine TKC 0 81 rfl ?_
              try simp only [Act.put, zA, zB, zC]
              refine TKB 1 82 (.bool false) rfl ?_ ?_
              · (intro w hSw; (try dsimp only at hSw); go_simp; try rfl)
              try simp only [Act.put, zA, zB, zC]
              refine TKC 2 83 rfl ?_
              try simp only [Act.put, zA, zB, zC]
              refine wpAnyH_take (i := 3) (oi := ⟨some 84, _, _, _, _, _⟩) (v := undef) rfl (by kernel_rfl) (by kernel_rfl) (by kernel_rfl) (fun _ _ _ h => h) (Or.inr ⟨by kernel_rfl, rfl⟩) (by assumption) ?_
              try simp only [Act.put, zA, zB, zC]
              refine wpAnyH_take (i := 4) (oi := ⟨some 85, _, _, _, _, _⟩) (v := undef) rfl (by kernel_rfl) (by kernel_rfl) (by kernel_rfl) (fun _ _ _ h => h) (Or.inr ⟨by kernel_rfl, rfl⟩) (by assumption) ?_
              try simp only [Act.put, zA, zB, zC]
              refine wpAnyH_take (i := 5) (oi := ⟨some 86, _, _, _, _, _⟩) (v := undef) rfl (by kernel_rfl) (by kernel_rfl) (by kernel_rfl) (fun _ _ _ h => h) (Or.inr ⟨by kernel_rfl, rfl⟩) (by assumption) ?_
              try simp only [Act.put, zA, zB, zC]
              refine wpAnyH_take (i := 6) (oi := ⟨some 87, _, _, _, _, _⟩) (v := undef) rfl (by kernel_rfl) (by kernel_rfl) (by kernel_rfl) (fun _ _ _ h => h) (Or.inr ⟨by kernel_rfl, rfl⟩) (by assumption) ?_
              try simp only [Act.put, zA, zB, zC]
              refine wpAnyH_take (i := 7) (oi := ⟨some 88, _, _, _, _, _⟩) (v := undef) rfl (by kernel_rfl) (by kernel_rfl) (by kernel_rfl) (fun _ _ _ h => h) (Or.inr ⟨by kernel_rfl, rfl⟩) (by assumption) ?_
              try simp only [Act.put, zA, zB, zC]
              refine wpAnyH_take (i := 8) (oi := ⟨some 89, _, _, _, _, _⟩) (v := undef) rfl (by kernel_rfl) (by kernel_rfl) (by kernel_rfl) (fun _ _ _ h => h) (Or.inr ⟨by kernel_rfl, rfl⟩) (by assumption) ?_
              try simp only [Act.put, zA, zB, zC]
              refine wpAnyH_take (i := 9) (oi := ⟨some 90, _, _, _, _, _⟩) (v := undef) rfl (by kernel_rfl) (by kernel_rfl) (by kernel_rfl) (fun _ _ _ h => h) (Or.inr ⟨by kernel_rfl, rfl⟩) (by assumption) ?_
              try simp only [Act.put, zA, zB, zC]
              refine wpAnyH_take (i := 10) (oi := ⟨some 91, _, _, _, _, _⟩) (v := undef) rfl (by kernel_rfl) (by kernel_rfl) (by kernel_rfl) (fun _ _ _ h => h) (Or.inr ⟨by kernel_rfl, rfl⟩) (by assumption) ?_
              try simp only [Act.put, zA, zB, zC]
              refine wpAnyH_take (i := 11) (oi := ⟨some 92, _, _, _, _, _⟩) (v := undef) rfl (by kernel_rfl) (by kernel_rfl) (by kernel_rfl) (fun _ _ _ h => h) (Or.inr ⟨by kernel_rfl, rfl⟩) (by assumption) ?_
              try simp only [Act.put, zA, zB, zC]
              refine wpAnyH_take (i := 12) (oi := ⟨some 93, _, _, _, _, _⟩) (v := undef) rfl (by kernel_rfl) (by kernel_rfl) (by kernel_rfl) (fun _ _ _ h => h) (Or.inr ⟨by kernel_rfl, rfl⟩) (by assumption) ?_
              try simp only [Act.put, zA, zB, zC]
              refine wpAnyH_take (i := 13) (oi := ⟨some 94, _, _, _, _, _⟩) (v := undef) rfl (by kernel_rfl) (by kernel_rfl) (by kernel_rfl) (fun _ _ _ h => h) (Or.inr ⟨by kernel_rfl, rfl⟩) (by assumption) ?_
              try simp only [Act.put, zA, zB, zC]
              refine TKB 14 95 (.bool false) rfl ?_ ?_
              · (intro w hSw; (try dsimp only at hSw); go_simp; try rfl)
              try simp only [Act.put, zA, zB, zC]
              refine wpAnyH_done (by kernel_rfl) ?_ _
              replace HL := HL.below hHeld
              replace B6 := zI B6 hHeld
              replace hbq := hbq.trans (hHeld.mono hwb)
              clear hHeld hwb HLs
              go_wp2
              go_roundw
              case rel =>
                refine ⟨L.length + 1, some ⟨ga, 0, none⟩, cap, insF L (nm, k), by go_num, by omega, insF_len _ _, Lib.hid ?_, Lib.hid ?_, ?_, hbq⟩
                · rw [insF_map (g := fun p : ByteArray × JV => (p.1, er p.2)) (fun _ => rfl), HAC.out, take_next (x := (nm, nrmT (er x))) (by rw [List.getElem?_zip_eq_some]; exact ⟨HX2.out, by rw [List.getElem?_map, erL_map, List.getElem?_map, HX1.out]; rfl⟩), List.foldl_append, ← HK2.out]
                  rfl
                · intro p hp
                  rcases List.mem_cons.1 ((insF_perm L (nm, k)).mem_iff.1 hp) with hp | hp
                  · rw [hp]; exact List.mem_of_getElem? HX2.out
                  · exact HAN.out p hp
                · rw [insF_len]
                  have e : insF L (nm, k) = L.take 0 ++ (nm, k) :: L.drop 0 := by unfold insF; rw [HINS.out]
                  rw [e]
                  refine PK.reacc HL (fun y hy => ?_)
                  rw [← e] at hy
                  obtain ⟨p, hp, rfl⟩ := List.mem_map.1 hy
                  rcases List.mem_cons.1 ((insF_perm L (nm, k)).mem_iff.1 hp) with hp | hp
                  · rw [hp]; simp
                  · exact List.mem_append_left _ (List.mem_map.2 ⟨p, hp, rfl⟩)
              case measure => simp [intOf]; omega
            · obtain ⟨m, rfl⟩ : ∃ m, k9 = m + 1 := ⟨k9 - 1, by omega⟩
              have hmL : m < L.length := by omega
              obtain ⟨ga2, p, hA9, hp9, FC⟩ := own_fld HL.own bub_len.symm (show m < L.length + 1 by omega)
              obtain rfl : ga = ga2 := by injection hA9 with h1; injection h1
              rw [bub_get hmL] at hp9
              have HP9 := Lib.hid hp9
              have hpn := HAN.out p (List.mem_of_getElem? hp9)
              have hpb := HSN.out.1 _ hpn
              have hps := HNS.out _ hpn
              have hnn := List.mem_of_getElem? HX2.out
              have hnb := HSN.out.1 _ hnn
              have hns := HNS.out _ hnn
              have HCM : Hid (Calls Tryz.prog 49 #[.string p.1, .string nm] = Calls Tryz.prog 49 #[.string p.1, .string nm]) := Lib.hid rfl
              have HCQ := fun W => Lib.hid (cmpr_any hps hns hpb hnb W)
              clear HCM hA9 hp9 hpn hpb hps hnn hnb hns
              have hk64 : ((m + 1 : Nat) : Int) - 1 = m := by omega
              have hwm : IntKind.i64.wrap (m : Int) = m := wrap_k (by omega)
              have hbm : 0 ≤ (m : Int) ∧ (m : Int) < (L.length : Int) + 1 := by omega
              have HLs := HL.st.2
              have hwb : w2.heap.size ≤ wr.heap.size := Nat.le_trans (Nat.le_of_lt HL0) HLs
              have c3_5 : wr.cell? ⟨w2.heap.size, 5, none⟩ = some (.slice (some ⟨ga, 0, none⟩) (L.length + 1) cap) := HL.box.cell 5
              have FC0 : wr.cell? ⟨ga, m * 7, none⟩ = some (.string p.1) := FC 0 _ rfl
              have B60 : wr.cell? ⟨g6, 0, none⟩ = some (.string nm) := B6.cell 0
              by_cases hcp : 0 < cmpN p.1 nm
              · go_wp2
                refine wp_region_below (by kernel_rfl) (fun w8 hHeld => ?_)
                refine TKC 0 81 rfl ?_
                try simp only [Act.put, zA, zB, zC]
                refine TKB 1 82 (.bool true) rfl ?_ ?_
                · (intro w hSw; (try dsimp only at hSw); go_simp; try simp)
                try simp only [Act.put, zA, zB, zC]
                refine TKC 2 83 rfl ?_
                try simp only [Act.put, zA, zB, zC]
                refine TKC 3 84 rfl ?_
                try simp only [Act.put, zA, zB, zC]
                refine TKB 4 85 ?_ rfl ?_ ?_
                rotate_left
                · (intro w hSw; (try dsimp only at hSw); have := cell_below hSw c3_5; go_simp; try with_reducible rfl)
                try simp only [Act.put, zA, zB, zC]
                refine TKC 5 86 rfl ?_
                try simp only [Act.put, zA, zB, zC]
                refine TKB 6 87 (.int .i64 m) rfl ?_ ?_
                · (intro w hSw; (try dsimp only at hSw); go_simp; try exact hwm)
                try simp only [Act.put, zA, zB, zC]
                refine TKC 7 88 rfl ?_
                try simp only [Act.put, zA, zB, zC]
                refine TKC 8 89 rfl ?_
                try simp only [Act.put, zA, zB, zC]
                refine TKB 9 90 ?_ rfl ?_ ?_
                rotate_left
                · (intro w hSw; (try dsimp only at hSw); have := cell_below hSw FC0; go_simp; try with_reducible rfl)
                try simp only [Act.put, zA, zB, zC]
                refine TKC 10 91 rfl ?_
                try simp only [Act.put, zA, zB, zC]
                refine TKB 11 92 ?_ rfl ?_ ?_
                rotate_left
                · (intro w hSw; (try dsimp only at hSw); have := cell_below hSw B60; go_simp; try with_reducible rfl)
                try simp only [Act.put, zA, zB, zC]
                refine wpAnyH_ready (rs := [12]) (by kernel_rfl) (by simp) ?_
                refine AllReadyH.cons (o := ⟨some 93, _, _, _, _, _⟩) rfl (fun K hK => ?_) AllReadyH.nil
                go_simp
                (go_at_call 49; (with_reducible refine (HCQ _).out.mono ?_); rintro e w9 ⟨rfl, hb3⟩)
                refine hK.out _ _ (zT hHeld hb3) (fun hHeld2 => ?_)
                clear hK K hHeld hb3
                have hHeld := hHeld2
                clear hHeld2
                try simp only [Act.put, zA, zB, zC]
                refine TKB 13 94 (.bool true) rfl ?_ ?_
                · (intro w hSw; (try dsimp only at hSw); go_simp; try simp [hcp])
                try simp only [Act.put, zA, zB, zC]
                refine TKB 14 95 (.bool true) rfl ?_ ?_
                · (intro w hSw; (try dsimp only at hSw); go_simp; try rfl)
                try simp only [Act.put, zA, zB, zC]
                refine wpAnyH_done (by kernel_rfl) ?_ _
                replace HL := HL.below hHeld
                replace B6 := zI B6 hHeld
                replace hbq := hbq.trans (hHeld.mono hwb)
                clear hHeld hwb HLs
                clear c3_5 FC0 B60 HCQ
                have HP1 : Hid (posR L nm m = posR L nm L.length) := Lib.hid ((posR_go HP9.out (by omega)).symm.trans HPO.out)
                have HHC := Lib.hid hcp
                clear HPO hcp
                obtain ⟨ga4, p2, hA4, hp2, FC⟩ := own_fld HL.own bub_len.symm (show m < L.length + 1 by omega)
                obtain rfl : ga = ga4 := by injection hA4 with h1; injection h1
                rw [bub_get hmL, HP9.out] at hp2
                clear hA4
                obtain rfl : p = p2 := Option.some.inj hp2
                clear hp2
                have HLs := HL.st.2
                have hwb : w2.heap.size ≤ w9.heap.size := Nat.le_trans (Nat.le_of_lt HL0) HLs
                have hbm1 : 0 ≤ (m : Int) + 1 ∧ (m : Int) + 1 < (L.length : Int) + 1 := by omega
                have c3_5 : w9.cell? ⟨w2.heap.size, 5, none⟩ = some (.slice (some ⟨ga, 0, none⟩) (L.length + 1) cap) := HL.box.cell 5
                go_wp2
                refine wp_region_S (S := LSW w2.heap.size ga (m * 7) (#[.int .i64 5, .bool false, .int .i64 0, .string ⟨#[]⟩, .slice none 0 0, .slice (some ⟨ga, 0, none⟩) (L.length + 1) cap] : Array Value) (fldA p).toList) (by kernel_rfl) (fun w5 hh => LSW.to ⟨HL.box, FC⟩ (fun k _ => by rw [hh])) (fun w5 hh hbb HS => ?_)
                have hb := hbb _ (Nat.le_refl _)
                replace HL := HL.below hb
                replace B6 := zI B6 hb
                replace hbq := hbq.trans (hb.mono hwb)
                clear hb hbb hh FC c3_5 hwb HLs
                refine TKC 0 98 rfl ?_
                try simp only [Act.put, zA, zB, zC]
                refine TKB 1 99 ?_ rfl ?_ ?_
                rotate_left
                · (intro w hSw; (try dsimp only at hSw); have : w.cell? ⟨w2.heap.size, 5, none⟩ = some (.slice (some ⟨ga, 0, none⟩) (L.length + 1) cap) := hSw.1.cell 5; go_simp; try with_reducible rfl)
                try simp only [Act.put, zA, zB, zC]
                refine TKC 2 100 rfl ?_
                try simp only [Act.put, zA, zB, zC]
                refine TKC 3 101 rfl ?_
                try simp only [Act.put, zA, zB, zC]
                refine TKB 4 102 ?_ rfl ?_ ?_
                rotate_left
                · (intro w hSw; (try dsimp only at hSw); have : w.cell? ⟨w2.heap.size, 5, none⟩ = some (.slice (some ⟨ga, 0, none⟩) (L.length + 1) cap) := hSw.1.cell 5; go_simp; try with_reducible rfl)
                try simp only [Act.put, zA, zB, zC]
                refine TKC 5 103 rfl ?_
                try simp only [Act.put, zA, zB, zC]
                refine TKB 6 104 (.int .i64 m) rfl ?_ ?_
                · (intro w hSw; (try dsimp only at hSw); go_simp; try exact hwm)
                try simp only [Act.put, zA, zB, zC]
                refine TKC 7 105 rfl ?_
                try simp only [Act.put, zA, zB, zC]
                refine wpAnyH_take (i := 8) (oi := ⟨some 106, _, _, _, _, _⟩) (v := _) rfl (by kernel_rfl) (by kernel_rfl) (by kernel_rfl) (fun _ _ _ h => h) (yields_rangeS (by kernel_rfl) _ _ rfl _ _ rfl (fldA p) _ (fun _ h => h.2) Tryz.underlying52 rfl info_field7) (by assumption) ?_
                try simp only [Act.put, zA, zB, zC]
                refine TKB 9 107 (.pointer (some ⟨ga, (m + 1) * 7, none⟩)) rfl ?_ ?_
                · (intro w hSw; (try dsimp only at hSw); go_simp; try (first | rfl | simp | go_num))
                try simp only [Act.put, zA, zB, zC]
                refine wpAnyH_ready (rs := [10]) (by kernel_rfl) (by simp) ?_
                refine AllReadyH.cons (o := ⟨none, _, _, _, _, _⟩) rfl (fun K hK => ?_) AllReadyH.nil
                simp only [Region.wanted, if_true]
                refine op_store_fld _ _ rfl HL.own bub_len (show m + 1 < L.length + 1 by omega) p rfl rfl ?_
                intro w10 HO8 hbe
                obtain ⟨ga3, p3, hA3, hp3, FC3⟩ := own_fld HO8 (by rw [List.length_set]; exact bub_len.symm) (show m < L.length + 1 by omega)
                obtain rfl : ga = ga3 := by injection hA3 with h1; injection h1
                rw [List.getElem?_set, if_neg (by omega), bub_get hmL, HP9.out] at hp3
                obtain rfl : p = p3 := Option.some.inj hp3
                have HL2 := PK.same HL HO8 (hbe.sub (fun k e => by rw [e]; rfl))
                replace HS := LSW.to (w' := w10) ⟨HL2.box, FC3⟩ (fun _ _ => rfl)
                replace B6 := Bes.box hbe B6 (fun e => HGA.out e.symm)
                replace hbq := hbq.trans (Bes.below hbe (fun q e => by have e2 : q = ga := e; have := HGB.out; omega) (Nat.le_trans (Nat.le_of_lt HL0) HL.st.2))
                clear hA3 hp3 FC3 HO8 hbe HL
                refine hK.out _ _ HS (fun hS2 => ?_)
                clear hK K hS2
                try simp only [Act.put, zA, zB, zC]
                refine wpAnyH_done (by kernel_rfl) ?_ _
                clear HS
                have c3_5 : w10.cell? ⟨w2.heap.size, 5, none⟩ = some (.slice (some ⟨ga, 0, none⟩) (L.length + 1) cap) := HL2.box.cell 5
                go_wp2_with (first
                  | ((with_reducible refine is_load ?_); refine wpl_load_box rfl 52 (.tmp 6) rfl _ rfl _ _ _ B6 Tryz.underlying52 rfl info_field7 ?_)
                  | ((with_reducible refine is_store ?_); refine wpl_store_fld rfl (.tmp 113) (.tmp 112) rfl HL2.own (by rw [List.length_set]; exact bub_len) (show m < L.length + 1 by omega) (nm, k) rfl rfl ?_; intro w11 HO9 hbe; have HL3 := PK.same HL2 HO9 (hbe.sub (fun k e => by rw [e]; rfl)); replace B6 := Bes.box hbe B6 (fun e => HGA.out e.symm); replace hbq := hbq.trans (Bes.below hbe (fun q e => by have e2 : q = ga := e; have := HGB.out; omega) (Nat.le_trans (Nat.le_of_lt HL0) HL2.st.2)); clear HO9 hbe HL2 c3_5))
                go_roundw
                case rel =>
                  refine ⟨m, by go_num, by omega, HP1, ?_, B6, hbq⟩
                  rw [← bub_step HP9.out (f := (nm, k))]
                  exact HL3
                case measure => first | (simp [intOf]; done) | (simp [intOf]; omega)
              · go_wp2
                refine wp_region_below (by kernel_rfl) (fun w8 hHeld => ?_)
                refine TKC 0 81 rfl ?_
                try simp only [Act.put, zA, zB, zC]
                refine TKB 1 82 (.bool true) rfl ?_ ?_
                · (intro w hSw; (try dsimp only at hSw); go_simp; try simp)
                try simp only [Act.put, zA, zB, zC]
                refine TKC 2 83 rfl ?_
                try simp only [Act.put, zA, zB, zC]
                refine TKC 3 84 rfl ?_
                try simp only [Act.put, zA, zB, zC]
                refine TKB 4 85 ?_ rfl ?_ ?_
                rotate_left
                · (intro w hSw; (try dsimp only at hSw); have := cell_below hSw c3_5; go_simp; try with_reducible rfl)
                try simp only [Act.put, zA, zB, zC]
                refine TKC 5 86 rfl ?_
                try simp only [Act.put, zA, zB, zC]
                refine TKB 6 87 (.int .i64 m) rfl ?_ ?_
                · (intro w hSw; (try dsimp only at hSw); go_simp; try exact hwm)
                try simp only [Act.put, zA, zB, zC]
                refine TKC 7 88 rfl ?_
                try simp only [Act.put, zA, zB, zC]
                refine TKC 8 89 rfl ?_
                try simp only [Act.put, zA, zB, zC]
                refine TKB 9 90 ?_ rfl ?_ ?_
                rotate_left
                · (intro w hSw; (try dsimp only at hSw); have := cell_below hSw FC0; go_simp; try with_reducible rfl)
                try simp only [Act.put, zA, zB, zC]
                refine TKC 10 91 rfl ?_
                try simp only [Act.put, zA, zB, zC]
                refine TKB 11 92 ?_ rfl ?_ ?_
                rotate_left
                · (intro w hSw; (try dsimp only at hSw); have := cell_below hSw B60; go_simp; try with_reducible rfl)
                try simp only [Act.put, zA, zB, zC]
                refine wpAnyH_ready (rs := [12]) (by kernel_rfl) (by simp) ?_
                refine AllReadyH.cons (o := ⟨some 93, _, _, _, _, _⟩) rfl (fun K hK => ?_) AllReadyH.nil
                go_simp
                (go_at_call 49; (with_reducible refine (HCQ _).out.mono ?_); rintro e w9 ⟨rfl, hb3⟩)
                refine hK.out _ _ (zT hHeld hb3) (fun hHeld2 => ?_)
                clear hK K hHeld hb3
                have hHeld := hHeld2
                clear hHeld2
                try simp only [Act.put, zA, zB, zC]
                refine TKB 13 94 (.bool false) rfl ?_ ?_
                · (intro w hSw; (try dsimp only at hSw); go_simp; try simp [hcp])
                try simp only [Act.put, zA, zB, zC]
                refine TKB 14 95 (.bool false) rfl ?_ ?_
                · (intro w hSw; (try dsimp only at hSw); go_simp; try rfl)
                try simp only [Act.put, zA, zB, zC]
                refine wpAnyH_done (by kernel_rfl) ?_ _
                replace HL := HL.below hHeld
                replace B6 := zI B6 hHeld
                replace hbq := hbq.trans (hHeld.mono hwb)
                clear hHeld hwb HLs
                clear c3_5 FC FC0 B60 HCQ
                have HINS : Hid (posR L nm L.length = m + 1) := Lib.hid (HPO.out.symm.trans (posR_stop HP9.out (by omega)))
                clear HPO hcp
                go_wp2
                go_roundw
                case rel =>
                  refine ⟨L.length + 1, some ⟨ga, 0, none⟩, cap, insF L (nm, k), by go_num, by omega, insF_len _ _, Lib.hid ?_, Lib.hid ?_, ?_, hbq⟩
                  · rw [insF_map (g := fun p : ByteArray × JV => (p.1, er p.2)) (fun _ => rfl), HAC.out, take_next (x := (nm, nrmT (er x))) (by rw [List.getElem?_zip_eq_some]; exact ⟨HX2.out, by rw [List.getElem?_map, erL_map, List.getElem?_map, HX1.out]; rfl⟩), List.foldl_append, ← HK2.out]
                    rfl
                  · intro p hp
                    rcases List.mem_cons.1 ((insF_perm L (nm, k)).mem_iff.1 hp) with hp | hp
                    · rw [hp]; exact List.mem_of_getElem? HX2.out
                    · exact HAN.out p hp
                  · rw [insF_len]
                    have e : insF L (nm, k) = L.take (m + 1) ++ (nm, k) :: L.drop (m + 1) := by unfold insF; rw [HINS.out]
                    rw [e]
                    refine PK.reacc HL (fun y hy => ?_)
                    rw [← e] at hy
                    obtain ⟨p, hp, rfl⟩ := List.mem_map.1 hy
                    rcases List.mem_cons.1 ((insF_perm L (nm, k)).mem_iff.1 hp) with hp | hp
                    · rw [hp]; simp
                    · exact List.mem_append_left _ (List.mem_map.2 ⟨p, hp, rfl⟩)
                case measure => simp [intOf]; omega
      · have hqe := Lib.hid (Nat.le_antisymm hq (Nat.le_of_not_lt hqL))
        replace B2 := IBox.below B2 hbq (by have := HZ.out; omega)
        replace HB := HB.trans (hbq.mono (by have := HZ.out; omega))
        have HFJ := pk_obj HL (fun p hp => jv_nm_le2 HJ0 (HAN.out p hp)) (by unfold reach; omega)
        have HFO := HFJ.2
        replace HFJ := HFJ.1
        have B3 := HL.box
        clear HL
        go_wp2_with (first
          | ((with_reducible refine is_load ?_); refine wpl_load_box rfl 25 (.tmp 3) rfl _ rfl _ (objJ A c L).cells _ B3 Tryz.underlying25 rfl info_value ?_)
          | ((with_reducible refine is_store ?_); refine wpl_store_at rfl 25 (.tmp 2) (.tmp 114) rfl w1.heap.size (objJ A c L).cells rfl rfl _ _ B2 info_value rfl (jv_one _) ?_; intro w5 hw; have hbe := Bes.row (X := fun q => q = w1.heap.size) hw rfl; replace HB := HB.trans (Bes.below hbe (fun q e => by have e2 : q = w1.heap.size := e; have := HZ.out; omega) HB.size); replace B2 := hid_row hw B2; replace HFJ := IsJV.bes hbe HFJ (Off.mono (fun q e => by have e2 : q = w1.heap.size := e; have := HZ.out; show q < w3.heap.size; omega) HFO); clear hw hbe))
        refine bodyPost_ret (results_box rfl _ _ w1.heap.size _ (objJ A c L).cells _ rfl B2 Tryz.underlying25 rfl info_value) rfl ?_
        exact ⟨objJ A c L, rfl, HFJ, (er_no A c L _ (HAC.out.trans (by rw [List.take_of_length_le (by rw [List.length_zip, List.length_map, erL_len]; have := LV.out; have := hqe.out; omega)]; rfl))).trans HK.out.symm, Off.mono (fun q e => by have := HZ.out; show q < w3.heap.size; have e2 : q < w.heap.size := e; omega) HFO, HB⟩
end Go.Proofs.YtnjhmnolngdfaaaGreatDoor
