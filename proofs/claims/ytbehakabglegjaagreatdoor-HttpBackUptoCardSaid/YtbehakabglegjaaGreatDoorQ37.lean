/- Layer 9: the law HttpBack, walked. -/
import Derived.Test.YtbehakabglegjaaGreatDoorQ36
namespace Go.Proofs.YtbehakabglegjaaGreatDoor
open Go.RowKit Go.PlainAid
set_option linter.unusedVariables false
set_option linter.unusedSimpArgs false
set_option maxRecDepth 100000 in
set_option maxHeartbeats 32000000 in
theorem back_any {lv pv qv : Value} {L : List Mm} {ans : Bool} {path : List ByteArray} {query : List (ByteArray × ByteArray)} {w : World} (hL : MgsAt w lv L) (hP : TxAt w pv path) (hQ : HdAt w qv query) (hLn : L.length ≤ 1048576) (hLz : ∀ x ∈ L, msSz x.m ≤ 1048576)
    (hPz : (path.map pSz).sum ≤ 8388608) (hQz : (query.map qSz).sum ≤ 8388608) (hPn : path.length ≤ 1048576) (hQn : query.length ≤ 1048576) (hPs : ∀ t ∈ path, t.size ≤ 1048576) (hQs : ∀ t ∈ query, t.1.size ≤ 1048576 ∧ t.2.size ≤ 1048576) (hw : Wh w w.heap.size) :
    Calls Tryz.prog 6 #[lv, .bool ans, pv, qv] w fun e w' => e = .returned (.bool true) ∧ Below w.heap.size w w' := by
  obtain ⟨lA, lc, rfl, hLc⟩ := id hL
  obtain ⟨pA, pc, rfl, hpc⟩ := id hP
  obtain ⟨qA, qc, rfl, hqc⟩ := id hQ
  have HLC := Lib.hid hLc
  have HPC := Lib.hid hpc
  have HQC := Lib.hid hqc
  have HP := Lib.hid hP
  have HQ := Lib.hid hQ
  have HLN := Lib.hid hLn
  have HLZ := Lib.hid hLz
  have HPZ := Lib.hid hPz
  have HQZ := Lib.hid hQz
  have HPN := Lib.hid hPn
  have HQN := Lib.hid hQn
  have HPS := Lib.hid hPs
  have HQS := Lib.hid hQs
  have HW := Lib.hid hw
  clear hL hP hQ hLc hpc hqc hLn hLz hPz hQz hPn hQn hPs hQs hw
  go_enter Tryz.func6, Tryz.ntmps6
  go_wp2_with (first
    | (go_at_call 9; (refine (shown_any HW.out).mono ?_); rintro e w1 ⟨rfl, hb⟩; have HB := hb; clear hb)
    | (go_at_call 13; (with_reducible refine (new_any ans w1).mono ?_); rintro e w2 ⟨rfl, hM, hb⟩; have HM1 := Lib.hid hM; have HG1 := Lib.hid HB.size; replace HB := HB.trans (hb.mono HB.size); clear hM hb))
  have hbk : BkI ans w1.heap.size 0 w2 := ⟨newS ans, _, _, _, _, _, [], HM1.out, rfl, FI.new ans, newS_HZ ans, begin_idle rfl, (by cases ans <;> rfl), (by cases ans <;> exact Nat.le_refl _)⟩
  have HBK := Lib.hid hbk
  clear hbk HM1
  generalize w1.heap.size = g at *
  go_loopw [11, 12, 13, 14, 15, 18] (fun iv _ _ _ _ _ wr => ∃ i : Nat, iv = .int .i64 (i : Int) ∧ i ≤ L.length ∧ Hid (BkI ans g i wr) ∧ Below w.heap.size w wr) (fun iv _ _ _ _ _ _ => match iv with | .int _ i => L.length - i.toNat | _ => 0)
  case atStart => exact ⟨0, rfl, Nat.zero_le _, HBK, HB⟩
  case round =>
    clear HB HBK
    obtain ⟨i, rfl, hi, HBK, HB⟩ := hrel
    have hl := HLN.out
    by_cases hlt : i < L.length
    · obtain ⟨x, hx⟩ : ∃ x, L[i]? = some x := ⟨_, List.getElem?_eq_getElem hlt⟩
      obtain ⟨lb, lo, hA, hrow, hmg⟩ := HLC.out i x hx
      subst hA
      have hxz := HLZ.out x (List.mem_of_getElem? hx)
      obtain ⟨⟨me, ta, sn, re, hd, bo⟩, hsv, bdv⟩ := x
      obtain ⟨hA, hc, hhs, _⟩ := id hmg.hd
      obtain ⟨bA, bc, hbv, _⟩ := id hmg.bt
      dsimp only at hhs hbv
      subst hhs
      subst hbv
      have HMG := Lib.hid hmg
      have HROW : Hid (∀ w', Below w.heap.size w w' → w'.rangeAt lb (lo + i * 6) (#[.string me, .string ta, .int .i64 sn, .string re, .slice hA hd.length hc, .slice bA bo.length bc] : Array Value).toList) := Lib.hid fun w' hb => range_later hb hrow
      have hts := top_small hmg.st (Nat.le_trans hmg.bz (by decide))
      have hmsz : msSz ⟨me, ta, sn, re, hd, bo⟩ = me.size + ta.size + re.size + hdSz hd + bo.length := rfl
      dsimp only at hts hxz
      have g1 : ∀ wx, MgAt wx ⟨⟨me, ta, sn, re, hd, bo⟩, .slice hA hd.length hc, .slice bA bo.length bc⟩ → Wh wx wx.heap.size → _ := fun wx hwx hwh => write_any hwx (by dsimp only; omega) (by dsimp only; omega) (by dsimp only; omega) hwh (Lib.hid (by dsimp only; omega))
      clear hx hrow hmg hts hmsz hxz
      rcases writeS_three ⟨me, ta, sn, re, hd, bo⟩ with ⟨bs, hv⟩ | hv | hv
      · have HWR : Hid (∀ wx, MgAt wx ⟨⟨me, ta, sn, re, hd, bo⟩, .slice hA hd.length hc, .slice bA bo.length bc⟩ → Wh wx wx.heap.size → Calls Tryz.prog 10 #[.agg #[.string me, .string ta, .int .i64 sn, .string re, .slice hA hd.length hc, .slice bA bo.length bc]] wx fun e w' => (∃ b, e = .returned (.tuple #[b, .nilIface]) ∧ OwnM w' wx.heap.size b bs) ∧ Below wx.heap.size wx w') := Lib.hid fun wx hwx hwh => (g1 wx hwx hwh).mono (by
          rintro e w' ⟨⟨v, rfl, h⟩, hb⟩
          rw [hv] at h
          rcases h with ⟨_, b, rfl, ho⟩ | ⟨k, e1, e2, _⟩
          · exact ⟨⟨b, rfl, ho⟩, hb⟩
          · injection e1 with e1 _
            exact absurd e1.symm e2)
        have HV := Lib.hid hv
        obtain ⟨_, hh64, hb65⟩ := writeS_len hv
        dsimp only at hh64 hb65
        have hwr : IntKind.i64.wrap ((hd.length : Int) + 1) = (hd.length : Int) + 1 := by rw [IntKind.wrap_i64]; omega
        clear g1 hv
        have hcs : (ans = true ∧ me.size ≠ 0) ∨ (ans = false ∧ me.size = 0) ∨ (ans = true ∧ me.size = 0) ∨ (ans = false ∧ me.size ≠ 0) := by
          cases ans <;> by_cases h0 : me.size = 0 <;> simp [h0]
        rcases hcs with ⟨rfl, h0⟩ | ⟨rfl, h0⟩ | ⟨rfl, h0⟩ | ⟨rfl, h0⟩
        · have hne := ne_empty h0
          clear h0
          go_wp2_with (first
            | ((with_reducible refine is_load ?_); refine wpl_load_arr rfl 25 (.tmp 41) rfl lb (lo + i * 6) rfl #[.string me, .string ta, .int .i64 sn, .string re, .slice hA hd.length hc, .slice bA bo.length bc] _ (HROW.out _ HB) Tryz.underlying25 rfl info_msg ?_)
            | (go_at_call 10; (refine (HWR.out _ (HMG.out.below HB) ((HW.out.below HB).up HB.size)).mono ?_); rintro e w3 ⟨⟨b, rfl, ho⟩, hb⟩; replace HB := HB.trans (hb.mono HB.size); replace HBK := Lib.hid (HBK.out.later hb); have c0 : w3.cell? ⟨lb, lo + i * 6, none⟩ = some (.string me) := HROW.out _ HB 0 _ rfl; clear hb ho))
          go_roundw
          case rel => exact ⟨i + 1, rfl, by omega, Lib.hid HBK.out.up, HB⟩
          case measure => (simp only; omega)
        · have hne := is_empty h0
          clear h0
          go_wp2_with (first
            | ((with_reducible refine is_load ?_); refine wpl_load_arr rfl 25 (.tmp 41) rfl lb (lo + i * 6) rfl #[.string me, .string ta, .int .i64 sn, .string re, .slice hA hd.length hc, .slice bA bo.length bc] _ (HROW.out _ HB) Tryz.underlying25 rfl info_msg ?_)
            | (go_at_call 10; (refine (HWR.out _ (HMG.out.below HB) ((HW.out.below HB).up HB.size)).mono ?_); rintro e w3 ⟨⟨b, rfl, ho⟩, hb⟩; replace HB := HB.trans (hb.mono HB.size); replace HBK := Lib.hid (HBK.out.later hb); have c0 : w3.cell? ⟨lb, lo + i * 6, none⟩ = some (.string me) := HROW.out _ HB 0 _ rfl; clear hb ho))
          go_roundw
          case rel => exact ⟨i + 1, rfl, by omega, Lib.hid HBK.out.up, HB⟩
          case measure => (simp only; omega)
        · have HA : Hid (true = decide (me.size = 0)) := Lib.hid (by simp [h0])
          have hne := is_empty h0
          clear h0
          go_wp2_with (first
            | ((with_reducible refine is_load ?_); refine wpl_load_arr rfl 25 (.tmp 41) rfl lb (lo + i * 6) rfl #[.string me, .string ta, .int .i64 sn, .string re, .slice hA hd.length hc, .slice bA bo.length bc] _ (HROW.out _ HB) Tryz.underlying25 rfl info_msg ?_)
            | (go_at_call 10; (refine (HWR.out _ (HMG.out.below HB) ((HW.out.below HB).up HB.size)).mono ?_); rintro e w3 ⟨⟨b, rfl, ho⟩, hb⟩; replace HB := HB.trans (hb.mono HB.size); obtain ⟨G, nx, tk, hs, bd, wh, L0, G2, hF, hnx, hI, hZ, hpos, hbl, hfed, hwh, hbt, hnext⟩ := HBK.out.fed hb ho HV.out HA.out (by omega); have HFG := Lib.hid hF; have HNX := Lib.hid hnx; have HI := Lib.hid hI; have HZ3 := Lib.hid hZ; have HPO := Lib.hid hpos; have HBL := Lib.hid hbl; have HFED := Lib.hid hfed; have HWL := Lib.hid hwh; have HBT := Lib.hid hbt; have HNEXT := Lib.hid hnext; clear hF hnx hI hZ hpos hbl hfed hwh hbt hnext HBK; have c0 : w3.cell? ⟨lb, lo + i * 6, none⟩ = some (.string me) := HROW.out _ HB 0 _ rfl; clear hb ho)
            | (go_at_call 14; (refine (feed_any (l := bs) HFG.out HNX.out HI.out HZ3.out ((HW.out.below HB).upto HG1.out) (by have := HBL.out; omega) HPO.out HBT.out).mono ?_); rintro e w5 hq; unfold FeV at hq; rw [HFED.out] at hq; obtain ⟨hbl, nx5, tk5, hs5, bd5, wh5, L5, rfl, hM, hnx, hI5, hZ5⟩ := hq; replace HB := HB.trans (hbl.b.mono HG1.out); obtain ⟨mb, mc, y, rfl, hy, hyb, hycap, hyr⟩ := back_got hM HWL.out; have HBK := Lib.hid (HNEXT.out _ _ _ _ _ _ _ hM hnx hI5 hZ5); obtain ⟨ym, yhs, ybd⟩ := y; (have hy2 : ym = { (⟨me, ta, sn, re, hd, bo⟩ : Ms) with heads := hd ++ [lenH bo.length] } := hy); subst hy2; obtain ⟨yA, yc, ehs, yhc⟩ := id hyb.hd; obtain ⟨uA, uc, ebd, _⟩ := id hyb.bt; (dsimp only at ehs ebd yhc); (have hlq : (hd ++ [lenH bo.length]).length = hd.length + 1 := by simp); rw [hlq] at ehs; subst ehs; subst ebd; obtain ⟨yb, yo, hyA, yk1, yk2⟩ := yhc hd.length (lenH bo.length) (by simp); subst hyA; (have hycc : hd.length + 1 ≤ yc := (by obtain ⟨_, _, _, e, hle⟩ := hycap; injection e with _ e2 e3; omega)); have HYB := Lib.hid hyb; have HYR : Hid (w5.rangeAt mb 0 (#[.string me, .string ta, .int .i64 sn, .string re, .slice (some ⟨yb, yo, none⟩) (hd.length + 1) yc, .slice uA bo.length uc] : Array Value).toList) := Lib.hid hyr; have HYK := Lib.hid (row_two yk1 yk2); clear hM hnx hI5 hZ5 hbl hy hyb hycap hyr yhc yk1 yk2 hlq HFG HNX HI HZ3 HNEXT HBT HWL HFED c0))
          refine wp_region_S (S := fun w' => w'.cell? ⟨mb, 4, none⟩ = some (.slice (some ⟨yb, yo, none⟩) (hd.length + 1) yc) ∧ w'.cell? ⟨lb, lo + i * 6 + 4, none⟩ = some (.slice hA hd.length hc)) (by kernel_rfl) (fun w6 hh => ⟨cell_heap hh (by have h := HYR.out 4 _ rfl; rw [Nat.zero_add] at h; exact h), cell_heap hh (HROW.out _ HB 4 _ rfl)⟩) (fun w6 hh hbb HS0 => ?_)
          have hb := hbb w5.heap.size (Nat.le_refl _)
          replace HB := HB.trans (hb.mono HB.size)
          replace HBK := Lib.hid (HBK.out.later hb)
          replace HYB := Lib.hid (HYB.out.below hb)
          replace HYR := Lib.hid (range_later hb HYR.out)
          replace HYK := Lib.hid (range_later hb HYK.out)
          clear hh hbb hb
          refine TKC 0 64 rfl ?_
          try simp only [Act.put, zA, zB, zC]
          refine TKC 1 65 rfl ?_
          try simp only [Act.put, zA, zB, zC]
          refine TKC 2 66 rfl ?_
          try simp only [Act.put, zA, zB, zC]
          refine TKC 3 67 rfl ?_
          try simp only [Act.put, zA, zB, zC]
          refine TKC 4 68 rfl ?_
          try simp only [Act.put, zA, zB, zC]
          refine TKC 5 69 rfl ?_
          try simp only [Act.put, zA, zB, zC]
          refine TKC 6 70 rfl ?_
          try simp only [Act.put, zA, zB, zC]
          refine TKC 7 71 rfl ?_
          try simp only [Act.put, zA, zB, zC]
          refine TKC 8 72 rfl ?_
          try simp only [Act.put, zA, zB, zC]
          refine TKC 9 73 rfl ?_
          try simp only [Act.put, zA, zB, zC]
          refine TKC 10 74 rfl ?_
          try simp only [Act.put, zA, zB, zC]
          refine TKC 11 75 rfl ?_ (by (intro w hSw; (try dsimp only at hSw); have q1 := hSw.1; go_simp; try with_reducible rfl))
          try simp only [Act.put, zA, zB, zC]
          refine TKC 12 76 rfl ?_
          try simp only [Act.put, zA, zB, zC]
          refine TKC 13 77 rfl ?_
          try simp only [Act.put, zA, zB, zC]
          refine TKC 14 78 rfl ?_
          try simp only [Act.put, zA, zB, zC]
          refine TKC 15 79 rfl ?_
          try simp only [Act.put, zA, zB, zC]
          refine TKC 16 80 rfl ?_
          try simp only [Act.put, zA, zB, zC]
          refine TKC 17 81 rfl ?_ (by (intro w hSw; (try dsimp only at hSw); have q1 := hSw.2; go_simp; try with_reducible rfl))
          try simp only [Act.put, zA, zB, zC]
          refine TKC 18 82 rfl ?_
          try simp only [Act.put, zA, zB, zC]
          refine TKC 19 83 rfl ?_
          try simp only [Act.put, zA, zB, zC]
          refine TKC 20 84 rfl ?_
          try simp only [Act.put, zA, zB, zC]
          refine TKC 21 85 rfl ?_
          try simp only [Act.put, zA, zB, zC]
          refine wpAnyH_done (by kernel_rfl) ?_ _
          clear HS0
          have hg6 : w.heap.size ≤ w6.heap.size := HB.size
          go_wp2_with (first
            | ((with_reducible refine is_load ?_); go_must (refine wpl_load_arr rfl 25 (.tmp 87) rfl mb 0 rfl #[.string me, .string ta, .int .i64 sn, .string re, .slice (some ⟨yb, yo, none⟩) (hd.length + 1) yc, .slice uA bo.length uc] _ HYR.out Tryz.underlying25 rfl info_msg ?_))
            | (refine wpl_newbox 16 rfl rfl 25 rfl rfl (.tmp 88) rfl _ zeroMg #[.string me, .string ta, .int .i64 sn, .string re, .slice (some ⟨yb, yo, none⟩) (hd.length + 1) yc, .slice uA bo.length uc] rfl rfl info_msg rfl (by simp [Value.oneCell']) ?_; intro w7 hw; have HB6 := hid_grow hw; have BX := (hid_alloc hw).1; clear hw))
          refine wp_region_S (S := fun w' => w'.cell? ⟨w6.heap.size, 4, none⟩ = some (.slice (some ⟨yb, yo, none⟩) (hd.length + 1) yc) ∧ w'.cell? ⟨lb, lo + i * 6 + 4, none⟩ = some (.slice hA hd.length hc) ∧ w'.rangeAt yb (yo + hd.length * 2) (hdA (txt lengthL) (txt (Lib.decDigits bo.length))).toList) (by kernel_rfl) (fun w8 hh => ⟨cell_heap hh (BX.cell 4), cell_heap hh (HROW.out _ (HB.trans (HB6.mono HB.size)) 4 _ rfl), rangeAt_heap hh (range_later HB6 HYK.out)⟩) (fun w8 hh hbb HS0 => ?_)
          have hb := hbb w7.heap.size (Nat.le_refl _)
          have h67 := HB6.size
          replace HB6 := HB6.trans (hb.mono HB6.size)
          replace BX := box_heap hh BX
          clear hh hbb hb
          refine TKC 0 89 rfl ?_
          try simp only [Act.put, zA, zB, zC]
          refine TKC 1 90 rfl ?_ (by (intro w hSw; (try dsimp only at hSw); have q1 := hSw.1; go_simp; try with_reducible rfl))
          try simp only [Act.put, zA, zB, zC]
          refine TKC 2 91 rfl ?_
          try simp only [Act.put, zA, zB, zC]
          refine TKC 3 92 rfl ?_
          try simp only [Act.put, zA, zB, zC]
          refine TKC 4 93 rfl ?_
          try simp only [Act.put, zA, zB, zC]
          refine TKC 5 94 rfl ?_
          try simp only [Act.put, zA, zB, zC]
          refine TKC 6 95 rfl ?_ (by (intro w hSw; (try dsimp only at hSw); have q1 := hSw.2.1; go_simp; try with_reducible rfl))
          try simp only [Act.put, zA, zB, zC]
          refine TKC 7 96 rfl ?_
          try simp only [Act.put, zA, zB, zC]
          refine TKC 8 97 rfl ?_ (by (intro w hSw; (try dsimp only at hSw); have q1 : (hd.length : Int) < (hd.length : Int) + 1 := (by omega); go_simp; try with_reducible rfl))
          try simp only [Act.put, zA, zB, zC]
          refine TKY 9 98 rfl (yields_rowS (by kernel_rfl) 51 (.tmp 97) rfl yb (yo + hd.length * 2) rfl (hdA (txt lengthL) (txt (Lib.decDigits bo.length))) _ (fun w' hS => hS.2.2) Tryz.underlying51 rfl info_hd2) ?_
          try simp only [Act.put, zA, zB, zC]
          refine wpAnyH_ready (rs := [10]) (by kernel_rfl) (by simp) ?_
          refine AllReadyH.cons (o := ⟨some 17, _, _, _, _, _⟩) rfl (fun K hK => ?_) AllReadyH.nil
          simp only [Region.wanted, if_true]
          refine op_alloc_at 51 rfl _ zeroHd ?_
          intro w9 hw
          have hb9 := hid_grow hw
          have BL := hid_alloc0 hw
          have hx8 := IBox.lt BX
          replace HS0 := (And.intro (cell_later hb9 HS0.1) (And.intro (cell_later hb9 HS0.2.1) (range_later hb9 HS0.2.2)))
          clear hw
          refine hK.out _ _ HS0 (fun hS2 => ?_)
          clear hK K hS2
          try simp only [Act.put, zA, zB, zC]
          refine wpAnyH_ready (rs := [11]) (by kernel_rfl) (by simp) ?_
          refine AllReadyH.cons (o := ⟨none, _, _, _, _, _⟩) rfl (fun K hK => ?_) AllReadyH.nil
          simp only [Region.wanted, if_true]
          refine op_store_at 51 _ _ rfl _ (hdA (txt lengthL) (txt (Lib.decDigits bo.length))) rfl rfl _ _ BL info_hd2 rfl (hd_one _ _) ?_
          intro w10 hw
          have hb8 : Below w8.heap.size w8 w10 := hb9.trans ((Bes.row (X := fun q => q = w8.heap.size) hw rfl).below (fun q e => Nat.le_of_eq e.symm) hb9.size)
          have hx4 := (IBox.below BX hb8 hx8).cell 4
          replace HS0 := (And.intro (show w10.cell? ⟨w6.heap.size, 4, none⟩ = some (.slice (some ⟨yb, yo, none⟩) (hd.length + 1) yc) from hx4) (And.intro (HROW.out w10 (HB.trans ((HB6.trans (hb8.mono HB6.size)).mono HB.size)) 4 _ rfl) (range_later (HB6.trans (hb8.mono HB6.size)) HYK.out)))
          clear hx4
          refine hK.out _ _ HS0 (fun hS2 => ?_)
          clear hK K hS2
          try simp only [Act.put, zA, zB, zC]
          refine wpAnyH_done (by kernel_rfl) ?_ _
          replace BL := hid_row hw BL
          replace BX := IBox.below BX hb8 hx8
          have HBL8 := Lib.hid hx8
          replace HB6 := HB6.trans (hb8.mono HB6.size)
          clear HS0 hw hb8 hb9 hx8 h67
          go_wp2
          refine wp_region_S (S := fun w' => w'.cell? ⟨lb, lo + i * 6 + 4, none⟩ = some (.slice hA hd.length hc)) (by kernel_rfl) (fun w11 hh => cell_heap hh (HROW.out _ (HB.trans (HB6.mono HB.size)) 4 _ rfl)) (fun w11 hh hbb HS0 => ?_)
          have hb := hbb w10.heap.size (Nat.le_refl _)
          replace HB6 := HB6.trans (hb.mono HB6.size)
          replace BX := box_heap hh BX
          replace BL := box_heap hh BL
          clear hh hbb hb
          refine TKC 0 99 rfl ?_
          try simp only [Act.put, zA, zB, zC]
          refine TKC 2 101 rfl ?_
          try simp only [Act.put, zA, zB, zC]
          refine TKC 3 102 rfl ?_
          try simp only [Act.put, zA, zB, zC]
          refine TKC 4 103 rfl ?_
          try simp only [Act.put, zA, zB, zC]
          refine TKC 5 104 rfl ?_
          try simp only [Act.put, zA, zB, zC]
          refine TKC 6 105 rfl ?_ (by (intro w hSw; (try dsimp only at hSw); have q1 := hSw; go_simp; try with_reducible rfl))
          try simp only [Act.put, zA, zB, zC]
          refine TKC 7 106 rfl ?_
          try simp only [Act.put, zA, zB, zC]
          refine wpAnyH_ready (rs := [1]) (by kernel_rfl) (by simp) ?_
          refine AllReadyH.cons (o := ⟨some 100, _, _, _, _, _⟩) rfl (fun K hK => ?_) AllReadyH.nil
          have cg : w11.cell? ⟨w6.heap.size, 4, none⟩ = some (.slice (some ⟨yb, yo, none⟩) (hd.length + 1) yc) := BX.cell 4
          go_simp
          clear cg
          refine hK.out _ _ HS0 (fun hS2 => ?_)
          clear hK K hS2
          try simp only [Act.put, zA, zB, zC]
          refine TKC 8 107 rfl ?_ (by (intro w hSw; (try dsimp only at hSw); have q1 : hd.length ≤ yc := (by omega); go_simp; try with_reducible rfl))
          try simp only [Act.put, zA, zB, zC]
          refine TKC 9 108 rfl ?_
          try simp only [Act.put, zA, zB, zC]
          refine wpAnyH_ready (rs := [10]) (by kernel_rfl) (by simp) ?_
          refine AllReadyH.cons (o := ⟨none, _, _, _, _, _⟩) rfl (fun K hK => ?_) AllReadyH.nil
          simp only [Region.wanted, if_true]
          refine op_store_cell 22 _ _ rfl w6.heap.size 4 rfl (.slice (some ⟨yb, yo, none⟩) hd.length yc) rfl _ _ BX (show 4 < 6 by decide) one_sh rfl ?_
          intro w12 hw
          have hbe := Bes.row (X := fun q => q = w6.heap.size) hw rfl
          have hb12 : Below w6.heap.size w11 w12 := hbe.below (fun q e => Nat.le_of_eq e.symm) HB6.size
          replace BX : IBox w12 w6.heap.size 25 #[.string me, .string ta, .int .i64 sn, .string re, .slice (some ⟨yb, yo, none⟩) hd.length yc, .slice uA bo.length uc] := hid_row hw BX
          replace BL := Bes.box hbe BL (fun e => absurd HBL8.out (by have e2 : w8.heap.size = w6.heap.size := e; omega))
          replace HB6 := HB6.trans hb12
          clear hw hbe hb12
          replace HS0 : w12.cell? ⟨lb, lo + i * 6 + 4, none⟩ = some (.slice hA hd.length hc) := HROW.out w12 (HB.trans (HB6.mono HB.size)) 4 _ rfl
          refine hK.out _ _ HS0 (fun hS2 => ?_)
          clear hK K hS2
          try simp only [Act.put, zA, zB, zC]
          refine wpAnyH_done (by kernel_rfl) ?_ _
          clear HS0
          have HSM : Hid (∀ w', Below w6.heap.size w6 w' → Calls Tryz.prog 19 #[.agg #[.string me, .string ta, .int .i64 sn, .string re, .slice (some ⟨yb, yo, none⟩) hd.length yc, .slice uA bo.length uc], .agg #[.string me, .string ta, .int .i64 sn, .string re, .slice hA hd.length hc, .slice bA bo.length bc]] w' fun e w'' => e = .returned (.bool true) ∧ Below w'.heap.size w' w'') := Lib.hid fun w' hb => by
            have hy := HYB.out.below hb
            refine same_yes (x := ⟨⟨me, ta, sn, re, hd, bo⟩, .slice (some ⟨yb, yo, none⟩) hd.length yc, .slice uA bo.length uc⟩) (y := ⟨⟨me, ta, sn, re, hd, bo⟩, .slice hA hd.length hc, .slice bA bo.length bc⟩) ⟨?_, hy.bt, by (show hd.length ≤ _; omega)⟩ (HMG.out.below (HB.trans (hb.mono HB.size))).b rfl
            obtain ⟨A2, c2, e2, hc2⟩ := hy.hd
            refine ⟨_, _, rfl, fun j p hp => ?_⟩
            dsimp only at e2 hc2
            obtain ⟨b3, o3, e3, k1, k2⟩ := hc2 j p (by rw [List.getElem?_append_left (List.getElem?_eq_some_iff.1 hp).1]; exact hp)
            injection e2 with e4 _ _
            exact ⟨b3, o3, e4.trans e3, k1, k2⟩
          go_wp2
          refine wp_region_S (S := fun w' => IBox w' w6.heap.size 25 #[.string me, .string ta, .int .i64 sn, .string re, .slice (some ⟨yb, yo, none⟩) hd.length yc, .slice uA bo.length uc] ∧ w'.rangeAt lb (lo + i * 6) (#[.string me, .string ta, .int .i64 sn, .string re, .slice hA hd.length hc, .slice bA bo.length bc] : Array Value).toList) (by kernel_rfl) (fun w13 hh => ⟨box_heap hh BX, rangeAt_heap hh (HROW.out _ (HB.trans (HB6.mono HB.size)))⟩) (fun w13 hh hbb HS0 => ?_)
          have hb := hbb w12.heap.size (Nat.le_refl _)
          replace HB6 := HB6.trans (hb.mono HB6.size)
          replace BX := box_heap hh BX
          replace BL := box_heap hh BL
          clear hh hbb hb
          refine TKY 0 109 rfl (yields_boxS (by kernel_rfl) 25 (.tmp 16) rfl w6.heap.size rfl _ _ _ (fun w' hS => hS.1) Tryz.underlying25 rfl info_msg) ?_
          try simp only [Act.put, zA, zB, zC]
          refine TKC 1 110 rfl ?_
          try simp only [Act.put, zA, zB, zC]
          refine TKC 2 111 rfl ?_
          try simp only [Act.put, zA, zB, zC]
          refine TKC 3 112 rfl ?_
          try simp only [Act.put, zA, zB, zC]
          refine TKY 4 113 rfl (yields_rowS (by kernel_rfl) 25 (.tmp 112) rfl lb (lo + i * 6) rfl #[.string me, .string ta, .int .i64 sn, .string re, .slice hA hd.length hc, .slice bA bo.length bc] _ (fun w' hS => hS.2) Tryz.underlying25 rfl info_msg) ?_
          try simp only [Act.put, zA, zB, zC]
          refine wpAnyH_ready (rs := [5]) (by kernel_rfl) (by simp) ?_
          refine AllReadyH.cons (o := ⟨some 114, _, _, _, _, _⟩) rfl (fun K hK => ?_) AllReadyH.nil
          go_simp
          (go_at_call 19; (with_reducible refine (HSM.out _ HB6).mono ?_); rintro e w14 ⟨rfl, hb⟩)
          replace BX := IBox.below BX hb (IBox.lt BX)
          replace BL := IBox.below BL hb (IBox.lt BL)
          replace HB6 := HB6.trans (hb.mono HB6.size)
          clear hb
          replace HS0 := And.intro BX (HROW.out w14 (HB.trans (HB6.mono HB.size)))
          refine hK.out _ _ HS0 (fun hS2 => ?_)
          clear hK K hS2
          try simp only [Act.put, zA, zB, zC]
          refine TKC 6 18 rfl ?_
          try simp only [Act.put, zA, zB, zC]
          refine wpAnyH_done (by kernel_rfl) ?_ _
          clear HS0
          have cL : w14.cell? ⟨w8.heap.size, 0, none⟩ = some (.string (⟨#[67, 111, 110, 116, 101, 110, 116, 45, 76, 101, 110, 103, 116, 104]⟩ : ByteArray)) := by rw [← lenT_is]; exact BL.cell 0
          go_wp2
          go_roundw
          case rel => exact ⟨i + 1, rfl, by omega, Lib.hid (HBK.out.later HB6), HB.trans (HB6.mono HB.size)⟩
          case measure => (simp only; omega)
        · have HA : Hid (false = decide (me.size = 0)) := Lib.hid (by simp [h0])
          have hne := ne_empty h0
          clear h0
          go_wp2_with (first
            | ((with_reducible refine is_load ?_); refine wpl_load_arr rfl 25 (.tmp 41) rfl lb (lo + i * 6) rfl #[.string me, .string ta, .int .i64 sn, .string re, .slice hA hd.length hc, .slice bA bo.length bc] _ (HROW.out _ HB) Tryz.underlying25 rfl info_msg ?_)
            | (go_at_call 10; (refine (HWR.out _ (HMG.out.below HB) ((HW.out.below HB).up HB.size)).mono ?_); rintro e w3 ⟨⟨b, rfl, ho⟩, hb⟩; replace HB := HB.trans (hb.mono HB.size); obtain ⟨G, nx, tk, hs, bd, wh, L0, G2, hF, hnx, hI, hZ, hpos, hbl, hfed, hwh, hbt, hnext⟩ := HBK.out.fed hb ho HV.out HA.out (by omega); have HFG := Lib.hid hF; have HNX := Lib.hid hnx; have HI := Lib.hid hI; have HZ3 := Lib.hid hZ; have HPO := Lib.hid hpos; have HBL := Lib.hid hbl; have HFED := Lib.hid hfed; have HWL := Lib.hid hwh; have HBT := Lib.hid hbt; have HNEXT := Lib.hid hnext; clear hF hnx hI hZ hpos hbl hfed hwh hbt hnext HBK; have c0 : w3.cell? ⟨lb, lo + i * 6, none⟩ = some (.string me) := HROW.out _ HB 0 _ rfl; clear hb ho)
            | (go_at_call 14; (refine (feed_any (l := bs) HFG.out HNX.out HI.out HZ3.out ((HW.out.below HB).upto HG1.out) (by have := HBL.out; omega) HPO.out HBT.out).mono ?_); rintro e w5 hq; unfold FeV at hq; rw [HFED.out] at hq; obtain ⟨hbl, nx5, tk5, hs5, bd5, wh5, L5, rfl, hM, hnx, hI5, hZ5⟩ := hq; replace HB := HB.trans (hbl.b.mono HG1.out); obtain ⟨mb, mc, y, rfl, hy, hyb, hycap, hyr⟩ := back_got hM HWL.out; have HBK := Lib.hid (HNEXT.out _ _ _ _ _ _ _ hM hnx hI5 hZ5); obtain ⟨ym, yhs, ybd⟩ := y; (have hy2 : ym = { (⟨me, ta, sn, re, hd, bo⟩ : Ms) with heads := hd ++ [lenH bo.length] } := hy); subst hy2; obtain ⟨yA, yc, ehs, yhc⟩ := id hyb.hd; obtain ⟨uA, uc, ebd, _⟩ := id hyb.bt; (dsimp only at ehs ebd yhc); (have hlq : (hd ++ [lenH bo.length]).length = hd.length + 1 := by simp); rw [hlq] at ehs; subst ehs; subst ebd; obtain ⟨yb, yo, hyA, yk1, yk2⟩ := yhc hd.length (lenH bo.length) (by simp); subst hyA; (have hycc : hd.length + 1 ≤ yc := (by obtain ⟨_, _, _, e, hle⟩ := hycap; injection e with _ e2 e3; omega)); have HYB := Lib.hid hyb; have HYR : Hid (w5.rangeAt mb 0 (#[.string me, .string ta, .int .i64 sn, .string re, .slice (some ⟨yb, yo, none⟩) (hd.length + 1) yc, .slice uA bo.length uc] : Array Value).toList) := Lib.hid hyr; have HYK := Lib.hid (row_two yk1 yk2); clear hM hnx hI5 hZ5 hbl hy hyb hycap hyr yhc yk1 yk2 hlq HFG HNX HI HZ3 HNEXT HBT HWL HFED c0))
          refine wp_region_S (S := fun w' => w'.cell? ⟨mb, 4, none⟩ = some (.slice (some ⟨yb, yo, none⟩) (hd.length + 1) yc) ∧ w'.cell? ⟨lb, lo + i * 6 + 4, none⟩ = some (.slice hA hd.length hc)) (by kernel_rfl) (fun w6 hh => ⟨cell_heap hh (by have h := HYR.out 4 _ rfl; rw [Nat.zero_add] at h; exact h), cell_heap hh (HROW.out _ HB 4 _ rfl)⟩) (fun w6 hh hbb HS0 => ?_)
          have hb := hbb w5.heap.size (Nat.le_refl _)
          replace HB := HB.trans (hb.mono HB.size)
          replace HBK := Lib.hid (HBK.out.later hb)
          replace HYB := Lib.hid (HYB.out.below hb)
          replace HYR := Lib.hid (range_later hb HYR.out)
          replace HYK := Lib.hid (range_later hb HYK.out)
          clear hh hbb hb
          refine TKC 0 64 rfl ?_
          try simp only [Act.put, zA, zB, zC]
          refine TKC 1 65 rfl ?_
          try simp only [Act.put, zA, zB, zC]
          refine TKC 2 66 rfl ?_
          try simp only [Act.put, zA, zB, zC]
          refine TKC 3 67 rfl ?_
          try simp only [Act.put, zA, zB, zC]
          refine TKC 4 68 rfl ?_
          try simp only [Act.put, zA, zB, zC]
          refine TKC 5 69 rfl ?_
          try simp only [Act.put, zA, zB, zC]
          refine TKC 6 70 rfl ?_
          try simp only [Act.put, zA, zB, zC]
          refine TKC 7 71 rfl ?_
          try simp only [Act.put, zA, zB, zC]
          refine TKC 8 72 rfl ?_
          try simp only [Act.put, zA, zB, zC]
          refine TKC 9 73 rfl ?_
          try simp only [Act.put, zA, zB, zC]
          refine TKC 10 74 rfl ?_
          try simp only [Act.put, zA, zB, zC]
          refine TKC 11 75 rfl ?_ (by (intro w hSw; (try dsimp only at hSw); have q1 := hSw.1; go_simp; try with_reducible rfl))
          try simp only [Act.put, zA, zB, zC]
          refine TKC 12 76 rfl ?_
          try simp only [Act.put, zA, zB, zC]
          refine TKC 13 77 rfl ?_
          try simp only [Act.put, zA, zB, zC]
          refine TKC 14 78 rfl ?_
          try simp only [Act.put, zA, zB, zC]
          refine TKC 15 79 rfl ?_
          try simp only [Act.put, zA, zB, zC]
          refine TKC 16 80 rfl ?_
          try simp only [Act.put, zA, zB, zC]
          refine TKC 17 81 rfl ?_ (by (intro w hSw; (try dsimp only at hSw); have q1 := hSw.2; go_simp; try with_reducible rfl))
          try simp only [Act.put, zA, zB, zC]
          refine TKC 18 82 rfl ?_
          try simp only [Act.put, zA, zB, zC]
          refine TKC 19 83 rfl ?_
          try simp only [Act.put, zA, zB, zC]
          refine TKC 20 84 rfl ?_
          try simp only [Act.put, zA, zB, zC]
          refine TKC 21 85 rfl ?_
          try simp only [Act.put, zA, zB, zC]
          refine wpAnyH_done (by kernel_rfl) ?_ _
          clear HS0
          have hg6 : w.heap.size ≤ w6.heap.size := HB.size
          go_wp2_with (first
            | ((with_reducible refine is_load ?_); go_must (refine wpl_load_arr rfl 25 (.tmp 87) rfl mb 0 rfl #[.string me, .string ta, .int .i64 sn, .string re, .slice (some ⟨yb, yo, none⟩) (hd.length + 1) yc, .slice uA bo.length uc] _ HYR.out Tryz.underlying25 rfl info_msg ?_))
            | (refine wpl_newbox 16 rfl rfl 25 rfl rfl (.tmp 88) rfl _ zeroMg #[.string me, .string ta, .int .i64 sn, .string re, .slice (some ⟨yb, yo, none⟩) (hd.length + 1) yc, .slice uA bo.length uc] rfl rfl info_msg rfl (by simp [Value.oneCell']) ?_; intro w7 hw; have HB6 := hid_grow hw; have BX := (hid_alloc hw).1; clear hw))
          refine wp_region_S (S := fun w' => w'.cell? ⟨w6.heap.size, 4, none⟩ = some (.slice (some ⟨yb, yo, none⟩) (hd.length + 1) yc) ∧ w'.cell? ⟨lb, lo + i * 6 + 4, none⟩ = some (.slice hA hd.length hc) ∧ w'.rangeAt yb (yo + hd.length * 2) (hdA (txt lengthL) (txt (Lib.decDigits bo.length))).toList) (by kernel_rfl) (fun w8 hh => ⟨cell_heap hh (BX.cell 4), cell_heap hh (HROW.out _ (HB.trans (HB6.mono HB.size)) 4 _ rfl), rangeAt_heap hh (range_later HB6 HYK.out)⟩) (fun w8 hh hbb HS0 => ?_)
          have hb := hbb w7.heap.size (Nat.le_refl _)
          have h67 := HB6.size
          replace HB6 := HB6.trans (hb.mono HB6.size)
          replace BX := box_heap hh BX
          clear hh hbb hb
          refine TKC 0 89 rfl ?_
          try simp only [Act.put, zA, zB, zC]
          refine TKC 1 90 rfl ?_ (by (intro w hSw; (try dsimp only at hSw); have q1 := hSw.1; go_simp; try with_reducible rfl))
          try simp only [Act.put, zA, zB, zC]
          refine TKC 2 91 rfl ?_
          try simp only [Act.put, zA, zB, zC]
          refine TKC 3 92 rfl ?_
          try simp only [Act.put, zA, zB, zC]
          refine TKC 4 93 rfl ?_
          try simp only [Act.put, zA, zB, zC]
          refine TKC 5 94 rfl ?_
          try simp only [Act.put, zA, zB, zC]
          refine TKC 6 95 rfl ?_ (by (intro w hSw; (try dsimp only at hSw); have q1 := hSw.2.1; go_simp; try with_reducible rfl))
          try simp only [Act.put, zA, zB, zC]
          refine TKC 7 96 rfl ?_
          try simp only [Act.put, zA, zB, zC]
          refine TKC 8 97 rfl ?_ (by (intro w hSw; (try dsimp only at hSw); have q1 : (hd.length : Int) < (hd.length : Int) + 1 := (by omega); go_simp; try with_reducible rfl))
          try simp only [Act.put, zA, zB, zC]
          refine TKY 9 98 rfl (yields_rowS (by kernel_rfl) 51 (.tmp 97) rfl yb (yo + hd.length * 2) rfl (hdA (txt lengthL) (txt (Lib.decDigits bo.length))) _ (fun w' hS => hS.2.2) Tryz.underlying51 rfl info_hd2) ?_
          try simp only [Act.put, zA, zB, zC]
          refine wpAnyH_ready (rs := [10]) (by kernel_rfl) (by simp) ?_
          refine AllReadyH.cons (o := ⟨some 17, _, _, _, _, _⟩) rfl (fun K hK => ?_) AllReadyH.nil
          simp only [Region.wanted, if_true]
          refine op_alloc_at 51 rfl _ zeroHd ?_
          intro w9 hw
          have hb9 := hid_grow hw
          have BL := hid_alloc0 hw
          have hx8 := IBox.lt BX
          replace HS0 := (And.intro (cell_later hb9 HS0.1) (And.intro (cell_later hb9 HS0.2.1) (range_later hb9 HS0.2.2)))
          clear hw
          refine hK.out _ _ HS0 (fun hS2 => ?_)
          clear hK K hS2
          try simp only [Act.put, zA, zB, zC]
          refine wpAnyH_ready (rs := [11]) (by kernel_rfl) (by simp) ?_
          refine AllReadyH.cons (o := ⟨none, _, _, _, _, _⟩) rfl (fun K hK => ?_) AllReadyH.nil
          simp only [Region.wanted, if_true]
          refine op_store_at 51 _ _ rfl _ (hdA (txt lengthL) (txt (Lib.decDigits bo.length))) rfl rfl _ _ BL info_hd2 rfl (hd_one _ _) ?_
          intro w10 hw
          have hb8 : Below w8.heap.size w8 w10 := hb9.trans ((Bes.row (X := fun q => q = w8.heap.size) hw rfl).below (fun q e => Nat.le_of_eq e.symm) hb9.size)
          have hx4 := (IBox.below BX hb8 hx8).cell 4
          replace HS0 := (And.intro (show w10.cell? ⟨w6.heap.size, 4, none⟩ = some (.slice (some ⟨yb, yo, none⟩) (hd.length + 1) yc) from hx4) (And.intro (HROW.out w10 (HB.trans ((HB6.trans (hb8.mono HB6.size)).mono HB.size)) 4 _ rfl) (range_later (HB6.trans (hb8.mono HB6.size)) HYK.out)))
          clear hx4
          refine hK.out _ _ HS0 (fun hS2 => ?_)
          clear hK K hS2
          try simp only [Act.put, zA, zB, zC]
          refine wpAnyH_done (by kernel_rfl) ?_ _
          replace BL := hid_row hw BL
          replace BX := IBox.below BX hb8 hx8
          have HBL8 := Lib.hid hx8
          replace HB6 := HB6.trans (hb8.mono HB6.size)
          clear HS0 hw hb8 hb9 hx8 h67
          go_wp2
          refine wp_region_S (S := fun w' => w'.cell? ⟨lb, lo + i * 6 + 4, none⟩ = some (.slice hA hd.length hc)) (by kernel_rfl) (fun w11 hh => cell_heap hh (HROW.out _ (HB.trans (HB6.mono HB.size)) 4 _ rfl)) (fun w11 hh hbb HS0 => ?_)
          have hb := hbb w10.heap.size (Nat.le_refl _)
          replace HB6 := HB6.trans (hb.mono HB6.size)
          replace BX := box_heap hh BX
          replace BL := box_heap hh BL
          clear hh hbb hb
          refine TKC 0 99 rfl ?_
          try simp only [Act.put, zA, zB, zC]
          refine TKC 2 101 rfl ?_
          try simp only [Act.put, zA, zB, zC]
          refine TKC 3 102 rfl ?_
          try simp only [Act.put, zA, zB, zC]
          refine TKC 4 103 rfl ?_
          try simp only [Act.put, zA, zB, zC]
          refine TKC 5 104 rfl ?_
          try simp only [Act.put, zA, zB, zC]
          refine TKC 6 105 rfl ?_ (by (intro w hSw; (try dsimp only at hSw); have q1 := hSw; go_simp; try with_reducible rfl))
          try simp only [Act.put, zA, zB, zC]
          refine TKC 7 106 rfl ?_
          try simp only [Act.put, zA, zB, zC]
          refine wpAnyH_ready (rs := [1]) (by kernel_rfl) (by simp) ?_
          refine AllReadyH.cons (o := ⟨some 100, _, _, _, _, _⟩) rfl (fun K hK => ?_) AllReadyH.nil
          have cg : w11.cell? ⟨w6.heap.size, 4, none⟩ = some (.slice (some ⟨yb, yo, none⟩) (hd.length + 1) yc) := BX.cell 4
          go_simp
          clear cg
          refine hK.out _ _ HS0 (fun hS2 => ?_)
          clear hK K hS2
          try simp only [Act.put, zA, zB, zC]
          refine TKC 8 107 rfl ?_ (by (intro w hSw; (try dsimp only at hSw); have q1 : hd.length ≤ yc := (by omega); go_simp; try with_reducible rfl))
          try simp only [Act.put, zA, zB, zC]
          refine TKC 9 108 rfl ?_
          try simp only [Act.put, zA, zB, zC]
          refine wpAnyH_ready (rs := [10]) (by kernel_rfl) (by simp) ?_
          refine AllReadyH.cons (o := ⟨none, _, _, _, _, _⟩) rfl (fun K hK => ?_) AllReadyH.nil
          simp only [Region.wanted, if_true]
          refine op_store_cell 22 _ _ rfl w6.heap.size 4 rfl (.slice (some ⟨yb, yo, none⟩) hd.length yc) rfl _ _ BX (show 4 < 6 by decide) one_sh rfl ?_
          intro w12 hw
          have hbe := Bes.row (X := fun q => q = w6.heap.size) hw rfl
          have hb12 : Below w6.heap.size w11 w12 := hbe.below (fun q e => Nat.le_of_eq e.symm) HB6.size
          replace BX : IBox w12 w6.heap.size 25 #[.string me, .string ta, .int .i64 sn, .string re, .slice (some ⟨yb, yo, none⟩) hd.length yc, .slice uA bo.length uc] := hid_row hw BX
          replace BL := Bes.box hbe BL (fun e => absurd HBL8.out (by have e2 : w8.heap.size = w6.heap.size := e; omega))
          replace HB6 := HB6.trans hb12
          clear hw hbe hb12
          replace HS0 : w12.cell? ⟨lb, lo + i * 6 + 4, none⟩ = some (.slice hA hd.length hc) := HROW.out w12 (HB.trans (HB6.mono HB.size)) 4 _ rfl
          refine hK.out _ _ HS0 (fun hS2 => ?_)
          clear hK K hS2
          try simp only [Act.put, zA, zB, zC]
          refine wpAnyH_done (by kernel_rfl) ?_ _
          clear HS0
          have HSM : Hid (∀ w', Below w6.heap.size w6 w' → Calls Tryz.prog 19 #[.agg #[.string me, .string ta, .int .i64 sn, .string re, .slice (some ⟨yb, yo, none⟩) hd.length yc, .slice uA bo.length uc], .agg #[.string me, .string ta, .int .i64 sn, .string re, .slice hA hd.length hc, .slice bA bo.length bc]] w' fun e w'' => e = .returned (.bool true) ∧ Below w'.heap.size w' w'') := Lib.hid fun w' hb => by
            have hy := HYB.out.below hb
            refine same_yes (x := ⟨⟨me, ta, sn, re, hd, bo⟩, .slice (some ⟨yb, yo, none⟩) hd.length yc, .slice uA bo.length uc⟩) (y := ⟨⟨me, ta, sn, re, hd, bo⟩, .slice hA hd.length hc, .slice bA bo.length bc⟩) ⟨?_, hy.bt, by (show hd.length ≤ _; omega)⟩ (HMG.out.below (HB.trans (hb.mono HB.size))).b rfl
            obtain ⟨A2, c2, e2, hc2⟩ := hy.hd
            refine ⟨_, _, rfl, fun j p hp => ?_⟩
            dsimp only at e2 hc2
            obtain ⟨b3, o3, e3, k1, k2⟩ := hc2 j p (by rw [List.getElem?_append_left (List.getElem?_eq_some_iff.1 hp).1]; exact hp)
            injection e2 with e4 _ _
            exact ⟨b3, o3, e4.trans e3, k1, k2⟩
          go_wp2
          refine wp_region_S (S := fun w' => IBox w' w6.heap.size 25 #[.string me, .string ta, .int .i64 sn, .string re, .slice (some ⟨yb, yo, none⟩) hd.length yc, .slice uA bo.length uc] ∧ w'.rangeAt lb (lo + i * 6) (#[.string me, .string ta, .int .i64 sn, .string re, .slice hA hd.length hc, .slice bA bo.length bc] : Array Value).toList) (by kernel_rfl) (fun w13 hh => ⟨box_heap hh BX, rangeAt_heap hh (HROW.out _ (HB.trans (HB6.mono HB.size)))⟩) (fun w13 hh hbb HS0 => ?_)
          have hb := hbb w12.heap.size (Nat.le_refl _)
          replace HB6 := HB6.trans (hb.mono HB6.size)
          replace BX := box_heap hh BX
          replace BL := box_heap hh BL
          clear hh hbb hb
          refine TKY 0 109 rfl (yields_boxS (by kernel_rfl) 25 (.tmp 16) rfl w6.heap.size rfl _ _ _ (fun w' hS => hS.1) Tryz.underlying25 rfl info_msg) ?_
          try simp only [Act.put, zA, zB, zC]
          refine TKC 1 110 rfl ?_
          try simp only [Act.put, zA, zB, zC]
          refine TKC 2 111 rfl ?_
          try simp only [Act.put, zA, zB, zC]
          refine TKC 3 112 rfl ?_
          try simp only [Act.put, zA, zB, zC]
          refine TKY 4 113 rfl (yields_rowS (by kernel_rfl) 25 (.tmp 112) rfl lb (lo + i * 6) rfl #[.string me, .string ta, .int .i64 sn, .string re, .slice hA hd.length hc, .slice bA bo.length bc] _ (fun w' hS => hS.2) Tryz.underlying25 rfl info_msg) ?_
          try simp only [Act.put, zA, zB, zC]
          refine wpAnyH_ready (rs := [5]) (by kernel_rfl) (by simp) ?_
          refine AllReadyH.cons (o := ⟨some 114, _, _, _, _, _⟩) rfl (fun K hK => ?_) AllReadyH.nil
          go_simp
          (go_at_call 19; (with_reducible refine (HSM.out _ HB6).mono ?_); rintro e w14 ⟨rfl, hb⟩)
          replace BX := IBox.below BX hb (IBox.lt BX)
          replace BL := IBox.below BL hb (IBox.lt BL)
          replace HB6 := HB6.trans (hb.mono HB6.size)
          clear hb
          replace HS0 := And.intro BX (HROW.out w14 (HB.trans (HB6.mono HB.size)))
          refine hK.out _ _ HS0 (fun hS2 => ?_)
          clear hK K hS2
          try simp only [Act.put, zA, zB, zC]
          refine TKC 6 18 rfl ?_
          try simp only [Act.put, zA, zB, zC]
          refine wpAnyH_done (by kernel_rfl) ?_ _
          clear HS0
          have cL : w14.cell? ⟨w8.heap.size, 0, none⟩ = some (.string (⟨#[67, 111, 110, 116, 101, 110, 116, 45, 76, 101, 110, 103, 116, 104]⟩ : ByteArray)) := by rw [← lenT_is]; exact BL.cell 0
          go_wp2
          go_roundw
          case rel => exact ⟨i + 1, rfl, by omega, Lib.hid (HBK.out.later HB6), HB.trans (HB6.mono HB.size)⟩
          case measure => (simp only; omega)
      · have HWR : Hid (∀ wx, MgAt wx ⟨⟨me, ta, sn, re, hd, bo⟩, .slice hA hd.length hc, .slice bA bo.length bc⟩ → Wh wx wx.heap.size → Calls Tryz.prog 10 #[.agg #[.string me, .string ta, .int .i64 sn, .string re, .slice hA hd.length hc, .slice bA bo.length bc]] wx fun e w' => (∃ b, e = .returned (.tuple #[b, .iface 31 (.int .i64 1)]) ∧ True) ∧ Below wx.heap.size wx w') := Lib.hid fun wx hwx hwh => (g1 wx hwx hwh).mono (by
          rintro e w' ⟨⟨v, rfl, h⟩, hb⟩
          rw [hv] at h
          rcases h with ⟨e0, _⟩ | ⟨k, e1, e2, rfl⟩
          · exact absurd e0 (by decide)
          · injection e1 with e1 _
            subst e1
            exact ⟨⟨_, rfl, trivial⟩, hb⟩)
        clear g1 hv
        go_wp2_with (first
          | ((with_reducible refine is_load ?_); refine wpl_load_arr rfl 25 (.tmp 41) rfl lb (lo + i * 6) rfl #[.string me, .string ta, .int .i64 sn, .string re, .slice hA hd.length hc, .slice bA bo.length bc] _ (HROW.out _ HB) Tryz.underlying25 rfl info_msg ?_)
          | (go_at_call 10; (refine (HWR.out _ (HMG.out.below HB) ((HW.out.below HB).up HB.size)).mono ?_); rintro e w3 ⟨⟨b, rfl, ho⟩, hb⟩; replace HB := HB.trans (hb.mono HB.size); replace HBK := Lib.hid (HBK.out.later hb); clear hb ho))
        go_roundw
        case rel => exact ⟨i + 1, rfl, by omega, Lib.hid HBK.out.up, HB⟩
        case measure => (simp only; omega)
      · have HWR : Hid (∀ wx, MgAt wx ⟨⟨me, ta, sn, re, hd, bo⟩, .slice hA hd.length hc, .slice bA bo.length bc⟩ → Wh wx wx.heap.size → Calls Tryz.prog 10 #[.agg #[.string me, .string ta, .int .i64 sn, .string re, .slice hA hd.length hc, .slice bA bo.length bc]] wx fun e w' => (∃ b, e = .returned (.tuple #[b, .iface 31 (.int .i64 2)]) ∧ True) ∧ Below wx.heap.size wx w') := Lib.hid fun wx hwx hwh => (g1 wx hwx hwh).mono (by
          rintro e w' ⟨⟨v, rfl, h⟩, hb⟩
          rw [hv] at h
          rcases h with ⟨e0, _⟩ | ⟨k, e1, e2, rfl⟩
          · exact absurd e0 (by decide)
          · injection e1 with e1 _
            subst e1
            exact ⟨⟨_, rfl, trivial⟩, hb⟩)
        clear g1 hv
        go_wp2_with (first
          | ((with_reducible refine is_load ?_); refine wpl_load_arr rfl 25 (.tmp 41) rfl lb (lo + i * 6) rfl #[.string me, .string ta, .int .i64 sn, .string re, .slice hA hd.length hc, .slice bA bo.length bc] _ (HROW.out _ HB) Tryz.underlying25 rfl info_msg ?_)
          | (go_at_call 10; (refine (HWR.out _ (HMG.out.below HB) ((HW.out.below HB).up HB.size)).mono ?_); rintro e w3 ⟨⟨b, rfl, ho⟩, hb⟩; replace HB := HB.trans (hb.mono HB.size); replace HBK := Lib.hid (HBK.out.later hb); clear hb ho))
        go_roundw
        case rel => exact ⟨i + 1, rfl, by omega, Lib.hid HBK.out.up, HB⟩
        case measure => (simp only; omega)
    · obtain rfl : i = L.length := by omega
      clear hlt hi HBK
      go_wp2
      go_loopw [20, 19] (fun iv sv wr => ∃ i : Nat, iv = .int .i64 (i : Int) ∧ i ≤ path.length ∧ sv = .bool (decide ((0 : Int) < (path.length : Int)) && (path.take i).all sndB) ∧ Below w.heap.size w wr) (fun iv _ _ => match iv with | .int _ i => path.length - i.toNat | _ => 0)
      case atStart => exact ⟨0, rfl, Nat.zero_le _, by simp, HB⟩
      case round =>
        clear HB
        obtain ⟨i, rfl, hi, rfl, HB⟩ := hrel
        have hl := HPN.out
        generalize hok : (decide ((0 : Int) < (path.length : Int)) && (path.take i).all sndB) = okv
        by_cases hlt : i < path.length
        · obtain ⟨t, ht⟩ : ∃ t, path[i]? = some t := ⟨_, List.getElem?_eq_getElem hlt⟩
          have hts := HPS.out t (List.mem_of_getElem? ht)
          obtain ⟨pb, po, hpA, hcl⟩ := HPC.out i t ht
          subst hpA
          have hcx := bl_cell HB hcl
          have HN : Hid ((decide ((0 : Int) < (path.length : Int)) && (path.take (i + 1)).all sndB) = (okv && sndB t)) := Lib.hid (by rw [all_next sndB ht, ← Bool.and_assoc, hok])
          have HBD : Hid (∀ wx, Calls Tryz.prog 20 #[.string t] wx fun e w' => e = .returned (.int .i64 (badI t)) ∧ Below wx.heap.size wx w') := Lib.hid fun wx => badu_any (by omega) wx
          clear hcl ht hok hts
          cases okv
          · go_wp2
            go_roundw
            case rel => exact ⟨i + 1, rfl, by omega, (by rw [HN.out]; rfl), HB⟩
            case measure => (simp only; omega)
          · by_cases hbt : badI t < 0
            · have HS : Hid (sndB t = true) := Lib.hid (by unfold sndB; simp [hbt])
              go_wp2_with (first
                | (go_at_call 20; (with_reducible refine (HBD.out _).mono ?_); rintro e w9 ⟨rfl, hb⟩; replace HB := HB.trans (hb.mono HB.size); clear hb))
              go_roundw
              case rel => exact ⟨i + 1, rfl, by omega, (by rw [HN.out, HS.out]; first | rfl | simp [hbt] | simp [hb1]), HB⟩
              case measure => (simp only; omega)
            · have HS : Hid (sndB t = false) := Lib.hid (by unfold sndB; simp [hbt])
              go_wp2_with (first
                | (go_at_call 20; (with_reducible refine (HBD.out _).mono ?_); rintro e w9 ⟨rfl, hb⟩; replace HB := HB.trans (hb.mono HB.size); clear hb))
              go_roundw
              case rel => exact ⟨i + 1, rfl, by omega, (by rw [HN.out, HS.out]; first | rfl | simp [hbt] | simp [hb1]), HB⟩
              case measure => (simp only; omega)
        · obtain rfl : i = path.length := by omega
          rw [List.take_length] at hok
          have HOK := Lib.hid hok
          clear hok hlt hi
          go_wp2
          go_loopw [21, 19] (fun iv sv wr => ∃ i : Nat, iv = .int .i64 (i : Int) ∧ i ≤ query.length ∧ sv = .bool (okv && (query.take i).all (fun p => sndB p.1 && sndB p.2)) ∧ Below w.heap.size w wr) (fun iv _ _ => match iv with | .int _ i => query.length - i.toNat | _ => 0)
          case atStart => exact ⟨0, rfl, Nat.zero_le _, by simp, HB⟩
          case round =>
            clear HB
            obtain ⟨i, rfl, hi, rfl, HB⟩ := hrel
            have hl := HQN.out
            generalize hok : (okv && (query.take i).all (fun p => sndB p.1 && sndB p.2)) = ok2
            by_cases hlt : i < query.length
            · obtain ⟨p, hp⟩ : ∃ p, query[i]? = some p := ⟨_, List.getElem?_eq_getElem hlt⟩
              obtain ⟨hts1, hts2⟩ := HQS.out p (List.mem_of_getElem? hp)
              obtain ⟨qb, qo, hqA, hc1, hc2⟩ := HQC.out i p hp
              subst hqA
              have HC1 : Hid (∀ w', Below w.heap.size w w' → w'.cell? ⟨qb, qo + i * 2, none⟩ = some (.string p.1)) := Lib.hid fun w' hb => bl_cell hb hc1
              have HC2 : Hid (∀ w', Below w.heap.size w w' → w'.cell? ⟨qb, qo + i * 2 + 1, none⟩ = some (.string p.2)) := Lib.hid fun w' hb => bl_cell hb hc2
              have HN : Hid ((okv && (query.take (i + 1)).all (fun p => sndB p.1 && sndB p.2)) = (ok2 && (sndB p.1 && sndB p.2))) := Lib.hid (by rw [all_next _ hp, ← Bool.and_assoc, hok])
              have HBD : Hid (∀ wx, Calls Tryz.prog 20 #[.string p.1] wx fun e w' => e = .returned (.int .i64 (badI p.1)) ∧ Below wx.heap.size wx w') := Lib.hid fun wx => badu_any (by omega) wx
              have HBE : Hid (∀ wx, Calls Tryz.prog 20 #[.string p.2] wx fun e w' => e = .returned (.int .i64 (badI p.2)) ∧ Below wx.heap.size wx w') := Lib.hid fun wx => badu_any (by omega) wx
              have hcx := HC1.out _ HB
              clear hc1 hc2 hp hok hts1 hts2
              cases ok2
              · go_wp2
                go_roundw
                case rel => exact ⟨i + 1, rfl, by omega, (by rw [HN.out]; rfl), HB⟩
                case measure => (simp only; omega)
              · by_cases hb1 : badI p.1 < 0
                · have HS : Hid (sndB p.1 = true) := Lib.hid (by unfold sndB; simp [hb1])
                  by_cases hb2 : badI p.2 < 0
                  · have HS2 : Hid (sndB p.2 = true) := Lib.hid (by unfold sndB; simp [hb2])
                    go_wp2_with (first
                      | (go_at_call 20; (with_reducible refine (HBD.out _).mono ?_); rintro e w9 ⟨rfl, hb⟩; replace HB := HB.trans (hb.mono HB.size); clear hb; have hcy := HC2.out _ HB)
                      | (go_at_call 20; (with_reducible refine (HBE.out _).mono ?_); rintro e w10 ⟨rfl, hb⟩; replace HB := HB.trans (hb.mono HB.size); clear hb))
                    go_roundw
                    case rel => exact ⟨i + 1, rfl, by omega, (by rw [HN.out, HS.out, HS2.out]; first | rfl | simp [hb2]), HB⟩
                    case measure => (simp only; omega)
                  · have HS2 : Hid (sndB p.2 = false) := Lib.hid (by unfold sndB; simp [hb2])
                    go_wp2_with (first
                      | (go_at_call 20; (with_reducible refine (HBD.out _).mono ?_); rintro e w9 ⟨rfl, hb⟩; replace HB := HB.trans (hb.mono HB.size); clear hb; have hcy := HC2.out _ HB)
                      | (go_at_call 20; (with_reducible refine (HBE.out _).mono ?_); rintro e w10 ⟨rfl, hb⟩; replace HB := HB.trans (hb.mono HB.size); clear hb))
                    go_roundw
                    case rel => exact ⟨i + 1, rfl, by omega, (by rw [HN.out, HS.out, HS2.out]; first | rfl | simp [hb2]), HB⟩
                    case measure => (simp only; omega)
                · have HS : Hid (sndB p.1 = false) := Lib.hid (by unfold sndB; simp [hb1])
                  go_wp2_with (first
                    | (go_at_call 20; (with_reducible refine (HBD.out _).mono ?_); rintro e w9 ⟨rfl, hb⟩; replace HB := HB.trans (hb.mono HB.size); clear hb; have hcy := HC2.out _ HB)
                    | (go_at_call 20; (with_reducible refine (HBE.out _).mono ?_); rintro e w10 ⟨rfl, hb⟩; replace HB := HB.trans (hb.mono HB.size); clear hb))
                  go_roundw
                  case rel => exact ⟨i + 1, rfl, by omega, (by rw [HN.out, HS.out]; first | rfl | simp [hbt] | simp [hb1]), HB⟩
                  case measure => (simp only; omega)
            · obtain rfl : i = query.length := by omega
              rw [List.take_length] at hok
              have HOK2 := Lib.hid hok
              clear hok hlt hi
              cases ok2
              · go_wp2
                go_ret
                exact ⟨rfl, HB⟩
              · have h1 : okv = true ∧ query.all (fun p => sndB p.1 && sndB p.2) = true := by have h := HOK2.out; simpa using h
                have h2 : 0 < path.length ∧ path.all sndB = true := by have h := HOK.out; rw [h1.1] at h; simpa using h
                have HSP : Hid (splitS (joinS path query) = .inr (path, query)) := Lib.hid (split_join (fun e => by rw [e] at h2; exact absurd h2.1 (by decide)) (fun t ht => by have h := List.all_eq_true.1 h2.2 t ht; unfold sndB at h; exact (show badI t < 0 from of_decide_eq_true h)) (fun t ht => by
                  have h := List.all_eq_true.1 h1.2 t ht
                  simp only [Bool.and_eq_true] at h
                  unfold sndB at h
                  exact ⟨show badI t.1 < 0 from of_decide_eq_true h.1, show badI t.2 < 0 from of_decide_eq_true h.2⟩))
                have HJL : Hid ((txt (joinS path query)).size ≤ 1099511627776) := Lib.hid (by
                  have h := join_len path query
                  have := HPZ.out
                  have := HQZ.out
                  rw [txt_size]
                  omega)
                clear h1 h2 HOK HOK2
                go_wp2_with (first
                  | (go_at_call 22; (refine (join_any (HP.out.below HB) (HQ.out.below HB) (by have := HPZ.out; have := HQZ.out; unfold wTop; omega) (by have := HPN.out; omega) (by have := HQN.out; omega)).mono ?_); rintro e wj ⟨rfl, hb⟩; replace HB := HB.trans (hb.mono HB.size); clear hb)
                  | (go_at_call 21; (refine (split_any HJL.out ((HW.out.below HB).up HB.size)).mono ?_); rintro e ws ⟨hv, hb⟩; rw [show bl (txt (joinS path query)) = joinS path query from rfl, HSP.out] at hv; obtain ⟨pv, qv, rfl, hT, hPm⟩ := hv; have HT := Lib.hid (tx_own hT); have HPM := Lib.hid (pm_own hPm); replace HB := HB.trans (hb.mono HB.size); clear hb hT hPm)
                  | (go_at_call 23; (refine (texts_eq HT.out (HP.out.below HB) (by have := HPN.out; omega) (by have := HPN.out; omega)).mono ?_); rintro e wt ⟨rfl, hb⟩; rw [show decide (path = path) = true from by simp]; replace HPM := Lib.hid (HPM.out.below hb); replace HB := HB.trans (hb.mono HB.size); clear hb)
                  | (go_at_call 24; (refine (params_eq HPM.out (HQ.out.below HB) (by have := HQN.out; omega) (by have := HQN.out; omega)).mono ?_); rintro e wp ⟨rfl, hb⟩; rw [show decide (query = query) = true from by simp]; replace HB := HB.trans (hb.mono HB.size); clear hb))
                go_ret
                exact ⟨rfl, HB⟩
theorem len_sum {α : Type} (f : α → Nat) : ∀ (l : List α), l.length ≤ (l.map fun y => f y + 1).sum
  | [] => Nat.le_refl _
  | a :: r => by
    have h := len_sum f r
    rw [List.map_cons, List.sum_cons, List.length_cons]
    omega
theorem p_sum : ∀ (l : List ByteArray), (l.map pSz).sum ≤ 3 * txSz l
  | [] => Nat.le_refl _
  | a :: r => by
    have h := p_sum r
    unfold txSz at *
    rw [List.map_cons, List.sum_cons, List.map_cons, List.sum_cons]
    unfold pSz at *
    omega
theorem q_sum : ∀ (l : List (ByteArray × ByteArray)), (l.map qSz).sum ≤ 3 * hdSz l
  | [] => Nat.le_refl _
  | a :: r => by
    have h := q_sum r
    unfold hdSz at *
    rw [List.map_cons, List.sum_cons, List.map_cons, List.sum_cons]
    unfold qSz at *
    omega
theorem q_len : ∀ (l : List (ByteArray × ByteArray)), l.length ≤ hdSz l
  | [] => Nat.le_refl _
  | a :: r => by
    have h := q_len r
    unfold hdSz at *
    rw [List.map_cons, List.sum_cons, List.length_cons]
    omega
theorem back_sized {lv pv qv : Value} {L : List Mm} {ans : Bool} {path : List ByteArray} {query : List (ByteArray × ByteArray)} {w : World} {B0 B1 B2 B3 : Nat} (hL : MgsAt w lv L) (hP : TxAt w pv path) (hQ : HdAt w qv query) (h0 : (L.map fun y => msSz y.m + 1).sum + 1 ≤ B0) (h2 : txSz path + 1 ≤ B2) (h3 : hdSz query + 1 ≤ B3) (hB : B0 + B1 + B2 + B3 ≤ 1048576) (hw : Wh w w.heap.size) :
    Calls Tryz.prog 6 #[lv, .bool ans, pv, qv] w fun e w' => e = .returned (.bool true) ∧ Below w.heap.size w w' := by
  have k1 := len_sum (fun y : Mm => msSz y.m) L
  have k2 := p_sum path
  have k3 := q_sum query
  have k4 := len_sum (fun s : ByteArray => s.size) path
  have k5 := q_len query
  change path.length ≤ txSz path at k4
  refine back_any hL hP hQ (by omega) (fun x hx => ?_) (by omega) (by omega) (by omega) (by omega) (fun t ht => ?_) (fun t ht => ?_) hw
  · have := sum_mem (fun y : Mm => msSz y.m + 1) hx
    omega
  · have := sum_mem (fun s : ByteArray => s.size + 1) ht
    change t.size + 1 ≤ txSz path at this
    omega
  · have := sum_mem (fun p : ByteArray × ByteArray => p.1.size + p.2.size + 3) ht
    change t.1.size + t.2.size + 3 ≤ hdSz query at this
    omega
end Go.Proofs.YtbehakabglegjaaGreatDoor
