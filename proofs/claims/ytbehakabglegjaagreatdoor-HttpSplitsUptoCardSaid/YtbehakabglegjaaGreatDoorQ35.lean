/- Layer 9: parts make a target, by the document. -/
import Derived.Test.YtbehakabglegjaaGreatDoorQ29
import Derived.Test.YtbehakabglegjaaGreatDoorQ22
import Derived.Test.YtbehakabglegjaaGreatDoorQ34
namespace Go.Proofs.YtbehakabglegjaaGreatDoor
open Go.RowKit Go.PlainAid
set_option linter.unusedVariables false
set_option linter.unusedSimpArgs false
theorem own_slash {w : World} {g base : Nat} (h : IBox w g 5 #[.int .u8 47]) (hb : base ≤ g) : OwnM w base (.slice (some ⟨g, 0, none⟩) 1 1) [47] :=
  .inl ⟨rfl, .inr ⟨g, 1, #[.int .u8 47], rfl, hb, h, Nat.le_refl _, by decide, rfl, rfl⟩⟩
set_option maxRecDepth 100000 in
set_option maxHeartbeats 16000000 in
theorem rjoin_any {pv qv : Value} {path : List ByteArray} {query : List (ByteArray × ByteArray)} {w : World} (hp : TxAt w pv path) (hq : HdAt w qv query) (hsz : 2 + (path.map pSz).sum + (query.map qSz).sum ≤ 1099511627776) (hl1 : path.length ≤ 140737488355328) (hl2 : query.length ≤ 140737488355328) :
    Calls Tryz.prog 30 #[pv, qv] w fun e w' => e = .returned (.string (txt (joinS path query))) ∧ Below w.heap.size w w' := by
  obtain ⟨pA, pc, rfl, hpc⟩ := id hp
  obtain ⟨qA, qc, rfl, hqc⟩ := id hq
  have HP := Lib.hid hp
  have HQ := Lib.hid hq
  have HSZ := Lib.hid hsz
  have HL1 := Lib.hid hl1
  have HL2 := Lib.hid hl2
  obtain ⟨ie, hie1, hie2, hie3, hie4⟩ := u8_info
  have HB := Below.refl w.heap.size w
  clear hp hq hpc hqc hsz hl1 hl2
  go_enter Tryz.func30, Tryz.ntmps30
  go_wp2_with (first
    | ((with_reducible refine is_slice ?_); refine wpl_u8 rfl (.const (.int .u8 47)) rfl (47 : UInt8) rfl ?_; intro w1 hb B9; have HO : OwnM w1 w.heap.size (.slice (some ⟨w.heap.size, 0, none⟩) 1 1) (47 :: pathL (path.take 0)) := own_slash B9 (Nat.le_refl _); replace HB := HB.trans hb; clear hb B9))
  go_loopw [6, 5, 7] (fun iv bv _ wr => ∃ i : Nat, iv = .int .i64 (i : Int) ∧ i ≤ path.length ∧ OwnM wr w.heap.size bv (47 :: pathL (path.take i)) ∧ Below w.heap.size w wr) (fun iv _ _ _ => match iv with | .int _ i => path.length - i.toNat | _ => 0)
  case atStart => exact ⟨0, rfl, Nat.zero_le _, HO, HB⟩
  case round =>
    clear HB HO
    obtain ⟨i, rfl, hi, HO, HB⟩ := hrel
    have hl1 := HL1.out
    by_cases hlt : i < path.length
    · obtain ⟨pn, hpi⟩ : ∃ p, path[i]? = some p := ⟨_, List.getElem?_eq_getElem hlt⟩
      obtain ⟨A2, c2, hv2, hcells⟩ := HP.out.below HB
      obtain ⟨gh, off, hA2, e1⟩ := hcells i pn hpi
      injection hv2 with v1 v2 v3
      clear v2 v3
      subst v1
      subst hA2
      have HT : Hid (47 :: pathL (path.take (i + 1)) = 47 :: pathL (path.take i) ++ (if i = 0 then escL pn else 47 :: escL pn)) := Lib.hid (by
        rw [List.take_add_one, hpi]
        show 47 :: pathL (path.take i ++ [pn]) = _
        rw [pathL_snoc]
        simp only [take_nil_iff hi]
        rfl)
      have HLN : Hid ((47 :: pathL (path.take i)).length + 3 * pn.size + 1 ≤ 1099511627776) := Lib.hid (by
        have h1 := pathL_le (path.take i)
        have h2 := sum_take pSz hpi
        have h3 := HSZ.out
        unfold pSz at h1 h2 h3
        rw [List.length_cons]
        omega)
      generalize 47 :: pathL (path.take i) = ac at HO HLN HT
      have hlx := HLN.out
      have hel := escL_le pn
      have HCX : Hid (∀ w', Below w.heap.size w w' → w'.cell? ⟨gh, off + i, none⟩ = some (.string pn)) := Lib.hid (fun w' hb => by
        obtain ⟨A3, c3, hv3, hc3⟩ := HP.out.below hb
        obtain ⟨g3, o3, hA3, e3⟩ := hc3 i pn hpi
        injection hv3 with v1 _ _
        rw [← v1] at hA3
        injection hA3 with hA3
        injection hA3 with h1 h2
        subst h1
        subst h2
        exact e3)
      have HES : Hid (∀ wx, Calls Tryz.prog 53 #[.string pn] wx fun e w' => e = .returned (.string (txt (escL pn))) ∧ Below wx.heap.size wx w') := Lib.hid (fun wx => rescaped_any (by omega))
      clear hcells hpi
      by_cases h0 : i = 0
      · rw [if_pos h0] at HT
        have hip : ¬ 0 < i := by omega
        clear h0
        go_wp2_with (first
          | (go_at_call 53; (with_reducible refine (HES.out _).mono ?_); rintro e w4 ⟨rfl, hb⟩; replace HO := HO.below hb; replace HB := HB.trans (hb.mono HB.size); clear hb)
          | ((with_reducible refine is_app (.tmp 27) (.tmp 28) ?_); refine wpl_app_strM rfl (.tmp 27) (.tmp 28) 23 9 rfl Tryz.underlying23 Tryz.underlying9 rfl HO (txt (escL pn)) rfl (by rw [txt_size]; omega) HB.size ?_; intro v6 w6 h6 hk; replace HO := h6; replace HB := HB.trans hk.1; clear h6 hk))
        go_roundw
        case rel => exact ⟨i + 1, rfl, by omega, (by rw [HT.out]; exact HO), HB⟩
        case measure => (simp only; omega)
      · rw [if_neg h0] at HT
        have hip : 0 < i := by omega
        clear h0
        have cx0 := e1
        go_wp2_with (first
          | ((with_reducible refine is_slice ?_); refine wpl_u8 rfl (.const (.int .u8 47)) rfl (47 : UInt8) rfl ?_; intro w1 hb B9; replace HO := HO.below hb; replace HB := HB.trans (hb.mono HB.size); clear hb)
          | ((with_reducible refine is_app (.tmp 19) (.tmp 20) ?_); refine wpl_app_rowM rfl (.tmp 19) (.tmp 20) 23 rfl Tryz.underlying23 rfl HO rfl (bt_ibox (l := [47]) B9) (by show ac.length + 1 ≤ _; omega) HB.size ?_; intro v3 w3 ho hk; replace HO := ho; replace HB := HB.trans hk.1; clear ho hk B9 cx0; clear e1; have e1 := HCX.out _ HB)
          | (go_at_call 53; (with_reducible refine (HES.out _).mono ?_); rintro e w4 ⟨rfl, hb⟩; replace HO := HO.below hb; replace HB := HB.trans (hb.mono HB.size); clear hb)
          | ((with_reducible refine is_app (.tmp 27) (.tmp 28) ?_); refine wpl_app_strM rfl (.tmp 27) (.tmp 28) 23 9 rfl Tryz.underlying23 Tryz.underlying9 rfl HO (txt (escL pn)) rfl (by rw [List.length_append, List.length_singleton, txt_size]; omega) HB.size ?_; intro v6 w6 h6 hk; replace HO := h6; replace HB := HB.trans hk.1; clear h6 hk))
        go_roundw
        case rel => exact ⟨i + 1, rfl, by omega, (by rw [HT.out]; rw [List.append_assoc] at HO; exact HO), HB⟩
        case measure => (simp only; omega)
    · obtain rfl : i = path.length := by omega
      rw [List.take_length] at HO
      clear hlt hi
      go_wp2
      go_loopw [8, 5, 9] (fun iv bv _ wr => ∃ i : Nat, iv = .int .i64 (i : Int) ∧ i ≤ query.length ∧ OwnM wr w.heap.size bv (47 :: pathL path ++ queryL (query.take i)) ∧ Below w.heap.size w wr) (fun iv _ _ _ => match iv with | .int _ i => query.length - i.toNat | _ => 0)
      case atStart => exact ⟨0, rfl, Nat.zero_le _, by simpa [queryL] using HO, HB⟩
      case round =>
        clear HB HO
        obtain ⟨i, rfl, hi, HO, HB⟩ := hrel
        have hl2 := HL2.out
        by_cases hlt : i < query.length
        · obtain ⟨p, hpi⟩ : ∃ p, query[i]? = some p := ⟨_, List.getElem?_eq_getElem hlt⟩
          obtain ⟨A2, c2, hv2, hcells⟩ := HQ.out.below HB
          obtain ⟨gh, off, hA2, e1, e2⟩ := hcells i p hpi
          injection hv2 with v1 v2 v3
          clear v2 v3
          subst v1
          subst hA2
          have HT : Hid (47 :: pathL path ++ queryL (query.take (i + 1)) = 47 :: pathL path ++ queryL (query.take i) ++ ((if i = 0 then 63 else 38) :: parmL p)) := Lib.hid (by
            rw [List.take_add_one, hpi]
            show 47 :: pathL path ++ queryL (query.take i ++ [p]) = _
            rw [queryL_snoc]
            simp only [take_nil_iff hi, List.append_assoc])
          have HLN : Hid ((47 :: pathL path ++ queryL (query.take i)).length + 3 * p.1.size + 3 * p.2.size + 2 ≤ 1099511627776) := Lib.hid (by
            have h0 := pathL_le path
            have h1 := queryL_le (query.take i)
            have h2 := sum_take qSz hpi
            have h3 := HSZ.out
            have h4 : qSz p = 3 * p.1.size + 3 * p.2.size + 2 := rfl
            rw [List.length_append, List.length_cons]
            omega)
          obtain ⟨pn, pv⟩ := p
          have HPM : Hid (parmL (pn, pv) = escL pn ++ 61 :: escL pv) := Lib.hid rfl
          generalize parmL (pn, pv) = pm at HT HPM
          dsimp only at e1 e2 HLN
          generalize 47 :: pathL path ++ queryL (query.take i) = ac at HO HLN HT
          have hlx := HLN.out
          have hel := escL_le pn
          have hel2 := escL_le pv
          have HCX : Hid (∀ w', Below w.heap.size w w' → w'.cell? ⟨gh, off + i * 2, none⟩ = some (.string pn) ∧ w'.cell? ⟨gh, off + i * 2 + 1, none⟩ = some (.string pv)) := Lib.hid (fun w' hb => by
            obtain ⟨A3, c3, hv3, hc3⟩ := HQ.out.below hb
            obtain ⟨g3, o3, hA3, e3, e4⟩ := hc3 i (pn, pv) hpi
            injection hv3 with v1 _ _
            rw [← v1] at hA3
            injection hA3 with hA3
            injection hA3 with h1 h2
            subst h1
            subst h2
            exact ⟨e3, e4⟩)
          have HES : Hid (∀ wx, Calls Tryz.prog 53 #[.string pn] wx fun e w' => e = .returned (.string (txt (escL pn))) ∧ Below wx.heap.size wx w') := Lib.hid (fun wx => rescaped_any (by omega))
          have HES2 : Hid (∀ wx, Calls Tryz.prog 53 #[.string pv] wx fun e w' => e = .returned (.string (txt (escL pv))) ∧ Below wx.heap.size wx w') := Lib.hid (fun wx => rescaped_any (by omega))
          have hn1 : ¬ 9223372036854775807 < (txt (escL pn)).size + 1 := by rw [txt_size]; omega
          have hn2 : ¬ 9223372036854775807 < (txt (escL pn)).size + 1 + (txt (escL pv)).size := by rw [txt_size, txt_size]; omega
          have HCT : Hid (((txt (escL pn) ++ (⟨#[61]⟩ : ByteArray)) ++ txt (escL pv)).data.toList = escL pn ++ 61 :: escL pv) := Lib.hid (by
            simp only [ByteArray.data_append, Array.toList_append]
            show escL pn ++ [61] ++ escL pv = _
            simp)
          have HCZ : Hid (((txt (escL pn) ++ (⟨#[61]⟩ : ByteArray)) ++ txt (escL pv)).size ≤ 3 * pn.size + 1 + 3 * pv.size) := Lib.hid (by
            rw [ByteArray.size_append, ByteArray.size_append, txt_size, txt_size]
            show (escL pn).length + 1 + (escL pv).length ≤ _
            omega)
          clear hcells hpi e1 e2
          by_cases h0 : i = 0
          · rw [if_pos h0] at HT
            subst h0
            have HCX0 : Hid (∀ w', Below w.heap.size w w' → w'.cell? ⟨gh, off, none⟩ = some (.string pn) ∧ w'.cell? ⟨gh, off + 1, none⟩ = some (.string pv)) := Lib.hid (fun w' hb => by simpa using HCX.out w' hb)
            clear HCX
            go_wp2_with (first
              | ((with_reducible refine is_slice ?_); refine wpl_u8 rfl (.const (.int .u8 63)) rfl (63 : UInt8) rfl ?_; intro w1 hb B9; replace HO := HO.below hb; replace HB := HB.trans (hb.mono HB.size); clear hb)
              | ((with_reducible refine is_app (.tmp 38) (.tmp 39) ?_); refine wpl_app_rowM rfl (.tmp 38) (.tmp 39) 23 rfl Tryz.underlying23 rfl HO rfl (bt_ibox (l := [63]) B9) (by show ac.length + 1 ≤ _; omega) HB.size ?_; intro v3 w3 ho hk; replace HO := ho; replace HB := HB.trans hk.1; clear ho hk B9))
            refine wp_region_S (S := fun w' => w'.cell? ⟨gh, off, none⟩ = some (.string pn) ∧ w'.cell? ⟨gh, off + 1, none⟩ = some (.string pv)) (by kernel_rfl) (fun w5 hh => ⟨cell_heap hh (HCX0.out _ HB).1, cell_heap hh (HCX0.out _ HB).2⟩) (fun w5 hh hbb HS0 => ?_)
            have hb := hbb _ (Nat.le_refl _)
            replace HO := HO.below hb
            replace HB := HB.trans (hb.mono HB.size)
            clear hh hbb hb
            refine TKC 0 44 rfl ?_
            try simp only [Act.put, zA, zB, zC]
            refine TKC 1 45 rfl ?_
            try simp only [Act.put, zA, zB, zC]
            refine TKC 2 46 rfl ?_
            try simp only [Act.put, zA, zB, zC]
            refine TKC 3 47 rfl ?_
            try simp only [Act.put, zA, zB, zC]
            refine TKC 4 48 rfl ?_ (by (intro w hSw; (try dsimp only at hSw); have q1 := hSw.1; go_simp; try with_reducible rfl))
            try simp only [Act.put, zA, zB, zC]
            refine TKC 7 51 rfl ?_
            try simp only [Act.put, zA, zB, zC]
            refine TKC 8 52 rfl ?_
            try simp only [Act.put, zA, zB, zC]
            refine TKC 9 53 rfl ?_
            try simp only [Act.put, zA, zB, zC]
            refine TKC 10 54 rfl ?_
            try simp only [Act.put, zA, zB, zC]
            refine TKC 11 55 rfl ?_ (by (intro w hSw; (try dsimp only at hSw); have q1 := hSw.2; go_simp; try with_reducible rfl))
            try simp only [Act.put, zA, zB, zC]
            refine wpAnyH_ready (rs := [5]) (by kernel_rfl) (by simp) ?_
            refine AllReadyH.cons (o := ⟨some 49, _, _, _, _, _⟩) rfl (fun K hK => ?_) AllReadyH.nil
            go_simp
            (go_at_call 53; (with_reducible refine (HES.out _).mono ?_); rintro e w6 ⟨rfl, hb⟩)
            replace HO := HO.below hb
            replace HB := HB.trans (hb.mono HB.size)
            clear hb
            replace HS0 : w6.cell? ⟨gh, off, none⟩ = some (.string pn) ∧ w6.cell? ⟨gh, off + 1, none⟩ = some (.string pv) := HCX0.out _ HB
            refine hK.out _ _ HS0 (fun hS2 => ?_)
            clear hK K hS2
            try simp only [Act.put, zA, zB, zC]
            refine TKC 6 50 rfl ?_
            try simp only [Act.put, zA, zB, zC]
            refine wpAnyH_ready (rs := [12]) (by kernel_rfl) (by simp) ?_
            refine AllReadyH.cons (o := ⟨some 56, _, _, _, _, _⟩) rfl (fun K hK => ?_) AllReadyH.nil
            go_simp
            (go_at_call 53; (with_reducible refine (HES2.out _).mono ?_); rintro e w7 ⟨rfl, hb⟩)
            replace HO := HO.below hb
            replace HB := HB.trans (hb.mono HB.size)
            clear hb
            replace HS0 : w7.cell? ⟨gh, off, none⟩ = some (.string pn) ∧ w7.cell? ⟨gh, off + 1, none⟩ = some (.string pv) := HCX0.out _ HB
            refine hK.out _ _ HS0 (fun hS2 => ?_)
            clear hK K hS2
            try simp only [Act.put, zA, zB, zC]
            refine TKC 13 57 rfl ?_
            try simp only [Act.put, zA, zB, zC]
            refine TKC 14 9 rfl ?_
            try simp only [Act.put, zA, zB, zC]
            refine wpAnyH_done (by kernel_rfl) ?_ _
            clear HS0
            go_wp2_with (first
              | ((with_reducible refine is_app (.tmp 58) (.tmp 59) ?_); refine wpl_app_strM rfl (.tmp 58) (.tmp 59) 23 9 rfl Tryz.underlying23 Tryz.underlying9 rfl HO ((txt (escL pn) ++ (⟨#[61]⟩ : ByteArray)) ++ txt (escL pv)) rfl (by have := HCZ.out; rw [List.length_append, List.length_singleton]; omega) HB.size ?_; intro v6 w6 h6 hk; replace HO := h6; replace HB := HB.trans hk.1; clear h6 hk))
            go_roundw
            case rel => exact ⟨0 + 1, rfl, by omega, (by rw [HT.out, HPM.out]; rw [HCT.out, List.append_assoc] at HO; exact HO), HB⟩
            case measure => (simp only; omega)
          · rw [if_neg h0] at HT
            have hiq : ((i : Int) == 0) = false := by rw [beq_eq_false_iff_ne]; omega
            clear h0
            go_wp2_with (first
              | ((with_reducible refine is_slice ?_); refine wpl_u8 rfl (.const (.int .u8 38)) rfl (38 : UInt8) rfl ?_; intro w1 hb B9; replace HO := HO.below hb; replace HB := HB.trans (hb.mono HB.size); clear hb)
              | ((with_reducible refine is_app (.tmp 41) (.tmp 42) ?_); refine wpl_app_rowM rfl (.tmp 41) (.tmp 42) 23 rfl Tryz.underlying23 rfl HO rfl (bt_ibox (l := [38]) B9) (by show ac.length + 1 ≤ _; omega) HB.size ?_; intro v3 w3 ho hk; replace HO := ho; replace HB := HB.trans hk.1; clear ho hk B9))
            refine wp_region_S (S := fun w' => w'.cell? ⟨gh, off + i * 2, none⟩ = some (.string pn) ∧ w'.cell? ⟨gh, off + i * 2 + 1, none⟩ = some (.string pv)) (by kernel_rfl) (fun w5 hh => ⟨cell_heap hh (HCX.out _ HB).1, cell_heap hh (HCX.out _ HB).2⟩) (fun w5 hh hbb HS0 => ?_)
            have hb := hbb _ (Nat.le_refl _)
            replace HO := HO.below hb
            replace HB := HB.trans (hb.mono HB.size)
            clear hh hbb hb
            refine TKC 0 44 rfl ?_
            try simp only [Act.put, zA, zB, zC]
            refine TKC 1 45 rfl ?_
            try simp only [Act.put, zA, zB, zC]
            refine TKC 2 46 rfl ?_
            try simp only [Act.put, zA, zB, zC]
            refine TKC 3 47 rfl ?_
            try simp only [Act.put, zA, zB, zC]
            refine TKC 4 48 rfl ?_ (by (intro w hSw; (try dsimp only at hSw); have q1 := hSw.1; go_simp; try with_reducible rfl))
            try simp only [Act.put, zA, zB, zC]
            refine TKC 7 51 rfl ?_
            try simp only [Act.put, zA, zB, zC]
            refine TKC 8 52 rfl ?_
            try simp only [Act.put, zA, zB, zC]
            refine TKC 9 53 rfl ?_
            try simp only [Act.put, zA, zB, zC]
            refine TKC 10 54 rfl ?_
            try simp only [Act.put, zA, zB, zC]
            refine TKC 11 55 rfl ?_ (by (intro w hSw; (try dsimp only at hSw); have q1 := hSw.2; go_simp; try with_reducible rfl))
            try simp only [Act.put, zA, zB, zC]
            refine wpAnyH_ready (rs := [5]) (by kernel_rfl) (by simp) ?_
            refine AllReadyH.cons (o := ⟨some 49, _, _, _, _, _⟩) rfl (fun K hK => ?_) AllReadyH.nil
            go_simp
            (go_at_call 53; (with_reducible refine (HES.out _).mono ?_); rintro e w6 ⟨rfl, hb⟩)
            replace HO := HO.below hb
            replace HB := HB.trans (hb.mono HB.size)
            clear hb
            replace HS0 : w6.cell? ⟨gh, off + i * 2, none⟩ = some (.string pn) ∧ w6.cell? ⟨gh, off + i * 2 + 1, none⟩ = some (.string pv) := HCX.out _ HB
            refine hK.out _ _ HS0 (fun hS2 => ?_)
            clear hK K hS2
            try simp only [Act.put, zA, zB, zC]
            refine TKC 6 50 rfl ?_
            try simp only [Act.put, zA, zB, zC]
            refine wpAnyH_ready (rs := [12]) (by kernel_rfl) (by simp) ?_
            refine AllReadyH.cons (o := ⟨some 56, _, _, _, _, _⟩) rfl (fun K hK => ?_) AllReadyH.nil
            go_simp
            (go_at_call 53; (with_reducible refine (HES2.out _).mono ?_); rintro e w7 ⟨rfl, hb⟩)
            replace HO := HO.below hb
            replace HB := HB.trans (hb.mono HB.size)
            clear hb
            replace HS0 : w7.cell? ⟨gh, off + i * 2, none⟩ = some (.string pn) ∧ w7.cell? ⟨gh, off + i * 2 + 1, none⟩ = some (.string pv) := HCX.out _ HB
            refine hK.out _ _ HS0 (fun hS2 => ?_)
            clear hK K hS2
            try simp only [Act.put, zA, zB, zC]
            refine TKC 13 57 rfl ?_
            try simp only [Act.put, zA, zB, zC]
            refine TKC 14 9 rfl ?_
            try simp only [Act.put, zA, zB, zC]
            refine wpAnyH_done (by kernel_rfl) ?_ _
            clear HS0
            go_wp2_with (first
              | ((with_reducible refine is_app (.tmp 58) (.tmp 59) ?_); refine wpl_app_strM rfl (.tmp 58) (.tmp 59) 23 9 rfl Tryz.underlying23 Tryz.underlying9 rfl HO ((txt (escL pn) ++ (⟨#[61]⟩ : ByteArray)) ++ txt (escL pv)) rfl (by have := HCZ.out; rw [List.length_append, List.length_singleton]; omega) HB.size ?_; intro v6 w6 h6 hk; replace HO := h6; replace HB := HB.trans hk.1; clear h6 hk))
            go_roundw
            case rel => exact ⟨i + 1, rfl, by omega, (by rw [HT.out, HPM.out]; rw [HCT.out, List.append_assoc] at HO; exact HO), HB⟩
            case measure => (simp only; omega)
        · obtain rfl : i = query.length := by omega
          rw [List.take_length] at HO
          have HF : Hid (47 :: pathL path ++ queryL query = joinS path query) := Lib.hid rfl
          rw [HF.out] at HO
          go_wp2_with ((with_reducible refine is_convert ?_); refine wpl_bt_text rfl (.tmp 61) rfl (OwnM.bt HO) rfl ?_)
          go_ret
          exact ⟨rfl, HB⟩
end Go.Proofs.YtbehakabglegjaaGreatDoor
