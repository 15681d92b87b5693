/- Layer 9: a message is written, by the document. -/
import Derived.Test.YtbehakabglegjaaGreatDoorQ33
import Derived.Test.YtbehakabglegjaaGreatDoorQ29
namespace Go.Proofs.YtbehakabglegjaaGreatDoor
open Go.RowKit Go.PlainAid
set_option linter.unusedVariables false
set_option linter.unusedSimpArgs false
/-- What the document's Write gives. -/
def RwV (w : World) (base : Nat) (r : Int × List UInt8) (e : Ending) : Prop := ∃ v, e = .returned (.tuple #[v, .int .i64 r.1]) ∧ OwnM w base v r.2
set_option maxRecDepth 100000 in
set_option maxHeartbeats 64000000 in
theorem rwrite_go {me ta re : ByteArray} {sn : Int} {hd : List (ByteArray × ByteArray)} {bo : List UInt8} {hA bA : Option Addr} {hc bc : Nat} {w : World} (hm : MgAt w ⟨⟨me, ta, sn, re, hd, bo⟩, .slice hA hd.length hc, .slice bA bo.length bc⟩) (hsz : Hid ((topL ⟨me, ta, sn, re, hd, bo⟩).length + bo.length ≤ 140737488355328))
    (hst : ∀ w', Calls Tryz.prog 38 #[.agg #[.string me, .string ta, .int .i64 sn, .string re, .slice hA hd.length hc, .slice bA bo.length bc]] w' fun e w'' => e = .returned (.tuple #[.string (txt (startL ⟨me, ta, sn, re, hd, bo⟩ ++ crlf)), .bool (startB ⟨me, ta, sn, re, hd, bo⟩)]) ∧ Below w'.heap.size w' w'')
    (hcs : me.size ≠ 0 ∨ (me.size = 0 ∧ 100 ≤ sn ∧ sn ≤ 599)) :
    Calls Tryz.prog 11 #[.agg #[.string me, .string ta, .int .i64 sn, .string re, .slice hA hd.length hc, .slice bA bo.length bc]] w fun e w' => RwV w' w.heap.size (writeS ⟨me, ta, sn, re, hd, bo⟩) e ∧ Below w.heap.size w w' := by
  have HM := Lib.hid hm
  have HL : Hid (hd.length ≤ 140737488355328) := Lib.hid hm.hl
  have HST := Lib.hid hst
  clear hm hst
  generalize hSL : startL ⟨me, ta, sn, re, hd, bo⟩ = sl at HST
  generalize hSB : startB ⟨me, ta, sn, re, hd, bo⟩ = sb at HST
  have HSL := Lib.hid hSL
  have HSB := Lib.hid hSB
  clear hSL hSB
  rcases hcs with hn | ⟨hn, hn1, hn2⟩
  · have hne := ne_empty hn
    clear hn
    cases sb
    · have HV : Hid (writeS ⟨me, ta, sn, re, hd, bo⟩ = (1, [])) := Lib.hid (by unfold writeS; rw [if_pos (by rw [HSB.out]; rfl)])
      go_enter Tryz.func11, Tryz.ntmps11
      go_wp2_with (first
        | (refine wpl_box_at rfl 25 (.tmp 0) rfl _ rfl ?_; intro w1 hw; have B1 := hid_alloc0 hw; have HB := hid_grow hw; clear hw; have c0 : w1.cell? ⟨w.heap.size, 0, none⟩ = some (.string me) := B1.cell 0; have c2 : w1.cell? ⟨w.heap.size, 2, none⟩ = some (.int .i64 sn) := B1.cell 2)
        | ((with_reducible refine is_load ?_); refine wpl_load_box rfl 25 (.tmp 1) rfl _ rfl _ _ _ B1 Tryz.underlying25 rfl info_msg ?_)
        | (go_at_call 38; (refine (HST.out _).mono ?_); rintro e w2 ⟨rfl, hb⟩; replace B1 := IBox.below B1 hb (IBox.lt B1); replace HB := HB.trans (hb.mono HB.size); clear hb c0 c2; have c4 : w2.cell? ⟨w.heap.size, 4, none⟩ = some (.slice hA hd.length hc) := B1.cell 4))
      go_ret2
      exact ⟨⟨.slice none 0 0, (by rw [HV.out] <;> rfl), (by rw [HV.out]; exact .inl (OwnB.nil _ _))⟩, HB⟩
    · go_enter Tryz.func11, Tryz.ntmps11
      go_wp2_with (first
        | (refine wpl_box_at rfl 25 (.tmp 0) rfl _ rfl ?_; intro w1 hw; have B1 := hid_alloc0 hw; have HB := hid_grow hw; clear hw; have c0 : w1.cell? ⟨w.heap.size, 0, none⟩ = some (.string me) := B1.cell 0; have c2 : w1.cell? ⟨w.heap.size, 2, none⟩ = some (.int .i64 sn) := B1.cell 2)
        | ((with_reducible refine is_load ?_); refine wpl_load_box rfl 25 (.tmp 1) rfl _ rfl _ _ _ B1 Tryz.underlying25 rfl info_msg ?_)
        | (go_at_call 38; (refine (HST.out _).mono ?_); rintro e w2 ⟨rfl, hb⟩; replace B1 := IBox.below B1 hb (IBox.lt B1); replace HB := HB.trans (hb.mono HB.size); clear hb c0 c2; have c4 : w2.cell? ⟨w.heap.size, 4, none⟩ = some (.slice hA hd.length hc) := B1.cell 4))
      go_loopw [6, 7] (fun iv _ wr => ∃ i : Nat, iv = .int .i64 (i : Int) ∧ i ≤ hd.length ∧ (hd.take i).all fitB = true ∧ IBox wr w.heap.size 25 #[.string me, .string ta, .int .i64 sn, .string re, .slice hA hd.length hc, .slice bA bo.length bc] ∧ Below w.heap.size w wr) (fun iv _ _ => match iv with | .int _ i => (hd.length - i.toNat) | _ => 0)
      case atStart => exact ⟨0, rfl, Nat.zero_le _, by simp, B1, HB⟩
      case round =>
        clear HB c4 B1
        obtain ⟨i, rfl, hi, hall, B1, HB⟩ := hrel
        have c4 : wr.cell? ⟨w.heap.size, 4, none⟩ = some (.slice hA hd.length hc) := B1.cell 4
        have hl := HL.out
        by_cases hlt : i < hd.length
        · obtain ⟨p, hp⟩ : ∃ p, hd[i]? = some p := ⟨_, List.getElem?_eq_getElem hlt⟩
          have hpz := HM.out.hz p (List.mem_of_getElem? hp)
          obtain ⟨A2, c2, hv2, hcells⟩ := HM.out.hd.below HB
          obtain ⟨gh, off, hA2, e1, e2⟩ := hcells i p hp
          injection hv2 with v1 v2 v3
          clear v2 v3
          subst v1
          subst hA2
          obtain ⟨pn, pv⟩ := p
          obtain ⟨z1, z2⟩ : pn.size ≤ 140737488355328 ∧ pv.size ≤ 140737488355328 := hpz
          clear hcells
          have hrow := row_two e1 e2
          have HN : Hid ((hd.take (i + 1)).all fitB = fitB (pn, pv)) := Lib.hid (by
            rw [List.take_add_one, hp]
            simp only [Option.toList, List.all_append, List.all_cons, List.all_nil, Bool.and_true]
            rw [hall, Bool.true_and])
          have HF : Hid (∀ w, Calls Tryz.prog 39 #[.agg (hdA pn pv)] w fun e w' => e = .returned (.bool (fitB (pn, pv))) ∧ Below w.heap.size w w') := Lib.hid fun w => fits_any z1 z2
          have HNO : Hid (fitB (pn, pv) = false → hd.all fitB = false) := Lib.hid fun hf => by
            rw [List.all_eq_false]
            exact ⟨(pn, pv), List.mem_of_getElem? hp, by simp [hf]⟩
          generalize fitB (pn, pv) = fb at HN HF HNO
          clear hp hall z1 z2 e1 e2
          cases fb
          · have HV : Hid (writeS ⟨me, ta, sn, re, hd, bo⟩ = (1, [])) := Lib.hid (by unfold writeS; rw [if_pos (by rw [HSB.out]; exact HNO.out rfl)])
            clear HNO
            go_wp2_with (first
              | ((with_reducible refine is_load ?_); refine wpl_load_arr rfl 51 (.tmp 42) rfl gh (off + i * 2) rfl (hdA pn pv) _ hrow Tryz.underlying51 rfl info_hd2 ?_)
              | (go_at_call 39; (refine (HF.out _).mono ?_); rintro e w4 ⟨rfl, hb⟩; replace B1 := IBox.below B1 hb (IBox.lt B1); replace HB := HB.trans (hb.mono HB.size); clear hb))
            go_ret2
            exact ⟨⟨.slice none 0 0, (by rw [HV.out] <;> rfl), (by rw [HV.out]; exact .inl (OwnB.nil _ _))⟩, HB⟩
          · clear HNO
            go_wp2_with (first
              | ((with_reducible refine is_load ?_); refine wpl_load_arr rfl 51 (.tmp 42) rfl gh (off + i * 2) rfl (hdA pn pv) _ hrow Tryz.underlying51 rfl info_hd2 ?_)
              | (go_at_call 39; (refine (HF.out _).mono ?_); rintro e w4 ⟨rfl, hb⟩; replace B1 := IBox.below B1 hb (IBox.lt B1); replace HB := HB.trans (hb.mono HB.size); clear hb))
            go_roundw
            case rel => exact ⟨i + 1, rfl, by omega, HN.out, B1, HB⟩
            case measure => (simp only; omega)
        · obtain rfl : i = hd.length := by omega
          have HALL : Hid (hd.all fitB = true) := Lib.hid (by rw [List.take_length] at hall; exact hall)
          clear hall
          clear hlt hi
          have c5 : wr.cell? ⟨w.heap.size, 5, none⟩ = some (.slice bA bo.length bc) := B1.cell 5
          have HT2 : Hid (¬ (startB ⟨me, ta, sn, re, hd, bo⟩ && hd.all fitB) = false) := Lib.hid (by rw [HSB.out, HALL.out]; decide)
          by_cases h64 : 64 ≤ hd.length
          · have HV : Hid (writeS ⟨me, ta, sn, re, hd, bo⟩ = (2, [])) := Lib.hid (by unfold writeS; rw [if_neg HT2.out, if_pos (.inl h64)])
            have h63 : (63 : Int) < (hd.length : Int) := by omega
            clear h64 HT2
            go_wp2
            go_ret2
            exact ⟨⟨.slice none 0 0, (by rw [HV.out] <;> rfl), (by rw [HV.out]; exact .inl (OwnB.nil _ _))⟩, HB⟩
          · by_cases hbo : 65536 < bo.length
            · have HV : Hid (writeS ⟨me, ta, sn, re, hd, bo⟩ = (2, [])) := Lib.hid (by unfold writeS; rw [if_neg HT2.out, if_pos (.inr hbo)])
              have h63 : ¬ (63 : Int) < (hd.length : Int) := by omega
              have h65 : (65536 : Int) < (bo.length : Int) := by omega
              clear h64 HT2 hbo
              go_wp2
              go_ret2
              exact ⟨⟨.slice none 0 0, (by rw [HV.out] <;> rfl), (by rw [HV.out]; exact .inl (OwnB.nil _ _))⟩, HB⟩
            · have HV : Hid (writeS ⟨me, ta, sn, re, hd, bo⟩ = if 8192 < (topL ⟨me, ta, sn, re, hd, bo⟩).length then (2, []) else (0, topL ⟨me, ta, sn, re, hd, bo⟩ ++ bo)) := Lib.hid (by unfold writeS; rw [if_neg HT2.out, if_neg (by simp only; omega)])
              have HTL : Hid (topL ⟨me, ta, sn, re, hd, bo⟩ = sl ++ crlf ++ hd.flatMap headL ++ (lengthL ++ [58, 32] ++ Lib.itoa (bo.length : Int) ++ crlf ++ crlf)) := Lib.hid (by unfold topL; rw [HSL.out])
              have h63 : ¬ (63 : Int) < (hd.length : Int) := by omega
              have h65 : ¬ (65536 : Int) < (bo.length : Int) := by omega
              have HZ0 : Hid (([] : List UInt8).length + (sl ++ crlf).length ≤ 140737488355328) := Lib.hid (by
                have h1 := hsz.out
                rw [HTL.out] at h1
                simp only [List.length_append, List.length_nil] at h1 ⊢
                omega)
              clear HT2
              go_wp2_with (first
                | ((with_reducible refine is_app (.tmp 57) (.tmp 58) ?_); refine wpl_app_strM rfl (.tmp 57) (.tmp 58) 23 9 rfl Tryz.underlying23 Tryz.underlying9 rfl (base := w.heap.size) (l := []) (.inl (OwnB.nil _ _)) (txt (sl ++ crlf)) rfl (by have q1 := HZ0.out; rw [txt_size]; exact q1) HB.size ?_; intro v6 w6 h6 hk; have HO : OwnM w6 w.heap.size v6 (sl ++ crlf) := h6; replace B1 := hk.2 _ _ _ (by decide) B1; replace HB := HB.trans hk.1; clear h6 hk c4; (try clear c5); have c4 : w6.cell? ⟨w.heap.size, 4, none⟩ = some (.slice hA hd.length hc) := B1.cell 4))
              go_loopw [9, 8, 10] (fun iv bv _ wr => ∃ i : Nat, iv = .int .i64 (i : Int) ∧ i ≤ hd.length ∧ OwnM wr w.heap.size bv (sl ++ crlf ++ (hd.take i).flatMap headL) ∧ IBox wr w.heap.size 25 #[.string me, .string ta, .int .i64 sn, .string re, .slice hA hd.length hc, .slice bA bo.length bc] ∧ Below w.heap.size w wr) (fun iv _ _ _ => match iv with | .int _ i => (hd.length - i.toNat) | _ => 0)
              case atStart => exact ⟨0, rfl, Nat.zero_le _, by simpa using HO, B1, HB⟩
              case round =>
                clear HB c4 B1 HO
                obtain ⟨i, rfl, hi, HO, B1, HB⟩ := hrel
                have c4 : wr.cell? ⟨w.heap.size, 4, none⟩ = some (.slice hA hd.length hc) := B1.cell 4
                have hl := HL.out
                by_cases hlt : i < hd.length
                · obtain ⟨p, hp⟩ : ∃ p, hd[i]? = some p := ⟨_, List.getElem?_eq_getElem hlt⟩
                  have hpz := HM.out.hz p (List.mem_of_getElem? hp)
                  obtain ⟨A2, c2, hv2, hcells⟩ := HM.out.hd.below HB
                  obtain ⟨gh, off, hA2, e1, e2⟩ := hcells i p hp
                  injection hv2 with v1 v2 v3
                  clear v2 v3
                  subst v1
                  subst hA2
                  obtain ⟨pn, pv⟩ := p
                  obtain ⟨z1, z2⟩ : pn.size ≤ 140737488355328 ∧ pv.size ≤ 140737488355328 := hpz
                  clear hcells
                  obtain ⟨ht1, ht2⟩ := heads_take hp
                  have HTK := Lib.hid ht1
                  have HAL : Hid ((sl ++ crlf ++ (hd.take i).flatMap headL).length + (headL (pn, pv)).length ≤ 140737488355328) := Lib.hid (by
                    have h1 := hsz.out
                    rw [HTL.out] at h1
                    simp only [List.length_append] at h1 ⊢
                    omega)
                  have hch := conv_head pn pv
                  have hcs := Lib.hid (headL_size pn pv)
                  have hn1 : ¬ 9223372036854775807 < pn.size + 2 := by omega
                  have hn2 : ¬ 9223372036854775807 < pn.size + 2 + pv.size := by omega
                  have hn3 : ¬ 9223372036854775807 < pn.size + 2 + pv.size + 2 := by omega
                  clear hp ht1 ht2 z1 z2
                  go_wp2
                  refine wp_region_S (S := fun w' => w'.cell? ⟨w.heap.size, 4, none⟩ = some (.slice (some ⟨gh, off, none⟩) hd.length hc) ∧ w'.cell? ⟨gh, off + i * 2, none⟩ = some (.string pn) ∧ w'.cell? ⟨gh, off + i * 2 + 1, none⟩ = some (.string pv)) (by kernel_rfl) (fun w5 hh => ⟨(box_heap hh B1).cell 4, cell_heap hh e1, cell_heap hh e2⟩) (fun w5 hh hbb HS0 => ?_)
                  replace HO := HO.below (hbb _ (Nat.le_refl _))
                  replace HB := HB.trans ((hbb _ (Nat.le_refl _)).mono HB.size)
                  replace B1 := box_heap hh B1
                  clear hh hbb e1 e2 c4
                  refine TKC 0 67 rfl ?_
                  try simp only [Act.put, zA, zB, zC]
                  refine TKC 1 68 rfl ?_ (by (intro w hSw; (try dsimp only at hSw); have q1 := hSw.1; go_simp; try with_reducible rfl))
                  try simp only [Act.put, zA, zB, zC]
                  refine TKC 2 69 rfl ?_
                  try simp only [Act.put, zA, zB, zC]
                  refine TKC 3 70 rfl ?_
                  try simp only [Act.put, zA, zB, zC]
                  refine TKC 4 71 rfl ?_
                  try simp only [Act.put, zA, zB, zC]
                  refine TKC 5 72 rfl ?_ (by (intro w hSw; (try dsimp only at hSw); have q1 := hSw.2.1; go_simp; try with_reducible rfl))
                  try simp only [Act.put, zA, zB, zC]
                  refine TKC 6 73 rfl ?_
                  try simp only [Act.put, zA, zB, zC]
                  refine TKC 7 74 rfl ?_
                  try simp only [Act.put, zA, zB, zC]
                  refine TKC 8 75 rfl ?_ (by (intro w hSw; (try dsimp only at hSw); have q1 := hSw.1; go_simp; try with_reducible rfl))
                  try simp only [Act.put, zA, zB, zC]
                  refine TKC 9 76 rfl ?_
                  try simp only [Act.put, zA, zB, zC]
                  refine TKC 10 77 rfl ?_
                  try simp only [Act.put, zA, zB, zC]
                  refine TKC 11 78 rfl ?_
                  try simp only [Act.put, zA, zB, zC]
                  refine TKC 12 79 rfl ?_ (by (intro w hSw; (try dsimp only at hSw); have q1 := hSw.2.2; go_simp; try with_reducible rfl))
                  try simp only [Act.put, zA, zB, zC]
                  refine TKC 13 80 rfl ?_
                  try simp only [Act.put, zA, zB, zC]
                  refine TKC 14 81 rfl ?_
                  try simp only [Act.put, zA, zB, zC]
                  refine TKC 15 10 rfl ?_
                  try simp only [Act.put, zA, zB, zC]
                  refine wpAnyH_done (by kernel_rfl) ?_ _
                  clear HS0
                  go_wp2_with (first
                    | ((with_reducible refine is_app (.tmp 82) (.tmp 83) ?_); refine wpl_app_strM rfl (.tmp 82) (.tmp 83) 23 9 rfl Tryz.underlying23 Tryz.underlying9 rfl HO (((pn ++ (⟨#[58, 32]⟩ : ByteArray)) ++ pv) ++ (⟨#[13, 10]⟩ : ByteArray)) rfl (by have q1 := HAL.out; have q2 := hcs.out; omega) HB.size ?_; intro v6 w6 h6 hk; replace HO := h6; replace B1 := hk.2 _ _ _ (by decide) B1; replace HB := HB.trans hk.1; clear h6 hk))
                  go_roundw
                  case rel => exact ⟨i + 1, rfl, by omega, (by rw [HTK.out, ← List.append_assoc, ← hch]; exact HO), B1, HB⟩
                  case measure => (simp only; omega)
                · obtain rfl : i = hd.length := by omega
                  rw [List.take_length] at HO
                  clear hlt hi
                  have c5 : wr.cell? ⟨w.heap.size, 5, none⟩ = some (.slice bA bo.length bc) := B1.cell 5
                  have HBL : Hid (-9223372036854775808 ≤ (bo.length : Int) ∧ (bo.length : Int) ≤ 9223372036854775807) := Lib.hid (by omega)
                  have HIL : Hid ((Lib.itoa (bo.length : Int)).length ≤ 20) := Lib.hid (itoa_len HBL.out)
                  have HD : Hid (∀ w, Calls Tryz.prog 40 #[.int .i64 (bo.length : Int)] w fun e w' => e = .returned (.string (txt (Lib.itoa (bo.length : Int)))) ∧ Below w.heap.size w w') := Lib.hid fun w => decimal_any (by omega)
                  have hcl := conv_len (Lib.itoa (bo.length : Int))
                  have HCL : Hid ((((⟨#[67, 111, 110, 116, 101, 110, 116, 45, 76, 101, 110, 103, 116, 104, 58, 32]⟩ : ByteArray) ++ txt (Lib.itoa (bo.length : Int))) ++ (⟨#[13, 10, 13, 10]⟩ : ByteArray)).size = (lengthL ++ [58, 32] ++ Lib.itoa (bo.length : Int) ++ crlf ++ crlf).length) := Lib.hid (by rw [← hcl]; rfl)
                  have HAL : Hid ((sl ++ crlf ++ hd.flatMap headL).length + (lengthL ++ [58, 32] ++ Lib.itoa (bo.length : Int) ++ crlf ++ crlf).length ≤ 140737488355328) := Lib.hid (by
                    have h1 := hsz.out
                    rw [HTL.out] at h1
                    simp only [List.length_append] at h1 ⊢
                    omega)
                  have hn1 : ¬ 9223372036854775807 < 16 + (txt (Lib.itoa (bo.length : Int))).size := by have := HIL.out; rw [txt_size]; omega
                  have hn2 : ¬ 9223372036854775807 < 16 + (txt (Lib.itoa (bo.length : Int))).size + 4 := by have := HIL.out; rw [txt_size]; omega
                  obtain ⟨tp, htp⟩ : ∃ tp, topL ⟨me, ta, sn, re, hd, bo⟩ = tp := ⟨_, rfl⟩
                  have HTP := Lib.hid htp
                  clear htp
                  by_cases hbig : 8192 < (topL ⟨me, ta, sn, re, hd, bo⟩).length
                  · have HV2 : Hid (writeS ⟨me, ta, sn, re, hd, bo⟩ = (2, [])) := Lib.hid (by rw [HV.out, if_pos hbig])
                    rw [HTP.out] at hbig
                    have hbi : (8192 : Int) < (tp.length : Int) := by omega
                    clear hbig
                    go_wp2_with (first
                      | (go_at_call 40; (refine (HD.out _).mono ?_); rintro e w10 ⟨rfl, hb⟩; replace HO := HO.below hb; replace B1 := IBox.below B1 hb (IBox.lt B1); replace HB := HB.trans (hb.mono HB.size); clear hb c5; have c5 : w10.cell? ⟨w.heap.size, 5, none⟩ = some (.slice bA bo.length bc) := B1.cell 5)
                      | ((with_reducible refine is_app (.tmp 91) (.tmp 92) ?_); refine wpl_app_strM rfl (.tmp 91) (.tmp 92) 23 9 rfl Tryz.underlying23 Tryz.underlying9 rfl HO (((⟨#[67, 111, 110, 116, 101, 110, 116, 45, 76, 101, 110, 103, 116, 104, 58, 32]⟩ : ByteArray) ++ txt (Lib.itoa (bo.length : Int))) ++ (⟨#[13, 10, 13, 10]⟩ : ByteArray)) rfl (by have q1 := HAL.out; have q2 := HCL.out; omega) HB.size ?_; intro v6 w6 h6 hk; rw [hcl, ← HTL.out, HTP.out] at h6; obtain ⟨oA, oc, rfl⟩ := h6.slice; replace HO := h6; replace B1 := hk.2 _ _ _ (by decide) B1; replace HB := HB.trans hk.1; clear h6 hk c5; have c5 : w6.cell? ⟨w.heap.size, 5, none⟩ = some (.slice bA bo.length bc) := B1.cell 5))
                    go_ret2
                    exact ⟨⟨.slice none 0 0, (by rw [HV2.out] <;> rfl), (by rw [HV2.out]; exact .inl (OwnB.nil _ _))⟩, HB⟩
                  · have HV2 : Hid (writeS ⟨me, ta, sn, re, hd, bo⟩ = (0, topL ⟨me, ta, sn, re, hd, bo⟩ ++ bo)) := Lib.hid (by rw [HV.out, if_neg hbig])
                    have HFL : Hid ((topL ⟨me, ta, sn, re, hd, bo⟩).length + bo.length ≤ 140737488355328) := hsz
                    rw [HTP.out] at hbig HFL
                    have hbi : ¬ (8192 : Int) < (tp.length : Int) := by omega
                    clear hbig
                    go_wp2_with (first
                      | (go_at_call 40; (refine (HD.out _).mono ?_); rintro e w10 ⟨rfl, hb⟩; replace HO := HO.below hb; replace B1 := IBox.below B1 hb (IBox.lt B1); replace HB := HB.trans (hb.mono HB.size); clear hb c5; have c5 : w10.cell? ⟨w.heap.size, 5, none⟩ = some (.slice bA bo.length bc) := B1.cell 5)
                      | ((with_reducible refine is_app (.tmp 91) (.tmp 92) ?_); refine wpl_app_strM rfl (.tmp 91) (.tmp 92) 23 9 rfl Tryz.underlying23 Tryz.underlying9 rfl HO (((⟨#[67, 111, 110, 116, 101, 110, 116, 45, 76, 101, 110, 103, 116, 104, 58, 32]⟩ : ByteArray) ++ txt (Lib.itoa (bo.length : Int))) ++ (⟨#[13, 10, 13, 10]⟩ : ByteArray)) rfl (by have q1 := HAL.out; have q2 := HCL.out; omega) HB.size ?_; intro v6 w6 h6 hk; rw [hcl, ← HTL.out, HTP.out] at h6; obtain ⟨oA, oc, rfl⟩ := h6.slice; replace HO := h6; replace B1 := hk.2 _ _ _ (by decide) B1; replace HB := HB.trans hk.1; clear h6 hk c5; have c5 : w6.cell? ⟨w.heap.size, 5, none⟩ = some (.slice bA bo.length bc) := B1.cell 5)
                      | ((with_reducible refine is_app (.tmp 97) (.tmp 99) ?_); refine wpl_app_rowM rfl (.tmp 97) (.tmp 99) 23 rfl Tryz.underlying23 rfl HO (x0 := .slice bA bo.length bc) (m := bo) rfl (HM.out.below HB).bt (by have q1 := HFL.out; omega) HB.size ?_; intro v7 w7 h7 hk; replace HO := h7; replace HB := HB.trans hk.1; clear h7 hk))
                    go_ret2
                    exact ⟨⟨v7, (by rw [HV2.out] <;> rfl), (by rw [HV2.out, HTP.out]; exact HO)⟩, HB⟩
  · have hne := is_empty hn
    have hq1 : ¬ sn < 100 := by omega
    have hq2 : ¬ 599 < sn := by omega
    clear hn hn1 hn2
    cases sb
    · have HV : Hid (writeS ⟨me, ta, sn, re, hd, bo⟩ = (1, [])) := Lib.hid (by unfold writeS; rw [if_pos (by rw [HSB.out]; rfl)])
      go_enter Tryz.func11, Tryz.ntmps11
      go_wp2_with (first
        | (refine wpl_box_at rfl 25 (.tmp 0) rfl _ rfl ?_; intro w1 hw; have B1 := hid_alloc0 hw; have HB := hid_grow hw; clear hw; have c0 : w1.cell? ⟨w.heap.size, 0, none⟩ = some (.string me) := B1.cell 0; have c2 : w1.cell? ⟨w.heap.size, 2, none⟩ = some (.int .i64 sn) := B1.cell 2)
        | ((with_reducible refine is_load ?_); refine wpl_load_box rfl 25 (.tmp 1) rfl _ rfl _ _ _ B1 Tryz.underlying25 rfl info_msg ?_)
        | (go_at_call 38; (refine (HST.out _).mono ?_); rintro e w2 ⟨rfl, hb⟩; replace B1 := IBox.below B1 hb (IBox.lt B1); replace HB := HB.trans (hb.mono HB.size); clear hb c0 c2; have c4 : w2.cell? ⟨w.heap.size, 4, none⟩ = some (.slice hA hd.length hc) := B1.cell 4))
      go_ret2
      exact ⟨⟨.slice none 0 0, (by rw [HV.out] <;> rfl), (by rw [HV.out]; exact .inl (OwnB.nil _ _))⟩, HB⟩
    · go_enter Tryz.func11, Tryz.ntmps11
      go_wp2_with (first
        | (refine wpl_box_at rfl 25 (.tmp 0) rfl _ rfl ?_; intro w1 hw; have B1 := hid_alloc0 hw; have HB := hid_grow hw; clear hw; have c0 : w1.cell? ⟨w.heap.size, 0, none⟩ = some (.string me) := B1.cell 0; have c2 : w1.cell? ⟨w.heap.size, 2, none⟩ = some (.int .i64 sn) := B1.cell 2)
        | ((with_reducible refine is_load ?_); refine wpl_load_box rfl 25 (.tmp 1) rfl _ rfl _ _ _ B1 Tryz.underlying25 rfl info_msg ?_)
        | (go_at_call 38; (refine (HST.out _).mono ?_); rintro e w2 ⟨rfl, hb⟩; replace B1 := IBox.below B1 hb (IBox.lt B1); replace HB := HB.trans (hb.mono HB.size); clear hb c0 c2; have c4 : w2.cell? ⟨w.heap.size, 4, none⟩ = some (.slice hA hd.length hc) := B1.cell 4))
      go_loopw [6, 7] (fun iv _ wr => ∃ i : Nat, iv = .int .i64 (i : Int) ∧ i ≤ hd.length ∧ (hd.take i).all fitB = true ∧ IBox wr w.heap.size 25 #[.string me, .string ta, .int .i64 sn, .string re, .slice hA hd.length hc, .slice bA bo.length bc] ∧ Below w.heap.size w wr) (fun iv _ _ => match iv with | .int _ i => (hd.length - i.toNat) | _ => 0)
      case atStart => exact ⟨0, rfl, Nat.zero_le _, by simp, B1, HB⟩
      case round =>
        clear HB c4 B1
        obtain ⟨i, rfl, hi, hall, B1, HB⟩ := hrel
        have c4 : wr.cell? ⟨w.heap.size, 4, none⟩ = some (.slice hA hd.length hc) := B1.cell 4
        have hl := HL.out
        by_cases hlt : i < hd.length
        · obtain ⟨p, hp⟩ : ∃ p, hd[i]? = some p := ⟨_, List.getElem?_eq_getElem hlt⟩
          have hpz := HM.out.hz p (List.mem_of_getElem? hp)
          obtain ⟨A2, c2, hv2, hcells⟩ := HM.out.hd.below HB
          obtain ⟨gh, off, hA2, e1, e2⟩ := hcells i p hp
          injection hv2 with v1 v2 v3
          clear v2 v3
          subst v1
          subst hA2
          obtain ⟨pn, pv⟩ := p
          obtain ⟨z1, z2⟩ : pn.size ≤ 140737488355328 ∧ pv.size ≤ 140737488355328 := hpz
          clear hcells
          have hrow := row_two e1 e2
          have HN : Hid ((hd.take (i + 1)).all fitB = fitB (pn, pv)) := Lib.hid (by
            rw [List.take_add_one, hp]
            simp only [Option.toList, List.all_append, List.all_cons, List.all_nil, Bool.and_true]
            rw [hall, Bool.true_and])
          have HF : Hid (∀ w, Calls Tryz.prog 39 #[.agg (hdA pn pv)] w fun e w' => e = .returned (.bool (fitB (pn, pv))) ∧ Below w.heap.size w w') := Lib.hid fun w => fits_any z1 z2
          have HNO : Hid (fitB (pn, pv) = false → hd.all fitB = false) := Lib.hid fun hf => by
            rw [List.all_eq_false]
            exact ⟨(pn, pv), List.mem_of_getElem? hp, by simp [hf]⟩
          generalize fitB (pn, pv) = fb at HN HF HNO
          clear hp hall z1 z2 e1 e2
          cases fb
          · have HV : Hid (writeS ⟨me, ta, sn, re, hd, bo⟩ = (1, [])) := Lib.hid (by unfold writeS; rw [if_pos (by rw [HSB.out]; exact HNO.out rfl)])
            clear HNO
            go_wp2_with (first
              | ((with_reducible refine is_load ?_); refine wpl_load_arr rfl 51 (.tmp 42) rfl gh (off + i * 2) rfl (hdA pn pv) _ hrow Tryz.underlying51 rfl info_hd2 ?_)
              | (go_at_call 39; (refine (HF.out _).mono ?_); rintro e w4 ⟨rfl, hb⟩; replace B1 := IBox.below B1 hb (IBox.lt B1); replace HB := HB.trans (hb.mono HB.size); clear hb))
            go_ret2
            exact ⟨⟨.slice none 0 0, (by rw [HV.out] <;> rfl), (by rw [HV.out]; exact .inl (OwnB.nil _ _))⟩, HB⟩
          · clear HNO
            go_wp2_with (first
              | ((with_reducible refine is_load ?_); refine wpl_load_arr rfl 51 (.tmp 42) rfl gh (off + i * 2) rfl (hdA pn pv) _ hrow Tryz.underlying51 rfl info_hd2 ?_)
              | (go_at_call 39; (refine (HF.out _).mono ?_); rintro e w4 ⟨rfl, hb⟩; replace B1 := IBox.below B1 hb (IBox.lt B1); replace HB := HB.trans (hb.mono HB.size); clear hb))
            go_roundw
            case rel => exact ⟨i + 1, rfl, by omega, HN.out, B1, HB⟩
            case measure => (simp only; omega)
        · obtain rfl : i = hd.length := by omega
          have HALL : Hid (hd.all fitB = true) := Lib.hid (by rw [List.take_length] at hall; exact hall)
          clear hall
          clear hlt hi
          have c5 : wr.cell? ⟨w.heap.size, 5, none⟩ = some (.slice bA bo.length bc) := B1.cell 5
          have HT2 : Hid (¬ (startB ⟨me, ta, sn, re, hd, bo⟩ && hd.all fitB) = false) := Lib.hid (by rw [HSB.out, HALL.out]; decide)
          by_cases h64 : 64 ≤ hd.length
          · have HV : Hid (writeS ⟨me, ta, sn, re, hd, bo⟩ = (2, [])) := Lib.hid (by unfold writeS; rw [if_neg HT2.out, if_pos (.inl h64)])
            have h63 : (63 : Int) < (hd.length : Int) := by omega
            clear h64 HT2
            go_wp2
            go_ret2
            exact ⟨⟨.slice none 0 0, (by rw [HV.out] <;> rfl), (by rw [HV.out]; exact .inl (OwnB.nil _ _))⟩, HB⟩
          · by_cases hbo : 65536 < bo.length
            · have HV : Hid (writeS ⟨me, ta, sn, re, hd, bo⟩ = (2, [])) := Lib.hid (by unfold writeS; rw [if_neg HT2.out, if_pos (.inr hbo)])
              have h63 : ¬ (63 : Int) < (hd.length : Int) := by omega
              have h65 : (65536 : Int) < (bo.length : Int) := by omega
              clear h64 HT2 hbo
              go_wp2
              go_ret2
              exact ⟨⟨.slice none 0 0, (by rw [HV.out] <;> rfl), (by rw [HV.out]; exact .inl (OwnB.nil _ _))⟩, HB⟩
            · have HV : Hid (writeS ⟨me, ta, sn, re, hd, bo⟩ = if 8192 < (topL ⟨me, ta, sn, re, hd, bo⟩).length then (2, []) else (0, topL ⟨me, ta, sn, re, hd, bo⟩ ++ bo)) := Lib.hid (by unfold writeS; rw [if_neg HT2.out, if_neg (by simp only; omega)])
              have HTL : Hid (topL ⟨me, ta, sn, re, hd, bo⟩ = sl ++ crlf ++ hd.flatMap headL ++ (lengthL ++ [58, 32] ++ Lib.itoa (bo.length : Int) ++ crlf ++ crlf)) := Lib.hid (by unfold topL; rw [HSL.out])
              have h63 : ¬ (63 : Int) < (hd.length : Int) := by omega
              have h65 : ¬ (65536 : Int) < (bo.length : Int) := by omega
              have HZ0 : Hid (([] : List UInt8).length + (sl ++ crlf).length ≤ 140737488355328) := Lib.hid (by
                have h1 := hsz.out
                rw [HTL.out] at h1
                simp only [List.length_append, List.length_nil] at h1 ⊢
                omega)
              clear HT2
              go_wp2_with (first
                | ((with_reducible refine is_app (.tmp 57) (.tmp 58) ?_); refine wpl_app_strM rfl (.tmp 57) (.tmp 58) 23 9 rfl Tryz.underlying23 Tryz.underlying9 rfl (base := w.heap.size) (l := []) (.inl (OwnB.nil _ _)) (txt (sl ++ crlf)) rfl (by have q1 := HZ0.out; rw [txt_size]; exact q1) HB.size ?_; intro v6 w6 h6 hk; have HO : OwnM w6 w.heap.size v6 (sl ++ crlf) := h6; replace B1 := hk.2 _ _ _ (by decide) B1; replace HB := HB.trans hk.1; clear h6 hk c4; (try clear c5); have c4 : w6.cell? ⟨w.heap.size, 4, none⟩ = some (.slice hA hd.length hc) := B1.cell 4))
              go_loopw [9, 8, 10] (fun iv bv _ wr => ∃ i : Nat, iv = .int .i64 (i : Int) ∧ i ≤ hd.length ∧ OwnM wr w.heap.size bv (sl ++ crlf ++ (hd.take i).flatMap headL) ∧ IBox wr w.heap.size 25 #[.string me, .string ta, .int .i64 sn, .string re, .slice hA hd.length hc, .slice bA bo.length bc] ∧ Below w.heap.size w wr) (fun iv _ _ _ => match iv with | .int _ i => (hd.length - i.toNat) | _ => 0)
              case atStart => exact ⟨0, rfl, Nat.zero_le _, by simpa using HO, B1, HB⟩
              case round =>
                clear HB c4 B1 HO
                obtain ⟨i, rfl, hi, HO, B1, HB⟩ := hrel
                have c4 : wr.cell? ⟨w.heap.size, 4, none⟩ = some (.slice hA hd.length hc) := B1.cell 4
                have hl := HL.out
                by_cases hlt : i < hd.length
                · obtain ⟨p, hp⟩ : ∃ p, hd[i]? = some p := ⟨_, List.getElem?_eq_getElem hlt⟩
                  have hpz := HM.out.hz p (List.mem_of_getElem? hp)
                  obtain ⟨A2, c2, hv2, hcells⟩ := HM.out.hd.below HB
                  obtain ⟨gh, off, hA2, e1, e2⟩ := hcells i p hp
                  injection hv2 with v1 v2 v3
                  clear v2 v3
                  subst v1
                  subst hA2
                  obtain ⟨pn, pv⟩ := p
                  obtain ⟨z1, z2⟩ : pn.size ≤ 140737488355328 ∧ pv.size ≤ 140737488355328 := hpz
                  clear hcells
                  obtain ⟨ht1, ht2⟩ := heads_take hp
                  have HTK := Lib.hid ht1
                  have HAL : Hid ((sl ++ crlf ++ (hd.take i).flatMap headL).length + (headL (pn, pv)).length ≤ 140737488355328) := Lib.hid (by
                    have h1 := hsz.out
                    rw [HTL.out] at h1
                    simp only [List.length_append] at h1 ⊢
                    omega)
                  have hch := conv_head pn pv
                  have hcs := Lib.hid (headL_size pn pv)
                  have hn1 : ¬ 9223372036854775807 < pn.size + 2 := by omega
                  have hn2 : ¬ 9223372036854775807 < pn.size + 2 + pv.size := by omega
                  have hn3 : ¬ 9223372036854775807 < pn.size + 2 + pv.size + 2 := by omega
                  clear hp ht1 ht2 z1 z2
                  go_wp2
                  refine wp_region_S (S := fun w' => w'.cell? ⟨w.heap.size, 4, none⟩ = some (.slice (some ⟨gh, off, none⟩) hd.length hc) ∧ w'.cell? ⟨gh, off + i * 2, none⟩ = some (.string pn) ∧ w'.cell? ⟨gh, off + i * 2 + 1, none⟩ = some (.string pv)) (by kernel_rfl) (fun w5 hh => ⟨(box_heap hh B1).cell 4, cell_heap hh e1, cell_heap hh e2⟩) (fun w5 hh hbb HS0 => ?_)
                  replace HO := HO.below (hbb _ (Nat.le_refl _))
                  replace HB := HB.trans ((hbb _ (Nat.le_refl _)).mono HB.size)
                  replace B1 := box_heap hh B1
                  clear hh hbb e1 e2 c4
                  refine TKC 0 67 rfl ?_
                  try simp only [Act.put, zA, zB, zC]
                  refine TKC 1 68 rfl ?_ (by (intro w hSw; (try dsimp only at hSw); have q1 := hSw.1; go_simp; try with_reducible rfl))
                  try simp only [Act.put, zA, zB, zC]
                  refine TKC 2 69 rfl ?_
                  try simp only [Act.put, zA, zB, zC]
                  refine TKC 3 70 rfl ?_
                  try simp only [Act.put, zA, zB, zC]
                  refine TKC 4 71 rfl ?_
                  try simp only [Act.put, zA, zB, zC]
                  refine TKC 5 72 rfl ?_ (by (intro w hSw; (try dsimp only at hSw); have q1 := hSw.2.1; go_simp; try with_reducible rfl))
                  try simp only [Act.put, zA, zB, zC]
                  refine TKC 6 73 rfl ?_
                  try simp only [Act.put, zA, zB, zC]
                  refine TKC 7 74 rfl ?_
                  try simp only [Act.put, zA, zB, zC]
                  refine TKC 8 75 rfl ?_ (by (intro w hSw; (try dsimp only at hSw); have q1 := hSw.1; go_simp; try with_reducible rfl))
                  try simp only [Act.put, zA, zB, zC]
                  refine TKC 9 76 rfl ?_
                  try simp only [Act.put, zA, zB, zC]
                  refine TKC 10 77 rfl ?_
                  try simp only [Act.put, zA, zB, zC]
                  refine TKC 11 78 rfl ?_
                  try simp only [Act.put, zA, zB, zC]
                  refine TKC 12 79 rfl ?_ (by (intro w hSw; (try dsimp only at hSw); have q1 := hSw.2.2; go_simp; try with_reducible rfl))
                  try simp only [Act.put, zA, zB, zC]
                  refine TKC 13 80 rfl ?_
                  try simp only [Act.put, zA, zB, zC]
                  refine TKC 14 81 rfl ?_
                  try simp only [Act.put, zA, zB, zC]
                  refine TKC 15 10 rfl ?_
                  try simp only [Act.put, zA, zB, zC]
                  refine wpAnyH_done (by kernel_rfl) ?_ _
                  clear HS0
                  go_wp2_with (first
                    | ((with_reducible refine is_app (.tmp 82) (.tmp 83) ?_); refine wpl_app_strM rfl (.tmp 82) (.tmp 83) 23 9 rfl Tryz.underlying23 Tryz.underlying9 rfl HO (((pn ++ (⟨#[58, 32]⟩ : ByteArray)) ++ pv) ++ (⟨#[13, 10]⟩ : ByteArray)) rfl (by have q1 := HAL.out; have q2 := hcs.out; omega) HB.size ?_; intro v6 w6 h6 hk; replace HO := h6; replace B1 := hk.2 _ _ _ (by decide) B1; replace HB := HB.trans hk.1; clear h6 hk))
                  go_roundw
                  case rel => exact ⟨i + 1, rfl, by omega, (by rw [HTK.out, ← List.append_assoc, ← hch]; exact HO), B1, HB⟩
                  case measure => (simp only; omega)
                · obtain rfl : i = hd.length := by omega
                  rw [List.take_length] at HO
                  clear hlt hi
                  have c5 : wr.cell? ⟨w.heap.size, 5, none⟩ = some (.slice bA bo.length bc) := B1.cell 5
                  have HBL : Hid (-9223372036854775808 ≤ (bo.length : Int) ∧ (bo.length : Int) ≤ 9223372036854775807) := Lib.hid (by omega)
                  have HIL : Hid ((Lib.itoa (bo.length : Int)).length ≤ 20) := Lib.hid (itoa_len HBL.out)
                  have HD : Hid (∀ w, Calls Tryz.prog 40 #[.int .i64 (bo.length : Int)] w fun e w' => e = .returned (.string (txt (Lib.itoa (bo.length : Int)))) ∧ Below w.heap.size w w') := Lib.hid fun w => decimal_any (by omega)
                  have hcl := conv_len (Lib.itoa (bo.length : Int))
                  have HCL : Hid ((((⟨#[67, 111, 110, 116, 101, 110, 116, 45, 76, 101, 110, 103, 116, 104, 58, 32]⟩ : ByteArray) ++ txt (Lib.itoa (bo.length : Int))) ++ (⟨#[13, 10, 13, 10]⟩ : ByteArray)).size = (lengthL ++ [58, 32] ++ Lib.itoa (bo.length : Int) ++ crlf ++ crlf).length) := Lib.hid (by rw [← hcl]; rfl)
                  have HAL : Hid ((sl ++ crlf ++ hd.flatMap headL).length + (lengthL ++ [58, 32] ++ Lib.itoa (bo.length : Int) ++ crlf ++ crlf).length ≤ 140737488355328) := Lib.hid (by
                    have h1 := hsz.out
                    rw [HTL.out] at h1
                    simp only [List.length_append] at h1 ⊢
                    omega)
                  have hn1 : ¬ 9223372036854775807 < 16 + (txt (Lib.itoa (bo.length : Int))).size := by have := HIL.out; rw [txt_size]; omega
                  have hn2 : ¬ 9223372036854775807 < 16 + (txt (Lib.itoa (bo.length : Int))).size + 4 := by have := HIL.out; rw [txt_size]; omega
                  obtain ⟨tp, htp⟩ : ∃ tp, topL ⟨me, ta, sn, re, hd, bo⟩ = tp := ⟨_, rfl⟩
                  have HTP := Lib.hid htp
                  clear htp
                  by_cases hbig : 8192 < (topL ⟨me, ta, sn, re, hd, bo⟩).length
                  · have HV2 : Hid (writeS ⟨me, ta, sn, re, hd, bo⟩ = (2, [])) := Lib.hid (by rw [HV.out, if_pos hbig])
                    rw [HTP.out] at hbig
                    have hbi : (8192 : Int) < (tp.length : Int) := by omega
                    clear hbig
                    go_wp2_with (first
                      | (go_at_call 40; (refine (HD.out _).mono ?_); rintro e w10 ⟨rfl, hb⟩; replace HO := HO.below hb; replace B1 := IBox.below B1 hb (IBox.lt B1); replace HB := HB.trans (hb.mono HB.size); clear hb c5; have c5 : w10.cell? ⟨w.heap.size, 5, none⟩ = some (.slice bA bo.length bc) := B1.cell 5)
                      | ((with_reducible refine is_app (.tmp 91) (.tmp 92) ?_); refine wpl_app_strM rfl (.tmp 91) (.tmp 92) 23 9 rfl Tryz.underlying23 Tryz.underlying9 rfl HO (((⟨#[67, 111, 110, 116, 101, 110, 116, 45, 76, 101, 110, 103, 116, 104, 58, 32]⟩ : ByteArray) ++ txt (Lib.itoa (bo.length : Int))) ++ (⟨#[13, 10, 13, 10]⟩ : ByteArray)) rfl (by have q1 := HAL.out; have q2 := HCL.out; omega) HB.size ?_; intro v6 w6 h6 hk; rw [hcl, ← HTL.out, HTP.out] at h6; obtain ⟨oA, oc, rfl⟩ := h6.slice; replace HO := h6; replace B1 := hk.2 _ _ _ (by decide) B1; replace HB := HB.trans hk.1; clear h6 hk c5; have c5 : w6.cell? ⟨w.heap.size, 5, none⟩ = some (.slice bA bo.length bc) := B1.cell 5))
                    go_ret2
                    exact ⟨⟨.slice none 0 0, (by rw [HV2.out] <;> rfl), (by rw [HV2.out]; exact .inl (OwnB.nil _ _))⟩, HB⟩
                  · have HV2 : Hid (writeS ⟨me, ta, sn, re, hd, bo⟩ = (0, topL ⟨me, ta, sn, re, hd, bo⟩ ++ bo)) := Lib.hid (by rw [HV.out, if_neg hbig])
                    have HFL : Hid ((topL ⟨me, ta, sn, re, hd, bo⟩).length + bo.length ≤ 140737488355328) := hsz
                    rw [HTP.out] at hbig HFL
                    have hbi : ¬ (8192 : Int) < (tp.length : Int) := by omega
                    clear hbig
                    go_wp2_with (first
                      | (go_at_call 40; (refine (HD.out _).mono ?_); rintro e w10 ⟨rfl, hb⟩; replace HO := HO.below hb; replace B1 := IBox.below B1 hb (IBox.lt B1); replace HB := HB.trans (hb.mono HB.size); clear hb c5; have c5 : w10.cell? ⟨w.heap.size, 5, none⟩ = some (.slice bA bo.length bc) := B1.cell 5)
                      | ((with_reducible refine is_app (.tmp 91) (.tmp 92) ?_); refine wpl_app_strM rfl (.tmp 91) (.tmp 92) 23 9 rfl Tryz.underlying23 Tryz.underlying9 rfl HO (((⟨#[67, 111, 110, 116, 101, 110, 116, 45, 76, 101, 110, 103, 116, 104, 58, 32]⟩ : ByteArray) ++ txt (Lib.itoa (bo.length : Int))) ++ (⟨#[13, 10, 13, 10]⟩ : ByteArray)) rfl (by have q1 := HAL.out; have q2 := HCL.out; omega) HB.size ?_; intro v6 w6 h6 hk; rw [hcl, ← HTL.out, HTP.out] at h6; obtain ⟨oA, oc, rfl⟩ := h6.slice; replace HO := h6; replace B1 := hk.2 _ _ _ (by decide) B1; replace HB := HB.trans hk.1; clear h6 hk c5; have c5 : w6.cell? ⟨w.heap.size, 5, none⟩ = some (.slice bA bo.length bc) := B1.cell 5)
                      | ((with_reducible refine is_app (.tmp 97) (.tmp 99) ?_); refine wpl_app_rowM rfl (.tmp 97) (.tmp 99) 23 rfl Tryz.underlying23 rfl HO (x0 := .slice bA bo.length bc) (m := bo) rfl (HM.out.below HB).bt (by have q1 := HFL.out; omega) HB.size ?_; intro v7 w7 h7 hk; replace HO := h7; replace HB := HB.trans hk.1; clear h7 hk))
                    go_ret2
                    exact ⟨⟨v7, (by rw [HV2.out] <;> rfl), (by rw [HV2.out, HTP.out]; exact HO)⟩, HB⟩
set_option maxRecDepth 100000 in
set_option maxHeartbeats 4000000 in
theorem rwrite_no {me ta re : ByteArray} {sn : Int} {hd : List (ByteArray × ByteArray)} {bo : List UInt8} {h5 h6 : Value} {w : World} (hn : me.size = 0) (hs : sn < 100 ∨ 599 < sn) :
    Calls Tryz.prog 11 #[.agg #[.string me, .string ta, .int .i64 sn, .string re, h5, h6]] w fun e w' => RwV w' w.heap.size (writeS ⟨me, ta, sn, re, hd, bo⟩) e ∧ Below w.heap.size w w' := by
  have HV : Hid (writeS ⟨me, ta, sn, re, hd, bo⟩ = (1, [])) := Lib.hid (by
    unfold writeS
    rw [if_pos (by
      unfold startB
      rw [if_neg (by simpa using hn)]
      rcases hs with h | h
      · simp [show ¬ (100 ≤ sn) by omega]
      · simp [show ¬ (sn ≤ 599) by omega])])
  have hne := is_empty hn
  clear hn
  by_cases h1 : sn < 100
  · clear hs
    go_enter Tryz.func11, Tryz.ntmps11
    go_wp2_with (first
      | (refine wpl_box_at rfl 25 (.tmp 0) rfl _ rfl ?_; intro w1 hw; have B1 := hid_alloc0 hw; have HB := hid_grow hw; clear hw; have c0 : w1.cell? ⟨w.heap.size, 0, none⟩ = some (.string me) := B1.cell 0; have c2 : w1.cell? ⟨w.heap.size, 2, none⟩ = some (.int .i64 sn) := B1.cell 2))
    go_ret2
    exact ⟨⟨.slice none 0 0, (by rw [HV.out] <;> rfl), (by rw [HV.out]; exact .inl (OwnB.nil _ _))⟩, HB⟩
  · have h2 : 599 < sn := by omega
    clear hs
    go_enter Tryz.func11, Tryz.ntmps11
    go_wp2_with (first
      | (refine wpl_box_at rfl 25 (.tmp 0) rfl _ rfl ?_; intro w1 hw; have B1 := hid_alloc0 hw; have HB := hid_grow hw; clear hw; have c0 : w1.cell? ⟨w.heap.size, 0, none⟩ = some (.string me) := B1.cell 0; have c2 : w1.cell? ⟨w.heap.size, 2, none⟩ = some (.int .i64 sn) := B1.cell 2))
    go_ret2
    exact ⟨⟨.slice none 0 0, (by rw [HV.out] <;> rfl), (by rw [HV.out]; exact .inl (OwnB.nil _ _))⟩, HB⟩
theorem rwrite_any {x : Mm} {w : World} (hm : MgAt w x) (hs1 : x.m.meth.size ≤ 1099511627776) (hs2 : x.m.targ.size ≤ 1099511627776) (hs3 : x.m.reas.size ≤ 1099511627776) (hsz : Hid ((topL x.m).length + x.m.body.length ≤ 140737488355328)) :
    Calls Tryz.prog 11 #[.agg x.cells] w fun e w' => RwV w' w.heap.size (writeS x.m) e ∧ Below w.heap.size w w' := by
  obtain ⟨⟨me, ta, sn, re, hd, bo⟩, hs, bd⟩ := x
  dsimp only at hsz ⊢
  obtain ⟨hA, hc, hhs, hcells⟩ := id hm.hd
  obtain ⟨bA, bc, hbv, _⟩ := id hm.bt
  dsimp only at hbv hhs
  subst hbv
  subst hhs
  show Calls Tryz.prog 11 #[.agg #[.string me, .string ta, .int .i64 sn, .string re, .slice hA hd.length hc, .slice bA bo.length bc]] w _
  by_cases hn : me.size = 0
  · by_cases hb : 100 ≤ sn ∧ sn ≤ 599
    · obtain ⟨n, rfl⟩ : ∃ n : Nat, sn = (n : Int) := ⟨sn.toNat, by omega⟩
      exact rwrite_go hm hsz (fun w' => rstart_ans hs3 (by omega) (by omega) hn) (.inr ⟨hn, hb⟩)
    · exact rwrite_no hn (by omega)
  · exact rwrite_go hm hsz (fun w' => rstart_req hs1 hs2 hn) (.inl hn)
end Go.Proofs.YtbehakabglegjaaGreatDoor
