/- Layer 9: a message is written. -/
import Derived.Test.YtbehakabglegjaaGreatDoorQ27
import Derived.Test.YtbehakabglegjaaGreatDoorQ24
import Derived.Test.YtbehakabglegjaaGreatDoorQ05
import Derived.Test.YtbehakabglegjaaGreatDoorQ09
import Derived.Test.YtbehakabglegjaaGreatDoorQZip
namespace Go.Proofs.YtbehakabglegjaaGreatDoor
open Go.RowKit Go.PlainAid
set_option linter.unusedVariables false
set_option linter.unusedSimpArgs false
theorem fitB_eq (pn pv : ByteArray) : fitB (pn, pv) = (((decide (pn.size ≠ 0) && (bl pn).all isNameB) && ((bl pv).all isValueB && (trimL (bl pv) == bl pv))) && (!alikeB (bl pn) codingL && !alikeB (bl pn) lengthL)) := rfl
set_option maxRecDepth 100000 in
set_option maxHeartbeats 64000000 in
section
variable {ops : Array Oper} {rest : List Oper} {o : Oper} {a : Act} {w : World} {Q : Exit → Act → World → Prop}
/-- Two texts, one behind the other. -/
theorem wpl_cat (hgd : o.guard = none) (x y : Operand) (ho : o.op = .binOp .add 9 x y 9) (s u : ByteArray) (hx : a.eval x = .string s) (hy : a.eval y = .string u) (hl : s.size + u.size ≤ 9223372036854775807)
    (hQ : wpList Tryz.prog ops Q rest (a.put o.dst (.string (s ++ u))) w) : wpList Tryz.prog ops Q (o :: rest) a w :=
  wpList_plain hgd fun _ hK => by
    have e := run_string_add_sum (P := Tryz.prog) w s u hl
    have e2 : (binOp .add 9 (.string s) (.string u)).run Tryz.prog w = .ok (.string (s ++ u)) w := by
      rw [← e]
      kernel_rfl
    generalize hP : Tryz.prog = P at *
    unfold Oper.wp execOp
    simp only [ho, hx, hy, eqGuard, Bool.not_false, if_true, ite_self, Sem.run_bind, Sem.run_pure, Result.andThen_ok, e2]
    exact hK _ _ hQ
theorem is_cat {P : Program} {d : Option Tmp} {t u : TypeId} {x y : Operand} {tt : TypeId} {ps : String} {af : Array Edge} {gd : Option (Nat × Bool)} (h : wpList P ops Q (⟨d, .binOp .add 9 x y 9, tt, ps, af, gd⟩ :: rest) a w) : wpList P ops Q (⟨d, .binOp .add 9 x y 9, tt, ps, af, gd⟩ :: rest) a w := h
theorem is_app (s x : Operand) {P : Program} {d : Option Tmp} {ts : Array TypeId} {tt : TypeId} {ps : String} {af : Array Edge} {gd : Option (Nat × Bool)} (h : wpList P ops Q (⟨d, .call { callee := .builtin .append, args := #[s, x], argTypes := ts }, tt, ps, af, gd⟩ :: rest) a w) : wpList P ops Q (⟨d, .call { callee := .builtin .append, args := #[s, x], argTypes := ts }, tt, ps, af, gd⟩ :: rest) a w := h
end
/-- What Write gives. -/
def WrV (w : World) (base : Nat) (r : Int × List UInt8) (e : Ending) : Prop := ∃ v, e = .returned v ∧ ((r.1 = 0 ∧ ∃ b, v = .tuple #[b, .nilIface] ∧ OwnM w base b r.2) ∨ ∃ k : Int, r = (k, []) ∧ k ≠ 0 ∧ v = .tuple #[.slice none 0 0, .iface 31 (.int .i64 k)])
theorem conv_crlf (l : List UInt8) : (txt l ++ (⟨#[13, 10]⟩ : ByteArray)).data.toList = l ++ crlf := by
  rw [ByteArray.data_append, Array.toList_append]
  rfl
theorem conv_head (p q : ByteArray) : ((((p ++ (⟨#[58, 32]⟩ : ByteArray)) ++ q) ++ (⟨#[13, 10]⟩ : ByteArray))).data.toList = headL (p, q) := by
  simp only [ByteArray.data_append, Array.toList_append]
  rfl
theorem conv_len (l : List UInt8) : (((⟨#[67, 111, 110, 116, 101, 110, 116, 45, 76, 101, 110, 103, 116, 104, 58, 32]⟩ : ByteArray) ++ txt l) ++ (⟨#[13, 10, 13, 10]⟩ : ByteArray)).data.toList = lengthL ++ [58, 32] ++ l ++ crlf ++ crlf := by
  simp only [ByteArray.data_append, Array.toList_append]
  show lengthL ++ [58, 32] ++ l ++ (crlf ++ crlf) = _
  simp
theorem heads_take {hd : List (ByteArray × ByteArray)} {i : Nat} {p : ByteArray × ByteArray} (h : hd[i]? = some p) : (hd.take (i + 1)).flatMap headL = (hd.take i).flatMap headL ++ headL p ∧ ((hd.take i).flatMap headL).length + (headL p).length ≤ (hd.flatMap headL).length := by
  have e : (hd.take (i + 1)).flatMap headL = (hd.take i).flatMap headL ++ headL p := by
    rw [List.take_add_one, h, List.flatMap_append]
    simp
  refine ⟨e, ?_⟩
  have e2 := congrArg (fun l => (l.flatMap headL).length) (List.take_append_drop (i + 1) hd)
  simp only [List.flatMap_append, List.length_append] at e2
  rw [e, List.length_append] at e2
  omega
theorem headL_size (p q : ByteArray) : ((((p ++ (⟨#[58, 32]⟩ : ByteArray)) ++ q) ++ (⟨#[13, 10]⟩ : ByteArray))).size = (headL (p, q)).length := by
  rw [← conv_head]
  rfl
set_option maxRecDepth 100000 in
set_option maxHeartbeats 64000000 in
theorem write_any {x : Mm} {w : World} (hm : MgAt w x) (hs1 : x.m.meth.size ≤ 1099511627776) (hs2 : x.m.targ.size ≤ 1099511627776) (hs3 : x.m.reas.size ≤ 1099511627776) (hw : Wh w w.heap.size) (hsz : Hid ((topL x.m).length + x.m.body.length ≤ 140737488355328)) :
    Calls Tryz.prog 10 #[.agg x.cells] w fun e w' => WrV w' w.heap.size (writeS x.m) e ∧ Below w.heap.size w w' := by
  obtain ⟨⟨me, ta, sn, re, hd, bo⟩, hs, bd⟩ := x
  dsimp only at hsz ⊢
  obtain ⟨hA, hc, hhs, hcells⟩ := id hm.hd
  obtain ⟨bA, bc, hbv, _⟩ := id hm.bt
  dsimp only at hbv
  subst hbv
  have HM := Lib.hid hm
  have HL : Hid (hd.length ≤ 140737488355328) := Lib.hid hm.hl
  have HW := Lib.hid hw
  have hst : ∀ w', Wh w' w'.heap.size → Calls Tryz.prog 31 #[.agg (Mm.cells ⟨⟨me, ta, sn, re, hd, bo⟩, hs, .slice bA bo.length bc⟩)] w' fun e w'' => e = .returned (.tuple #[.string (txt (startL ⟨me, ta, sn, re, hd, bo⟩)), .bool (startB ⟨me, ta, sn, re, hd, bo⟩)]) ∧ Below w'.heap.size w' w'' := fun w' hw' => by
    by_cases h0 : me.size = 0
    · exact start_ans hs3 hm.st hw' h0
    · exact start_req hs1 hs2 h0
  have HST := Lib.hid hst
  dsimp only at hhs
  subst hhs
  have hcell : Mm.cells ⟨⟨me, ta, sn, re, hd, bo⟩, .slice hA hd.length hc, .slice bA bo.length bc⟩ = #[.string me, .string ta, .int .i64 sn, .string re, .slice hA hd.length hc, .slice bA bo.length bc] := rfl
  rw [hcell] at hst
  rw [hcell]
  clear hm hcells hcell hst hs1 hs2 hs3 hw
  generalize hSL : startL ⟨me, ta, sn, re, hd, bo⟩ = sl at HST
  generalize hSB : startB ⟨me, ta, sn, re, hd, bo⟩ = sb at HST
  have HSL := Lib.hid hSL
  have HSB := Lib.hid hSB
  clear hSL hSB
  go_enter Tryz.func10, Tryz.ntmps10
  go_wp2_with (first
    | (refine wpl_box_at rfl 25 (.tmp 0) rfl _ rfl ?_; intro w1 hw; have B1 := hid_alloc0 hw; have HB := hid_grow hw; clear hw)
    | ((with_reducible refine is_load ?_); refine wpl_load_box rfl 25 (.tmp 1) rfl _ rfl _ _ _ B1 Tryz.underlying25 rfl info_msg ?_)
    | (go_at_call 31; (refine (HST.out _ (fun W hW => HW.out W (zT HB hW))).mono ?_); rintro e w2 ⟨rfl, hb⟩; replace B1 := zI B1 hb; replace HB := zT HB hb; clear hb; have c4 : w2.cell? ⟨w.heap.size, 4, none⟩ = some (.slice hA hd.length hc) := B1.cell 4))
  go_loopw [19, 5] (fun iv ov wr => ∃ i : Nat, iv = .int .i64 (i : Int) ∧ ov = .bool (sb && (hd.take i).all fitB) ∧ i ≤ hd.length ∧ IBox wr w.heap.size 25 #[.string me, .string ta, .int .i64 sn, .string re, .slice hA hd.length hc, .slice bA bo.length bc] ∧ Below w.heap.size w wr) (fun iv _ _ => match iv with | .int _ i => (hd.length - i.toNat) | _ => 0)
  case atStart => exact ⟨0, rfl, by simp, Nat.zero_le _, B1, HB⟩
  case round =>
    clear HB c4 B1
    obtain ⟨i, rfl, rfl, hi, B1, HB⟩ := hrel
    have hl := HL.out
    generalize hok : (sb && (hd.take i).all fitB) = okv
    by_cases hlt : i < hd.length
    · obtain ⟨p, hp⟩ : ∃ p, hd[i]? = some p := ⟨_, List.getElem?_eq_getElem hlt⟩
      have hpz := HM.out.hz p (List.mem_of_getElem? hp)
      obtain ⟨A2, c2, hv2, hcells⟩ := HM.out.hd.below HB
      obtain ⟨gh, off, hA2, e1, e2⟩ := hcells i p hp
      injection hv2 with v1 v2 v3
      clear v2 v3
      subst v1
      subst hA2
      obtain ⟨pn, pv⟩ := p
      obtain ⟨z1, z2⟩ : pn.size ≤ 140737488355328 ∧ pv.size ≤ 140737488355328 := hpz
      clear hcells
      have hrow : wr.rangeAt gh (off + i * 2) (hdA pn pv).toList := fun j v hv => by
        have hj : j = 0 ∨ j = 1 := by
          have := (List.getElem?_eq_some_iff.1 hv).1
          have e : (hdA pn pv).toList.length = 2 := rfl
          omega
        rcases hj with rfl | rfl
        · have : v = .string pn := (Option.some.inj hv).symm
          rw [this]; exact e1
        · have : v = .string pv := (Option.some.inj hv).symm
          rw [this]; exact e2
      have HN : Hid ((sb && (hd.take (i + 1)).all fitB) = (okv && fitB (pn, pv))) := Lib.hid (by
        rw [List.take_add_one, hp]
        simp only [Option.toList, List.all_append, List.all_cons, List.all_nil, Bool.and_true]
        rw [← hok, Bool.and_assoc])
      have HFB := Lib.hid (fitB_eq pn pv)
      clear hok hp
      cases okv
      · have HX : Hid ((sb && (hd.take (i + 1)).all fitB) = false) := Lib.hid (by (rw [HN.out, Bool.false_and]) <;> rfl)
        clear HN HFB
        go_wp2_with (first
          | ((with_reducible refine is_load ?_); refine wpl_load_arr rfl 51 (.tmp 21) rfl gh (off + i * 2) rfl (hdA pn pv) _ hrow Tryz.underlying51 rfl info_hd2 ?_)
          | (refine wpl_newbox 7 rfl rfl 51 rfl rfl (.tmp 22) rfl _ zeroHd (hdA pn pv) rfl rfl info_hd2 rfl (hd_one _ _) ?_; intro w5 hw; have hb := hid_grow hw; have B8 := (hid_alloc hw).1; replace B1 := zI B1 hb; replace HB := zT HB hb; clear hb hw e1 e2; have c80 : w5.cell? ⟨wr.heap.size, 0, none⟩ = some (.string pn) := B8.cell 0; have c81 : w5.cell? ⟨wr.heap.size, 1, none⟩ = some (.string pv) := B8.cell 1))
        refine wp_region_S (S := fun w' => w'.cell? ⟨wr.heap.size, 0, none⟩ = some (.string pn) ∧ w'.cell? ⟨wr.heap.size, 1, none⟩ = some (.string pv)) (by kernel_rfl) (fun w2 hh => ⟨(box_heap hh B8).cell 0, (box_heap hh B8).cell 1⟩) (fun w2 hh hbb HS0 => ?_)
        replace HB := HB.trans ((hbb _ (Nat.le_refl _)).mono HB.size)
        replace B8 := box_heap hh B8
        replace B1 := box_heap hh B1
        clear hh hbb c80 c81
        refine TKC 0 23 rfl ?_
        try simp only [Act.put, zA, zB, zC]
        refine TKC 1 24 rfl ?_
        try simp only [Act.put, zA, zB, zC]
        refine TKN 2 25 rfl ?_
        try simp only [Act.put, zA, zB, zC]
        refine TKN 3 26 rfl ?_
        try simp only [Act.put, zA, zB, zC]
        refine TKN 4 27 rfl ?_
        try simp only [Act.put, zA, zB, zC]
        refine TKC 5 28 rfl ?_
        try simp only [Act.put, zA, zB, zC]
        refine TKC 6 29 rfl ?_
        try simp only [Act.put, zA, zB, zC]
        refine TKN 7 30 rfl ?_
        try simp only [Act.put, zA, zB, zC]
        refine TKN 8 31 rfl ?_
        try simp only [Act.put, zA, zB, zC]
        refine TKN 9 32 rfl ?_
        try simp only [Act.put, zA, zB, zC]
        refine TKC 10 33 rfl ?_
        try simp only [Act.put, zA, zB, zC]
        refine TKC 11 34 rfl ?_
        try simp only [Act.put, zA, zB, zC]
        refine TKN 12 35 rfl ?_
        try simp only [Act.put, zA, zB, zC]
        refine TKN 13 36 rfl ?_
        try simp only [Act.put, zA, zB, zC]
        refine TKN 14 37 rfl ?_
        try simp only [Act.put, zA, zB, zC]
        refine TKC 15 38 rfl ?_
        try simp only [Act.put, zA, zB, zC]
        refine TKC 16 39 rfl ?_
        try simp only [Act.put, zA, zB, zC]
        refine TKN 17 40 rfl ?_
        try simp only [Act.put, zA, zB, zC]
        refine TKN 18 41 rfl ?_
        try simp only [Act.put, zA, zB, zC]
        refine TKN 20 43 rfl ?_
        try simp only [Act.put, zA, zB, zC]
        refine TKN 21 44 rfl ?_
        try simp only [Act.put, zA, zB, zC]
        refine TKN 19 42 rfl ?_
        try simp only [Act.put, zA, zB, zC]
        refine TKN 22 45 rfl ?_
        try simp only [Act.put, zA, zB, zC]
        refine TKC 23 46 rfl ?_
        try simp only [Act.put, zA, zB, zC]
        refine TKC 24 5 rfl ?_
        try simp only [Act.put, zA, zB, zC]
        refine wpAnyH_done (by kernel_rfl) ?_ _
        have c80 := HS0.1
        clear HS0
        go_wp2
        go_roundw
        case rel => exact ⟨i + 1, rfl, by rw [HX.out], by omega, B1, HB⟩
        case measure => (simp only; omega)
      · by_cases b1 : pn.size = 0
        · have hne := is_empty b1
          have HX : Hid ((sb && (hd.take (i + 1)).all fitB) = false) := Lib.hid (by (rw [HN.out, show fitB (pn, pv) = false by rw [HFB.out]; simp [b1]]) <;> rfl)
          clear HN HFB
          go_wp2_with (first
            | ((with_reducible refine is_load ?_); refine wpl_load_arr rfl 51 (.tmp 21) rfl gh (off + i * 2) rfl (hdA pn pv) _ hrow Tryz.underlying51 rfl info_hd2 ?_)
            | (refine wpl_newbox 7 rfl rfl 51 rfl rfl (.tmp 22) rfl _ zeroHd (hdA pn pv) rfl rfl info_hd2 rfl (hd_one _ _) ?_; intro w5 hw; have hb := hid_grow hw; have B8 := (hid_alloc hw).1; replace B1 := zI B1 hb; replace HB := zT HB hb; clear hb hw e1 e2; have c80 : w5.cell? ⟨wr.heap.size, 0, none⟩ = some (.string pn) := B8.cell 0; have c81 : w5.cell? ⟨wr.heap.size, 1, none⟩ = some (.string pv) := B8.cell 1))
          refine wp_region_S (S := fun w' => w'.cell? ⟨wr.heap.size, 0, none⟩ = some (.string pn) ∧ w'.cell? ⟨wr.heap.size, 1, none⟩ = some (.string pv)) (by kernel_rfl) (fun w2 hh => ⟨(box_heap hh B8).cell 0, (box_heap hh B8).cell 1⟩) (fun w2 hh hbb HS0 => ?_)
          replace HB := HB.trans ((hbb _ (Nat.le_refl _)).mono HB.size)
          replace B8 := box_heap hh B8
          replace B1 := box_heap hh B1
          clear hh hbb c80 c81
          refine TKC 0 23 rfl ?_
          try simp only [Act.put, zA, zB, zC]
          refine TKC 1 24 rfl ?_
          try simp only [Act.put, zA, zB, zC]
          refine TKC 2 25 rfl ?_
          try simp only [Act.put, zA, zB, zC]
          refine TKC 3 26 rfl ?_ (by (intro w hSw; (try dsimp only at hSw); have q1 := hSw.1; go_simp; try with_reducible rfl))
          try simp only [Act.put, zA, zB, zC]
          refine TKC 4 27 rfl ?_
          try simp only [Act.put, zA, zB, zC]
          refine TKC 5 28 rfl ?_
          try simp only [Act.put, zA, zB, zC]
          refine TKC 6 29 rfl ?_
          try simp only [Act.put, zA, zB, zC]
          refine TKN 7 30 rfl ?_
          try simp only [Act.put, zA, zB, zC]
          refine TKN 8 31 rfl ?_
          try simp only [Act.put, zA, zB, zC]
          refine TKN 9 32 rfl ?_
          try simp only [Act.put, zA, zB, zC]
          refine TKC 10 33 rfl ?_
          try simp only [Act.put, zA, zB, zC]
          refine TKC 11 34 rfl ?_
          try simp only [Act.put, zA, zB, zC]
          refine TKN 12 35 rfl ?_
          try simp only [Act.put, zA, zB, zC]
          refine TKN 13 36 rfl ?_
          try simp only [Act.put, zA, zB, zC]
          refine TKN 14 37 rfl ?_
          try simp only [Act.put, zA, zB, zC]
          refine TKC 15 38 rfl ?_
          try simp only [Act.put, zA, zB, zC]
          refine TKC 16 39 rfl ?_
          try simp only [Act.put, zA, zB, zC]
          refine TKN 17 40 rfl ?_
          try simp only [Act.put, zA, zB, zC]
          refine TKN 18 41 rfl ?_
          try simp only [Act.put, zA, zB, zC]
          refine TKN 20 43 rfl ?_
          try simp only [Act.put, zA, zB, zC]
          refine TKN 21 44 rfl ?_
          try simp only [Act.put, zA, zB, zC]
          refine TKN 19 42 rfl ?_
          try simp only [Act.put, zA, zB, zC]
          refine TKN 22 45 rfl ?_
          try simp only [Act.put, zA, zB, zC]
          refine TKC 23 46 rfl ?_
          try simp only [Act.put, zA, zB, zC]
          refine TKC 24 5 rfl ?_
          try simp only [Act.put, zA, zB, zC]
          refine wpAnyH_done (by kernel_rfl) ?_ _
          have c80 := HS0.1
          clear HS0
          go_wp2
          go_roundw
          case rel => exact ⟨i + 1, rfl, by rw [HX.out], by omega, B1, HB⟩
          case measure => (simp only; omega)
        · have hne := ne_empty b1
          by_cases b2 : (bl pn).all isNameB = true
          · have HE1 : Hid (∀ w, Calls Tryz.prog 32 #[.string pn, .func (.func 33) #[] #[]] w fun e w' => e = .returned (.bool true) ∧ w = w') := Lib.hid (fun w => by have h := every_any 33 isNameB name_any (by kernel_rfl) pn w (by omega); rw [show pn.data.toList.all isNameB = true from b2] at h; exact h)
            by_cases b3 : (bl pv).all isValueB = true
            · have HE2 : Hid (∀ w, Calls Tryz.prog 32 #[.string pv, .func (.func 34) #[] #[]] w fun e w' => e = .returned (.bool true) ∧ w = w') := Lib.hid (fun w => by have h := every_any 34 isValueB value_any (by kernel_rfl) pv w (by omega); rw [show pv.data.toList.all isValueB = true from b3] at h; exact h)
              by_cases b4 : trimL (bl pv) = bl pv
              · have hq : ((txt (trimL (bl pv))).toList == pv.toList) = true := by rw [ba_toList, ba_toList, beq_iff_eq]; exact b4
                have HT : Hid (∀ w, Calls Tryz.prog 35 #[.string pv, .string ⟨#[32, 9]⟩] w fun e w' => e = .returned (.string (txt (trimL (bl pv)))) ∧ Below w.heap.size w w') := Lib.hid (fun w => by have h := trim_any (bl pv) (by rw [bl_len]; omega) w; rw [show txt (bl pv) = pv from txt_bl pv] at h; exact h)
                by_cases k1 : alikeB (bl pn) codingL = true
                · have HC1 : Hid (∀ w, Calls Tryz.prog 36 #[.string pn, .string ⟨#[84, 114, 97, 110, 115, 102, 101, 114, 45, 69, 110, 99, 111, 100, 105, 110, 103]⟩] w fun e w' => e = .returned (.bool true) ∧ Below w.heap.size w w') := Lib.hid fun w => by
                    have h := alike_any pn ⟨#[84, 114, 97, 110, 115, 102, 101, 114, 45, 69, 110, 99, 111, 100, 105, 110, 103]⟩ w (by omega) (by decide)
                    rw [show alikeB pn.data.toList (⟨#[84, 114, 97, 110, 115, 102, 101, 114, 45, 69, 110, 99, 111, 100, 105, 110, 103]⟩ : ByteArray).data.toList = true from k1] at h
                    exact h
                  have HX : Hid ((sb && (hd.take (i + 1)).all fitB) = false) := Lib.hid (by (rw [HN.out, show fitB (pn, pv) = false by rw [HFB.out, k1]; simp]) <;> rfl)
                  clear HN HFB
                  go_wp2_with (first
                    | ((with_reducible refine is_load ?_); refine wpl_load_arr rfl 51 (.tmp 21) rfl gh (off + i * 2) rfl (hdA pn pv) _ hrow Tryz.underlying51 rfl info_hd2 ?_)
                    | (refine wpl_newbox 7 rfl rfl 51 rfl rfl (.tmp 22) rfl _ zeroHd (hdA pn pv) rfl rfl info_hd2 rfl (hd_one _ _) ?_; intro w5 hw; have hb := hid_grow hw; have B8 := (hid_alloc hw).1; replace B1 := zI B1 hb; replace HB := zT HB hb; clear hb hw e1 e2; have c80 : w5.cell? ⟨wr.heap.size, 0, none⟩ = some (.string pn) := B8.cell 0; have c81 : w5.cell? ⟨wr.heap.size, 1, none⟩ = some (.string pv) := B8.cell 1))
                  refine wp_region_S (S := fun w' => w'.cell? ⟨wr.heap.size, 0, none⟩ = some (.string pn) ∧ w'.cell? ⟨wr.heap.size, 1, none⟩ = some (.string pv)) (by kernel_rfl) (fun w2 hh => ⟨(box_heap hh B8).cell 0, (box_heap hh B8).cell 1⟩) (fun w2 hh hbb HS0 => ?_)
                  replace HB := HB.trans ((hbb _ (Nat.le_refl _)).mono HB.size)
                  replace B8 := box_heap hh B8
                  replace B1 := box_heap hh B1
                  clear hh hbb c80 c81
                  refine TKC 0 23 rfl ?_
                  try simp only [Act.put, zA, zB, zC]
                  refine TKC 1 24 rfl ?_
                  try simp only [Act.put, zA, zB, zC]
                  refine TKC 2 25 rfl ?_
                  try simp only [Act.put, zA, zB, zC]
                  refine TKC 3 26 rfl ?_ (by (intro w hSw; (try dsimp only at hSw); have q1 := hSw.1; go_simp; try with_reducible rfl))
                  try simp only [Act.put, zA, zB, zC]
                  refine TKC 4 27 rfl ?_
                  try simp only [Act.put, zA, zB, zC]
                  refine TKC 5 28 rfl ?_
                  try simp only [Act.put, zA, zB, zC]
                  refine TKC 6 29 rfl ?_
                  try simp only [Act.put, zA, zB, zC]
                  refine TKC 7 30 rfl ?_
                  try simp only [Act.put, zA, zB, zC]
                  refine TKC 8 31 rfl ?_ (by (intro w hSw; (try dsimp only at hSw); have q1 := hSw.1; go_simp; try with_reducible rfl))
                  try simp only [Act.put, zA, zB, zC]
                  refine wpAnyH_ready (rs := [9]) (by kernel_rfl) (by simp) ?_
                  refine AllReadyH.cons (o := ⟨some 32, _, _, _, _, _⟩) rfl (fun K hK => ?_) AllReadyH.nil
                  go_simp
                  (go_at_call 32; (with_reducible refine (HE1.out _).mono ?_); rintro e w9 ⟨rfl, rfl⟩)
                  refine hK.out _ _ HS0 (fun hS2 => ?_)
                  clear hK K hS2
                  try simp only [Act.put, zA, zB, zC]
                  refine TKC 10 33 rfl ?_
                  try simp only [Act.put, zA, zB, zC]
                  refine TKC 11 34 rfl ?_
                  try simp only [Act.put, zA, zB, zC]
                  refine TKC 12 35 rfl ?_
                  try simp only [Act.put, zA, zB, zC]
                  refine TKC 13 36 rfl ?_ (by (intro w hSw; (try dsimp only at hSw); have q1 := hSw.2; go_simp; try with_reducible rfl))
                  try simp only [Act.put, zA, zB, zC]
                  refine wpAnyH_ready (rs := [14]) (by kernel_rfl) (by simp) ?_
                  refine AllReadyH.cons (o := ⟨some 37, _, _, _, _, _⟩) rfl (fun K hK => ?_) AllReadyH.nil
                  go_simp
                  (go_at_call 32; (with_reducible refine (HE2.out _).mono ?_); rintro e w10 ⟨rfl, rfl⟩)
                  refine hK.out _ _ HS0 (fun hS2 => ?_)
                  clear hK K hS2
                  try simp only [Act.put, zA, zB, zC]
                  refine TKC 15 38 rfl ?_
                  try simp only [Act.put, zA, zB, zC]
                  refine TKC 16 39 rfl ?_
                  try simp only [Act.put, zA, zB, zC]
                  refine TKC 17 40 rfl ?_
                  try simp only [Act.put, zA, zB, zC]
                  refine TKC 18 41 rfl ?_ (by (intro w hSw; (try dsimp only at hSw); have q1 := hSw.2; go_simp; try with_reducible rfl))
                  try simp only [Act.put, zA, zB, zC]
                  refine TKC 20 43 rfl ?_
                  try simp only [Act.put, zA, zB, zC]
                  refine TKC 21 44 rfl ?_ (by (intro w hSw; (try dsimp only at hSw); have q1 := hSw.2; go_simp; try with_reducible rfl))
                  try simp only [Act.put, zA, zB, zC]
                  refine wpAnyH_ready (rs := [19]) (by kernel_rfl) (by simp) ?_
                  refine AllReadyH.cons (o := ⟨some 42, _, _, _, _, _⟩) rfl (fun K hK => ?_) AllReadyH.nil
                  go_simp
                  (go_at_call 35; (with_reducible refine (HT.out _).mono ?_); rintro e w11 ⟨rfl, hb⟩)
                  replace B8 := zI B8 hb
                  replace B1 := zI B1 hb
                  replace HB := zT HB hb
                  clear hb
                  replace HS0 : w11.cell? ⟨wr.heap.size, 0, none⟩ = some (.string pn) ∧ w11.cell? ⟨wr.heap.size, 1, none⟩ = some (.string pv) := ⟨B8.cell 0, B8.cell 1⟩
                  refine hK.out _ _ HS0 (fun hS2 => ?_)
                  clear hK K hS2
                  try simp only [Act.put, zA, zB, zC]
                  refine TKC 22 45 rfl ?_
                  try simp only [Act.put, zA, zB, zC]
                  refine TKC 23 46 rfl ?_
                  try simp only [Act.put, zA, zB, zC]
                  refine TKC 24 5 rfl ?_
                  try simp only [Act.put, zA, zB, zC]
                  refine wpAnyH_done (by kernel_rfl) ?_ _
                  have c80 := HS0.1
                  clear HS0
                  go_wp2_with (first
                    | (go_at_call 36; (with_reducible refine (HC1.out _).mono ?_); rintro e w12 ⟨rfl, hb⟩; replace B8 := zI B8 hb; replace B1 := zI B1 hb; replace HB := zT HB hb; clear hb; clear c80; have c80 : w12.cell? ⟨wr.heap.size, 0, none⟩ = some (.string pn) := B8.cell 0))
                  go_roundw
                  case rel => exact ⟨i + 1, rfl, by rw [HX.out], by omega, B1, HB⟩
                  case measure => (simp only; omega)
                · have k1f : alikeB (bl pn) codingL = false := by simpa using k1
                  have HC1 : Hid (∀ w, Calls Tryz.prog 36 #[.string pn, .string ⟨#[84, 114, 97, 110, 115, 102, 101, 114, 45, 69, 110, 99, 111, 100, 105, 110, 103]⟩] w fun e w' => e = .returned (.bool false) ∧ Below w.heap.size w w') := Lib.hid fun w => by
                    have h := alike_any pn ⟨#[84, 114, 97, 110, 115, 102, 101, 114, 45, 69, 110, 99, 111, 100, 105, 110, 103]⟩ w (by omega) (by decide)
                    rw [show alikeB pn.data.toList (⟨#[84, 114, 97, 110, 115, 102, 101, 114, 45, 69, 110, 99, 111, 100, 105, 110, 103]⟩ : ByteArray).data.toList = false from k1f] at h
                    exact h
                  by_cases k2 : alikeB (bl pn) lengthL = true
                  · have HC2 : Hid (∀ w, Calls Tryz.prog 36 #[.string pn, .string ⟨#[67, 111, 110, 116, 101, 110, 116, 45, 76, 101, 110, 103, 116, 104]⟩] w fun e w' => e = .returned (.bool true) ∧ Below w.heap.size w w') := Lib.hid fun w => by
                      have h := alike_any pn ⟨#[67, 111, 110, 116, 101, 110, 116, 45, 76, 101, 110, 103, 116, 104]⟩ w (by omega) (by decide)
                      rw [show alikeB pn.data.toList (⟨#[67, 111, 110, 116, 101, 110, 116, 45, 76, 101, 110, 103, 116, 104]⟩ : ByteArray).data.toList = true from k2] at h
                      exact h
                    have HX : Hid ((sb && (hd.take (i + 1)).all fitB) = false) := Lib.hid (by (rw [HN.out, show fitB (pn, pv) = false by rw [HFB.out, k2]; simp]) <;> rfl)
                    clear HN HFB
                    go_wp2_with (first
                      | ((with_reducible refine is_load ?_); refine wpl_load_arr rfl 51 (.tmp 21) rfl gh (off + i * 2) rfl (hdA pn pv) _ hrow Tryz.underlying51 rfl info_hd2 ?_)
                      | (refine wpl_newbox 7 rfl rfl 51 rfl rfl (.tmp 22) rfl _ zeroHd (hdA pn pv) rfl rfl info_hd2 rfl (hd_one _ _) ?_; intro w5 hw; have hb := hid_grow hw; have B8 := (hid_alloc hw).1; replace B1 := zI B1 hb; replace HB := zT HB hb; clear hb hw e1 e2; have c80 : w5.cell? ⟨wr.heap.size, 0, none⟩ = some (.string pn) := B8.cell 0; have c81 : w5.cell? ⟨wr.heap.size, 1, none⟩ = some (.string pv) := B8.cell 1))
                    refine wp_region_S (S := fun w' => w'.cell? ⟨wr.heap.size, 0, none⟩ = some (.string pn) ∧ w'.cell? ⟨wr.heap.size, 1, none⟩ = some (.string pv)) (by kernel_rfl) (fun w2 hh => ⟨(box_heap hh B8).cell 0, (box_heap hh B8).cell 1⟩) (fun w2 hh hbb HS0 => ?_)
                    replace HB := HB.trans ((hbb _ (Nat.le_refl _)).mono HB.size)
                    replace B8 := box_heap hh B8
                    replace B1 := box_heap hh B1
                    clear hh hbb c80 c81
                    refine TKC 0 23 rfl ?_
                    try simp only [Act.put, zA, zB, zC]
                    refine TKC 1 24 rfl ?_
                    try simp only [Act.put, zA, zB, zC]
                    refine TKC 2 25 rfl ?_
                    try simp only [Act.put, zA, zB, zC]
                    refine TKC 3 26 rfl ?_ (by (intro w hSw; (try dsimp only at hSw); have q1 := hSw.1; go_simp; try with_reducible rfl))
                    try simp only [Act.put, zA, zB, zC]
                    refine TKC 4 27 rfl ?_
                    try simp only [Act.put, zA, zB, zC]
                    refine TKC 5 28 rfl ?_
                    try simp only [Act.put, zA, zB, zC]
                    refine TKC 6 29 rfl ?_
                    try simp only [Act.put, zA, zB, zC]
                    refine TKC 7 30 rfl ?_
                    try simp only [Act.put, zA, zB, zC]
                    refine TKC 8 31 rfl ?_ (by (intro w hSw; (try dsimp only at hSw); have q1 := hSw.1; go_simp; try with_reducible rfl))
                    try simp only [Act.put, zA, zB, zC]
                    refine wpAnyH_ready (rs := [9]) (by kernel_rfl) (by simp) ?_
                    refine AllReadyH.cons (o := ⟨some 32, _, _, _, _, _⟩) rfl (fun K hK => ?_) AllReadyH.nil
                    go_simp
                    (go_at_call 32; (with_reducible refine (HE1.out _).mono ?_); rintro e w9 ⟨rfl, rfl⟩)
                    refine hK.out _ _ HS0 (fun hS2 => ?_)
                    clear hK K hS2
                    try simp only [Act.put, zA, zB, zC]
                    refine TKC 10 33 rfl ?_
                    try simp only [Act.put, zA, zB, zC]
                    refine TKC 11 34 rfl ?_
                    try simp only [Act.put, zA, zB, zC]
                    refine TKC 12 35 rfl ?_
                    try simp only [Act.put, zA, zB, zC]
                    refine TKC 13 36 rfl ?_ (by (intro w hSw; (try dsimp only at hSw); have q1 := hSw.2; go_simp; try with_reducible rfl))
                    try simp only [Act.put, zA, zB, zC]
                    refine wpAnyH_ready (rs := [14]) (by kernel_rfl) (by simp) ?_
                    refine AllReadyH.cons (o := ⟨some 37, _, _, _, _, _⟩) rfl (fun K hK => ?_) AllReadyH.nil
                    go_simp
                    (go_at_call 32; (with_reducible refine (HE2.out _).mono ?_); rintro e w10 ⟨rfl, rfl⟩)
                    refine hK.out _ _ HS0 (fun hS2 => ?_)
                    clear hK K hS2
                    try simp only [Act.put, zA, zB, zC]
                    refine TKC 15 38 rfl ?_
                    try simp only [Act.put, zA, zB, zC]
                    refine TKC 16 39 rfl ?_
                    try simp only [Act.put, zA, zB, zC]
                    refine TKC 17 40 rfl ?_
                    try simp only [Act.put, zA, zB, zC]
                    refine TKC 18 41 rfl ?_ (by (intro w hSw; (try dsimp only at hSw); have q1 := hSw.2; go_simp; try with_reducible rfl))
                    try simp only [Act.put, zA, zB, zC]
                    refine TKC 20 43 rfl ?_
                    try simp only [Act.put, zA, zB, zC]
                    refine TKC 21 44 rfl ?_ (by (intro w hSw; (try dsimp only at hSw); have q1 := hSw.2; go_simp; try with_reducible rfl))
                    try simp only [Act.put, zA, zB, zC]
                    refine wpAnyH_ready (rs := [19]) (by kernel_rfl) (by simp) ?_
                    refine AllReadyH.cons (o := ⟨some 42, _, _, _, _, _⟩) rfl (fun K hK => ?_) AllReadyH.nil
                    go_simp
                    (go_at_call 35; (with_reducible refine (HT.out _).mono ?_); rintro e w11 ⟨rfl, hb⟩)
                    replace B8 := zI B8 hb
                    replace B1 := zI B1 hb
                    replace HB := zT HB hb
                    clear hb
                    replace HS0 : w11.cell? ⟨wr.heap.size, 0, none⟩ = some (.string pn) ∧ w11.cell? ⟨wr.heap.size, 1, none⟩ = some (.string pv) := ⟨B8.cell 0, B8.cell 1⟩
                    refine hK.out _ _ HS0 (fun hS2 => ?_)
                    clear hK K hS2
                    try simp only [Act.put, zA, zB, zC]
                    refine TKC 22 45 rfl ?_
                    try simp only [Act.put, zA, zB, zC]
                    refine TKC 23 46 rfl ?_
                    try simp only [Act.put, zA, zB, zC]
                    refine TKC 24 5 rfl ?_
                    try simp only [Act.put, zA, zB, zC]
                    refine wpAnyH_done (by kernel_rfl) ?_ _
                    have c80 := HS0.1
                    clear HS0
                    go_wp2_with (first
                      | (go_at_call 36; (with_reducible refine (HC1.out _).mono ?_); rintro e w12 ⟨rfl, hb⟩; replace B8 := zI B8 hb; replace B1 := zI B1 hb; replace HB := zT HB hb; clear hb; clear c80; have c80 : w12.cell? ⟨wr.heap.size, 0, none⟩ = some (.string pn) := B8.cell 0)
                      | (go_at_call 36; (with_reducible refine (HC2.out _).mono ?_); rintro e w13 ⟨rfl, hb⟩; replace B8 := zI B8 hb; replace B1 := zI B1 hb; replace HB := zT HB hb; clear hb; clear c80; have c80 : w13.cell? ⟨wr.heap.size, 0, none⟩ = some (.string pn) := B8.cell 0))
                    go_roundw
                    case rel => exact ⟨i + 1, rfl, by rw [HX.out], by omega, B1, HB⟩
                    case measure => (simp only; omega)
                  · have k2f : alikeB (bl pn) lengthL = false := by simpa using k2
                    have HC2 : Hid (∀ w, Calls Tryz.prog 36 #[.string pn, .string ⟨#[67, 111, 110, 116, 101, 110, 116, 45, 76, 101, 110, 103, 116, 104]⟩] w fun e w' => e = .returned (.bool false) ∧ Below w.heap.size w w') := Lib.hid fun w => by
                      have h := alike_any pn ⟨#[67, 111, 110, 116, 101, 110, 116, 45, 76, 101, 110, 103, 116, 104]⟩ w (by omega) (by decide)
                      rw [show alikeB pn.data.toList (⟨#[67, 111, 110, 116, 101, 110, 116, 45, 76, 101, 110, 103, 116, 104]⟩ : ByteArray).data.toList = false from k2f] at h
                      exact h
                    have HX : Hid ((sb && (hd.take (i + 1)).all fitB) = true) := Lib.hid (by (rw [HN.out, show fitB (pn, pv) = true by rw [HFB.out]; simp [b1, b2, b3, b4, k1f, k2f]]) <;> rfl)
                    clear HN HFB
                    go_wp2_with (first
                      | ((with_reducible refine is_load ?_); refine wpl_load_arr rfl 51 (.tmp 21) rfl gh (off + i * 2) rfl (hdA pn pv) _ hrow Tryz.underlying51 rfl info_hd2 ?_)
                      | (refine wpl_newbox 7 rfl rfl 51 rfl rfl (.tmp 22) rfl _ zeroHd (hdA pn pv) rfl rfl info_hd2 rfl (hd_one _ _) ?_; intro w5 hw; have hb := hid_grow hw; have B8 := (hid_alloc hw).1; replace B1 := zI B1 hb; replace HB := zT HB hb; clear hb hw e1 e2; have c80 : w5.cell? ⟨wr.heap.size, 0, none⟩ = some (.string pn) := B8.cell 0; have c81 : w5.cell? ⟨wr.heap.size, 1, none⟩ = some (.string pv) := B8.cell 1))
                    refine wp_region_S (S := fun w' => w'.cell? ⟨wr.heap.size, 0, none⟩ = some (.string pn) ∧ w'.cell? ⟨wr.heap.size, 1, none⟩ = some (.string pv)) (by kernel_rfl) (fun w2 hh => ⟨(box_heap hh B8).cell 0, (box_heap hh B8).cell 1⟩) (fun w2 hh hbb HS0 => ?_)
                    replace HB := HB.trans ((hbb _ (Nat.le_refl _)).mono HB.size)
                    replace B8 := box_heap hh B8
                    replace B1 := box_heap hh B1
                    clear hh hbb c80 c81
                    refine TKC 0 23 rfl ?_
                    try simp only [Act.put, zA, zB, zC]
                    refine TKC 1 24 rfl ?_
                    try simp only [Act.put, zA, zB, zC]
                    refine TKC 2 25 rfl ?_
                    try simp only [Act.put, zA, zB, zC]
                    refine TKC 3 26 rfl ?_ (by (intro w hSw; (try dsimp only at hSw); have q1 := hSw.1; go_simp; try with_reducible rfl))
                    try simp only [Act.put, zA, zB, zC]
                    refine TKC 4 27 rfl ?_
                    try simp only [Act.put, zA, zB, zC]
                    refine TKC 5 28 rfl ?_
                    try simp only [Act.put, zA, zB, zC]
                    refine TKC 6 29 rfl ?_
                    try simp only [Act.put, zA, zB, zC]
                    refine TKC 7 30 rfl ?_
                    try simp only [Act.put, zA, zB, zC]
                    refine TKC 8 31 rfl ?_ (by (intro w hSw; (try dsimp only at hSw); have q1 := hSw.1; go_simp; try with_reducible rfl))
                    try simp only [Act.put, zA, zB, zC]
                    refine wpAnyH_ready (rs := [9]) (by kernel_rfl) (by simp) ?_
                    refine AllReadyH.cons (o := ⟨some 32, _, _, _, _, _⟩) rfl (fun K hK => ?_) AllReadyH.nil
                    go_simp
                    (go_at_call 32; (with_reducible refine (HE1.out _).mono ?_); rintro e w9 ⟨rfl, rfl⟩)
                    refine hK.out _ _ HS0 (fun hS2 => ?_)
                    clear hK K hS2
                    try simp only [Act.put, zA, zB, zC]
                    refine TKC 10 33 rfl ?_
                    try simp only [Act.put, zA, zB, zC]
                    refine TKC 11 34 rfl ?_
                    try simp only [Act.put, zA, zB, zC]
                    refine TKC 12 35 rfl ?_
                    try simp only [Act.put, zA, zB, zC]
                    refine TKC 13 36 rfl ?_ (by (intro w hSw; (try dsimp only at hSw); have q1 := hSw.2; go_simp; try with_reducible rfl))
                    try simp only [Act.put, zA, zB, zC]
                    refine wpAnyH_ready (rs := [14]) (by kernel_rfl) (by simp) ?_
                    refine AllReadyH.cons (o := ⟨some 37, _, _, _, _, _⟩) rfl (fun K hK => ?_) AllReadyH.nil
                    go_simp
                    (go_at_call 32; (with_reducible refine (HE2.out _).mono ?_); rintro e w10 ⟨rfl, rfl⟩)
                    refine hK.out _ _ HS0 (fun hS2 => ?_)
                    clear hK K hS2
                    try simp only [Act.put, zA, zB, zC]
                    refine TKC 15 38 rfl ?_
                    try simp only [Act.put, zA, zB, zC]
                    refine TKC 16 39 rfl ?_
                    try simp only [Act.put, zA, zB, zC]
                    refine TKC 17 40 rfl ?_
                    try simp only [Act.put, zA, zB, zC]
                    refine TKC 18 41 rfl ?_ (by (intro w hSw; (try dsimp only at hSw); have q1 := hSw.2; go_simp; try with_reducible rfl))
                    try simp only [Act.put, zA, zB, zC]
                    refine TKC 20 43 rfl ?_
                    try simp only [Act.put, zA, zB, zC]
                    refine TKC 21 44 rfl ?_ (by (intro w hSw; (try dsimp only at hSw); have q1 := hSw.2; go_simp; try with_reducible rfl))
                    try simp only [Act.put, zA, zB, zC]
                    refine wpAnyH_ready (rs := [19]) (by kernel_rfl) (by simp) ?_
                    refine AllReadyH.cons (o := ⟨some 42, _, _, _, _, _⟩) rfl (fun K hK => ?_) AllReadyH.nil
                    go_simp
                    (go_at_call 35; (with_reducible refine (HT.out _).mono ?_); rintro e w11 ⟨rfl, hb⟩)
                    replace B8 := zI B8 hb
                    replace B1 := zI B1 hb
                    replace HB := zT HB hb
                    clear hb
                    replace HS0 : w11.cell? ⟨wr.heap.size, 0, none⟩ = some (.string pn) ∧ w11.cell? ⟨wr.heap.size, 1, none⟩ = some (.string pv) := ⟨B8.cell 0, B8.cell 1⟩
                    refine hK.out _ _ HS0 (fun hS2 => ?_)
                    clear hK K hS2
                    try simp only [Act.put, zA, zB, zC]
                    refine TKC 22 45 rfl ?_
                    try simp only [Act.put, zA, zB, zC]
                    refine TKC 23 46 rfl ?_
                    try simp only [Act.put, zA, zB, zC]
                    refine TKC 24 5 rfl ?_
                    try simp only [Act.put, zA, zB, zC]
                    refine wpAnyH_done (by kernel_rfl) ?_ _
                    have c80 := HS0.1
                    clear HS0
                    go_wp2_with (first
                      | (go_at_call 36; (with_reducible refine (HC1.out _).mono ?_); rintro e w12 ⟨rfl, hb⟩; replace B8 := zI B8 hb; replace B1 := zI B1 hb; replace HB := zT HB hb; clear hb; clear c80; have c80 : w12.cell? ⟨wr.heap.size, 0, none⟩ = some (.string pn) := B8.cell 0)
                      | (go_at_call 36; (with_reducible refine (HC2.out _).mono ?_); rintro e w13 ⟨rfl, hb⟩; replace B8 := zI B8 hb; replace B1 := zI B1 hb; replace HB := zT HB hb; clear hb; clear c80; have c80 : w13.cell? ⟨wr.heap.size, 0, none⟩ = some (.string pn) := B8.cell 0))
                    go_roundw
                    case rel => exact ⟨i + 1, rfl, by rw [HX.out], by omega, B1, HB⟩
                    case measure => (simp only; omega)
              · have hq : ((txt (trimL (bl pv))).toList == pv.toList) = false := by rw [ba_toList, ba_toList, beq_eq_false_iff_ne]; exact b4
                have HT : Hid (∀ w, Calls Tryz.prog 35 #[.string pv, .string ⟨#[32, 9]⟩] w fun e w' => e = .returned (.string (txt (trimL (bl pv)))) ∧ Below w.heap.size w w') := Lib.hid (fun w => by have h := trim_any (bl pv) (by rw [bl_len]; omega) w; rw [show txt (bl pv) = pv from txt_bl pv] at h; exact h)
                have HX : Hid ((sb && (hd.take (i + 1)).all fitB) = false) := Lib.hid (by (rw [HN.out, show fitB (pn, pv) = false by rw [HFB.out]; simp [b4]]) <;> rfl)
                clear HN HFB
                go_wp2_with (first
                  | ((with_reducible refine is_load ?_); refine wpl_load_arr rfl 51 (.tmp 21) rfl gh (off + i * 2) rfl (hdA pn pv) _ hrow Tryz.underlying51 rfl info_hd2 ?_)
                  | (refine wpl_newbox 7 rfl rfl 51 rfl rfl (.tmp 22) rfl _ zeroHd (hdA pn pv) rfl rfl info_hd2 rfl (hd_one _ _) ?_; intro w5 hw; have hb := hid_grow hw; have B8 := (hid_alloc hw).1; replace B1 := zI B1 hb; replace HB := zT HB hb; clear hb hw e1 e2; have c80 : w5.cell? ⟨wr.heap.size, 0, none⟩ = some (.string pn) := B8.cell 0; have c81 : w5.cell? ⟨wr.heap.size, 1, none⟩ = some (.string pv) := B8.cell 1))
                refine wp_region_S (S := fun w' => w'.cell? ⟨wr.heap.size, 0, none⟩ = some (.string pn) ∧ w'.cell? ⟨wr.heap.size, 1, none⟩ = some (.string pv)) (by kernel_rfl) (fun w2 hh => ⟨(box_heap hh B8).cell 0, (box_heap hh B8).cell 1⟩) (fun w2 hh hbb HS0 => ?_)
                replace HB := HB.trans ((hbb _ (Nat.le_refl _)).mono HB.size)
                replace B8 := box_heap hh B8
                replace B1 := box_heap hh B1
                clear hh hbb c80 c81
                refine TKC 0 23 rfl ?_
                try simp only [Act.put, zA, zB, zC]
                refine TKC 1 24 rfl ?_
                try simp only [Act.put, zA, zB, zC]
                refine TKC 2 25 rfl ?_
                try simp only [Act.put, zA, zB, zC]
                refine TKC 3 26 rfl ?_ (by (intro w hSw; (try dsimp only at hSw); have q1 := hSw.1; go_simp; try with_reducible rfl))
                try simp only [Act.put, zA, zB, zC]
                refine TKC 4 27 rfl ?_
                try simp only [Act.put, zA, zB, zC]
                refine TKC 5 28 rfl ?_
                try simp only [Act.put, zA, zB, zC]
                refine TKC 6 29 rfl ?_
                try simp only [Act.put, zA, zB, zC]
                refine TKC 7 30 rfl ?_
                try simp only [Act.put, zA, zB, zC]
                refine TKC 8 31 rfl ?_ (by (intro w hSw; (try dsimp only at hSw); have q1 := hSw.1; go_simp; try with_reducible rfl))
                try simp only [Act.put, zA, zB, zC]
                refine wpAnyH_ready (rs := [9]) (by kernel_rfl) (by simp) ?_
                refine AllReadyH.cons (o := ⟨some 32, _, _, _, _, _⟩) rfl (fun K hK => ?_) AllReadyH.nil
                go_simp
                (go_at_call 32; (with_reducible refine (HE1.out _).mono ?_); rintro e w9 ⟨rfl, rfl⟩)
                refine hK.out _ _ HS0 (fun hS2 => ?_)
                clear hK K hS2
                try simp only [Act.put, zA, zB, zC]
                refine TKC 10 33 rfl ?_
                try simp only [Act.put, zA, zB, zC]
                refine TKC 11 34 rfl ?_
                try simp only [Act.put, zA, zB, zC]
                refine TKC 12 35 rfl ?_
                try simp only [Act.put, zA, zB, zC]
                refine TKC 13 36 rfl ?_ (by (intro w hSw; (try dsimp only at hSw); have q1 := hSw.2; go_simp; try with_reducible rfl))
                try simp only [Act.put, zA, zB, zC]
                refine wpAnyH_ready (rs := [14]) (by kernel_rfl) (by simp) ?_
                refine AllReadyH.cons (o := ⟨some 37, _, _, _, _, _⟩) rfl (fun K hK => ?_) AllReadyH.nil
                go_simp
                (go_at_call 32; (with_reducible refine (HE2.out _).mono ?_); rintro e w10 ⟨rfl, rfl⟩)
                refine hK.out _ _ HS0 (fun hS2 => ?_)
                clear hK K hS2
                try simp only [Act.put, zA, zB, zC]
                refine TKC 15 38 rfl ?_
                try simp only [Act.put, zA, zB, zC]
                refine TKC 16 39 rfl ?_
                try simp only [Act.put, zA, zB, zC]
                refine TKC 17 40 rfl ?_
                try simp only [Act.put, zA, zB, zC]
                refine TKC 18 41 rfl ?_ (by (intro w hSw; (try dsimp only at hSw); have q1 := hSw.2; go_simp; try with_reducible rfl))
                try simp only [Act.put, zA, zB, zC]
                refine TKC 20 43 rfl ?_
                try simp only [Act.put, zA, zB, zC]
                refine TKC 21 44 rfl ?_ (by (intro w hSw; (try dsimp only at hSw); have q1 := hSw.2; go_simp; try with_reducible rfl))
                try simp only [Act.put, zA, zB, zC]
                refine wpAnyH_ready (rs := [19]) (by kernel_rfl) (by simp) ?_
                refine AllReadyH.cons (o := ⟨some 42, _, _, _, _, _⟩) rfl (fun K hK => ?_) AllReadyH.nil
                go_simp
                (go_at_call 35; (with_reducible refine (HT.out _).mono ?_); rintro e w11 ⟨rfl, hb⟩)
                replace B8 := zI B8 hb
                replace B1 := zI B1 hb
                replace HB := zT HB hb
                clear hb
                replace HS0 : w11.cell? ⟨wr.heap.size, 0, none⟩ = some (.string pn) ∧ w11.cell? ⟨wr.heap.size, 1, none⟩ = some (.string pv) := ⟨B8.cell 0, B8.cell 1⟩
                refine hK.out _ _ HS0 (fun hS2 => ?_)
                clear hK K hS2
                try simp only [Act.put, zA, zB, zC]
                refine TKC 22 45 rfl ?_
                try simp only [Act.put, zA, zB, zC]
                refine TKC 23 46 rfl ?_
                try simp only [Act.put, zA, zB, zC]
                refine TKC 24 5 rfl ?_
                try simp only [Act.put, zA, zB, zC]
                refine wpAnyH_done (by kernel_rfl) ?_ _
                have c80 := HS0.1
                clear HS0
                go_wp2
                go_roundw
                case rel => exact ⟨i + 1, rfl, by rw [HX.out], by omega, B1, HB⟩
                case measure => (simp only; omega)
            · have b3f : (bl pv).all isValueB = false := by simpa using b3
              have HE2 : Hid (∀ w, Calls Tryz.prog 32 #[.string pv, .func (.func 34) #[] #[]] w fun e w' => e = .returned (.bool false) ∧ w = w') := Lib.hid (fun w => by have h := every_any 34 isValueB value_any (by kernel_rfl) pv w (by omega); rw [show pv.data.toList.all isValueB = false from b3f] at h; exact h)
              have HX : Hid ((sb && (hd.take (i + 1)).all fitB) = false) := Lib.hid (by (rw [HN.out, show fitB (pn, pv) = false by rw [HFB.out, b3f]; simp]) <;> rfl)
              clear HN HFB
              go_wp2_with (first
                | ((with_reducible refine is_load ?_); refine wpl_load_arr rfl 51 (.tmp 21) rfl gh (off + i * 2) rfl (hdA pn pv) _ hrow Tryz.underlying51 rfl info_hd2 ?_)
                | (refine wpl_newbox 7 rfl rfl 51 rfl rfl (.tmp 22) rfl _ zeroHd (hdA pn pv) rfl rfl info_hd2 rfl (hd_one _ _) ?_; intro w5 hw; have hb := hid_grow hw; have B8 := (hid_alloc hw).1; replace B1 := zI B1 hb; replace HB := zT HB hb; clear hb hw e1 e2; have c80 : w5.cell? ⟨wr.heap.size, 0, none⟩ = some (.string pn) := B8.cell 0; have c81 : w5.cell? ⟨wr.heap.size, 1, none⟩ = some (.string pv) := B8.cell 1))
              refine wp_region_S (S := fun w' => w'.cell? ⟨wr.heap.size, 0, none⟩ = some (.string pn) ∧ w'.cell? ⟨wr.heap.size, 1, none⟩ = some (.string pv)) (by kernel_rfl) (fun w2 hh => ⟨(box_heap hh B8).cell 0, (box_heap hh B8).cell 1⟩) (fun w2 hh hbb HS0 => ?_)
              replace HB := HB.trans ((hbb _ (Nat.le_refl _)).mono HB.size)
              replace B8 := box_heap hh B8
              replace B1 := box_heap hh B1
              clear hh hbb c80 c81
              refine TKC 0 23 rfl ?_
              try simp only [Act.put, zA, zB, zC]
              refine TKC 1 24 rfl ?_
              try simp only [Act.put, zA, zB, zC]
              refine TKC 2 25 rfl ?_
              try simp only [Act.put, zA, zB, zC]
              refine TKC 3 26 rfl ?_ (by (intro w hSw; (try dsimp only at hSw); have q1 := hSw.1; go_simp; try with_reducible rfl))
              try simp only [Act.put, zA, zB, zC]
              refine TKC 4 27 rfl ?_
              try simp only [Act.put, zA, zB, zC]
              refine TKC 5 28 rfl ?_
              try simp only [Act.put, zA, zB, zC]
              refine TKC 6 29 rfl ?_
              try simp only [Act.put, zA, zB, zC]
              refine TKC 7 30 rfl ?_
              try simp only [Act.put, zA, zB, zC]
              refine TKC 8 31 rfl ?_ (by (intro w hSw; (try dsimp only at hSw); have q1 := hSw.1; go_simp; try with_reducible rfl))
              try simp only [Act.put, zA, zB, zC]
              refine wpAnyH_ready (rs := [9]) (by kernel_rfl) (by simp) ?_
              refine AllReadyH.cons (o := ⟨some 32, _, _, _, _, _⟩) rfl (fun K hK => ?_) AllReadyH.nil
              go_simp
              (go_at_call 32; (with_reducible refine (HE1.out _).mono ?_); rintro e w9 ⟨rfl, rfl⟩)
              refine hK.out _ _ HS0 (fun hS2 => ?_)
              clear hK K hS2
              try simp only [Act.put, zA, zB, zC]
              refine TKC 10 33 rfl ?_
              try simp only [Act.put, zA, zB, zC]
              refine TKC 11 34 rfl ?_
              try simp only [Act.put, zA, zB, zC]
              refine TKC 12 35 rfl ?_
              try simp only [Act.put, zA, zB, zC]
              refine TKC 13 36 rfl ?_ (by (intro w hSw; (try dsimp only at hSw); have q1 := hSw.2; go_simp; try with_reducible rfl))
              try simp only [Act.put, zA, zB, zC]
              refine wpAnyH_ready (rs := [14]) (by kernel_rfl) (by simp) ?_
              refine AllReadyH.cons (o := ⟨some 37, _, _, _, _, _⟩) rfl (fun K hK => ?_) AllReadyH.nil
              go_simp
              (go_at_call 32; (with_reducible refine (HE2.out _).mono ?_); rintro e w10 ⟨rfl, rfl⟩)
              refine hK.out _ _ HS0 (fun hS2 => ?_)
              clear hK K hS2
              try simp only [Act.put, zA, zB, zC]
              refine TKC 15 38 rfl ?_
              try simp only [Act.put, zA, zB, zC]
              refine TKC 16 39 rfl ?_
              try simp only [Act.put, zA, zB, zC]
              refine TKN 17 40 rfl ?_
              try simp only [Act.put, zA, zB, zC]
              refine TKN 18 41 rfl ?_
              try simp only [Act.put, zA, zB, zC]
              refine TKN 20 43 rfl ?_
              try simp only [Act.put, zA, zB, zC]
              refine TKN 21 44 rfl ?_
              try simp only [Act.put, zA, zB, zC]
              refine TKN 19 42 rfl ?_
              try simp only [Act.put, zA, zB, zC]
              refine TKN 22 45 rfl ?_
              try simp only [Act.put, zA, zB, zC]
              refine TKC 23 46 rfl ?_
              try simp only [Act.put, zA, zB, zC]
              refine TKC 24 5 rfl ?_
              try simp only [Act.put, zA, zB, zC]
              refine wpAnyH_done (by kernel_rfl) ?_ _
              have c80 := HS0.1
              clear HS0
              go_wp2
              go_roundw
              case rel => exact ⟨i + 1, rfl, by rw [HX.out], by omega, B1, HB⟩
              case measure => (simp only; omega)
          · have b2f : (bl pn).all isNameB = false := by simpa using b2
            have HE1 : Hid (∀ w, Calls Tryz.prog 32 #[.string pn, .func (.func 33) #[] #[]] w fun e w' => e = .returned (.bool false) ∧ w = w') := Lib.hid (fun w => by have h := every_any 33 isNameB name_any (by kernel_rfl) pn w (by omega); rw [show pn.data.toList.all isNameB = false from b2f] at h; exact h)
            have HX : Hid ((sb && (hd.take (i + 1)).all fitB) = false) := Lib.hid (by (rw [HN.out, show fitB (pn, pv) = false by rw [HFB.out, b2f]; simp]) <;> rfl)
            clear HN HFB
            go_wp2_with (first
              | ((with_reducible refine is_load ?_); refine wpl_load_arr rfl 51 (.tmp 21) rfl gh (off + i * 2) rfl (hdA pn pv) _ hrow Tryz.underlying51 rfl info_hd2 ?_)
              | (refine wpl_newbox 7 rfl rfl 51 rfl rfl (.tmp 22) rfl _ zeroHd (hdA pn pv) rfl rfl info_hd2 rfl (hd_one _ _) ?_; intro w5 hw; have hb := hid_grow hw; have B8 := (hid_alloc hw).1; replace B1 := zI B1 hb; replace HB := zT HB hb; clear hb hw e1 e2; have c80 : w5.cell? ⟨wr.heap.size, 0, none⟩ = some (.string pn) := B8.cell 0; have c81 : w5.cell? ⟨wr.heap.size, 1, none⟩ = some (.string pv) := B8.cell 1))
            refine wp_region_S (S := fun w' => w'.cell? ⟨wr.heap.size, 0, none⟩ = some (.string pn) ∧ w'.cell? ⟨wr.heap.size, 1, none⟩ = some (.string pv)) (by kernel_rfl) (fun w2 hh => ⟨(box_heap hh B8).cell 0, (box_heap hh B8).cell 1⟩) (fun w2 hh hbb HS0 => ?_)
            replace HB := HB.trans ((hbb _ (Nat.le_refl _)).mono HB.size)
            replace B8 := box_heap hh B8
            replace B1 := box_heap hh B1
            clear hh hbb c80 c81
            refine TKC 0 23 rfl ?_
            try simp only [Act.put, zA, zB, zC]
            refine TKC 1 24 rfl ?_
            try simp only [Act.put, zA, zB, zC]
            refine TKC 2 25 rfl ?_
            try simp only [Act.put, zA, zB, zC]
            refine TKC 3 26 rfl ?_ (by (intro w hSw; (try dsimp only at hSw); have q1 := hSw.1; go_simp; try with_reducible rfl))
            try simp only [Act.put, zA, zB, zC]
            refine TKC 4 27 rfl ?_
            try simp only [Act.put, zA, zB, zC]
            refine TKC 5 28 rfl ?_
            try simp only [Act.put, zA, zB, zC]
            refine TKC 6 29 rfl ?_
            try simp only [Act.put, zA, zB, zC]
            refine TKC 7 30 rfl ?_
            try simp only [Act.put, zA, zB, zC]
            refine TKC 8 31 rfl ?_ (by (intro w hSw; (try dsimp only at hSw); have q1 := hSw.1; go_simp; try with_reducible rfl))
            try simp only [Act.put, zA, zB, zC]
            refine wpAnyH_ready (rs := [9]) (by kernel_rfl) (by simp) ?_
            refine AllReadyH.cons (o := ⟨some 32, _, _, _, _, _⟩) rfl (fun K hK => ?_) AllReadyH.nil
            go_simp
            (go_at_call 32; (with_reducible refine (HE1.out _).mono ?_); rintro e w9 ⟨rfl, rfl⟩)
            refine hK.out _ _ HS0 (fun hS2 => ?_)
            clear hK K hS2
            try simp only [Act.put, zA, zB, zC]
            refine TKC 10 33 rfl ?_
            try simp only [Act.put, zA, zB, zC]
            refine TKC 11 34 rfl ?_
            try simp only [Act.put, zA, zB, zC]
            refine TKN 12 35 rfl ?_
            try simp only [Act.put, zA, zB, zC]
            refine TKN 13 36 rfl ?_
            try simp only [Act.put, zA, zB, zC]
            refine TKN 14 37 rfl ?_
            try simp only [Act.put, zA, zB, zC]
            refine TKC 15 38 rfl ?_
            try simp only [Act.put, zA, zB, zC]
            refine TKC 16 39 rfl ?_
            try simp only [Act.put, zA, zB, zC]
            refine TKN 17 40 rfl ?_
            try simp only [Act.put, zA, zB, zC]
            refine TKN 18 41 rfl ?_
            try simp only [Act.put, zA, zB, zC]
            refine TKN 20 43 rfl ?_
            try simp only [Act.put, zA, zB, zC]
            refine TKN 21 44 rfl ?_
            try simp only [Act.put, zA, zB, zC]
            refine TKN 19 42 rfl ?_
            try simp only [Act.put, zA, zB, zC]
            refine TKN 22 45 rfl ?_
            try simp only [Act.put, zA, zB, zC]
            refine TKC 23 46 rfl ?_
            try simp only [Act.put, zA, zB, zC]
            refine TKC 24 5 rfl ?_
            try simp only [Act.put, zA, zB, zC]
            refine wpAnyH_done (by kernel_rfl) ?_ _
            have c80 := HS0.1
            clear HS0
            go_wp2
            go_roundw
            case rel => exact ⟨i + 1, rfl, by rw [HX.out], by omega, B1, HB⟩
            case measure => (simp only; omega)
    · obtain rfl : i = hd.length := by omega
      have HT : Hid ((sb && hd.all fitB) = okv) := Lib.hid (by rw [← hok, List.take_length])
      clear hok hlt hi
      have c4 : wr.cell? ⟨w.heap.size, 4, none⟩ = some (.slice hA hd.length hc) := B1.cell 4
      have c5 : wr.cell? ⟨w.heap.size, 5, none⟩ = some (.slice bA bo.length bc) := B1.cell 5
      cases okv
      · have HV : Hid (writeS ⟨me, ta, sn, re, hd, bo⟩ = (1, [])) := Lib.hid (by unfold writeS; rw [if_pos (by rw [HSB.out]; exact HT.out)])
        clear HT
        go_wp2
        go_ret2
        exact ⟨⟨_, rfl, by rw [HV.out]; exact .inr ⟨1, rfl, by decide, rfl⟩⟩, HB⟩
      · have HT2 : Hid (¬ (startB ⟨me, ta, sn, re, hd, bo⟩ && hd.all fitB) = false) := Lib.hid (by rw [HSB.out, HT.out]; decide)
        clear HT
        by_cases h64 : 64 ≤ hd.length
        · have HV : Hid (writeS ⟨me, ta, sn, re, hd, bo⟩ = (2, [])) := Lib.hid (by unfold writeS; rw [if_neg HT2.out, if_pos (.inl h64)])
          clear HT2
          go_wp2
          go_ret2
          exact ⟨⟨_, rfl, by rw [HV.out]; exact .inr ⟨2, rfl, by decide, rfl⟩⟩, HB⟩
        · by_cases hbo : 65536 < bo.length
          · have HV : Hid (writeS ⟨me, ta, sn, re, hd, bo⟩ = (2, [])) := Lib.hid (by unfold writeS; rw [if_neg HT2.out, if_pos (.inr hbo)])
            clear HT2
            go_wp2
            go_ret2
            exact ⟨⟨_, rfl, by rw [HV.out]; exact .inr ⟨2, rfl, by decide, rfl⟩⟩, HB⟩
          · have HV : Hid (writeS ⟨me, ta, sn, re, hd, bo⟩ = if 8192 < (topL ⟨me, ta, sn, re, hd, bo⟩).length then (2, []) else (0, topL ⟨me, ta, sn, re, hd, bo⟩ ++ bo)) := Lib.hid (by unfold writeS; rw [if_neg HT2.out, if_neg (by simp only; omega)])
            have HTL : Hid (topL ⟨me, ta, sn, re, hd, bo⟩ = sl ++ crlf ++ hd.flatMap headL ++ (lengthL ++ [58, 32] ++ Lib.itoa (bo.length : Int) ++ crlf ++ crlf)) := Lib.hid (by unfold topL; rw [HSL.out])
            clear HT2
            have HSZ : Hid ((txt sl ++ (⟨#[13, 10]⟩ : ByteArray)).size ≤ maxLen) := Lib.hid (by
              have h1 := hsz.out
              rw [HTL.out] at h1
              simp only [List.length_append] at h1
              rw [ByteArray.size_append, txt_size]
              unfold maxLen
              show sl.length + 2 ≤ _
              omega)
            have hcv := conv_crlf sl
            have HS2 : Hid (¬ 9223372036854775807 < (txt sl).size + 2) := Lib.hid (by
              have h1 := hsz.out
              rw [HTL.out] at h1
              simp only [List.length_append] at h1
              rw [txt_size]
              omega)
            go_wp2_with (first
              | ((with_reducible refine is_cat ?_); refine wpl_cat rfl (.tmp 77) (.const (.string ⟨#[13, 10]⟩)) rfl (txt sl) (⟨#[13, 10]⟩ : ByteArray) rfl rfl (by have := HS2.out; show (txt sl).size + 2 ≤ _; omega) ?_)
              | ((with_reducible refine is_convert ?_); refine wpl_conv_own rfl (.tmp 78) rfl (txt sl ++ (⟨#[13, 10]⟩ : ByteArray)) rfl HSZ.out ?_; intro w3 rv ho hb; have HO : OwnM w3 w.heap.size rv (sl ++ crlf) := (by rw [← hcv]; exact ho.mono HB.size); replace B1 := zI B1 hb; replace HB := zT HB hb; clear ho hb c4 c5; have c4 : w3.cell? ⟨w.heap.size, 4, none⟩ = some (.slice hA hd.length hc) := B1.cell 4))
            go_loopw [83, 8] (fun iv bv wr => ∃ i : Nat, iv = .int .i64 (i : Int) ∧ i ≤ hd.length ∧ OwnM wr w.heap.size bv (sl ++ crlf ++ (hd.take i).flatMap headL) ∧ IBox wr w.heap.size 25 #[.string me, .string ta, .int .i64 sn, .string re, .slice hA hd.length hc, .slice bA bo.length bc] ∧ Below w.heap.size w wr) (fun iv _ _ => match iv with | .int _ i => (hd.length - i.toNat) | _ => 0)
            case atStart => exact ⟨0, rfl, Nat.zero_le _, by simpa using HO, B1, HB⟩
            case round =>
              clear HB c4 B1 HO
              obtain ⟨i, rfl, hi, HO, B1, HB⟩ := hrel
              by_cases hlt : i < hd.length
              · obtain ⟨p, hp⟩ : ∃ p, hd[i]? = some p := ⟨_, List.getElem?_eq_getElem hlt⟩
                have hpz := HM.out.hz p (List.mem_of_getElem? hp)
                obtain ⟨A2, c2, hv2, hcells⟩ := HM.out.hd.below HB
                obtain ⟨gh, off, hA2, e1, e2⟩ := hcells i p hp
                injection hv2 with v1 v2 v3
                clear v2 v3
                subst v1
                subst hA2
                obtain ⟨pn, pv⟩ := p
                obtain ⟨z1, z2⟩ : pn.size ≤ 140737488355328 ∧ pv.size ≤ 140737488355328 := hpz
                clear hcells
                have hrow : wr.rangeAt gh (off + i * 2) (hdA pn pv).toList := fun j v hv => by
                  have hj : j = 0 ∨ j = 1 := by
                    have := (List.getElem?_eq_some_iff.1 hv).1
                    have e : (hdA pn pv).toList.length = 2 := rfl
                    omega
                  rcases hj with rfl | rfl
                  · have : v = .string pn := (Option.some.inj hv).symm
                    rw [this]; exact e1
                  · have : v = .string pv := (Option.some.inj hv).symm
                    rw [this]; exact e2
                obtain ⟨ht1, ht2⟩ := heads_take hp
                have HTK := Lib.hid ht1
                have HAL : Hid ((sl ++ crlf ++ (hd.take i).flatMap headL).length + (headL (pn, pv)).length ≤ 140737488355328) := Lib.hid (by
                  have h1 := hsz.out
                  rw [HTL.out] at h1
                  simp only [List.length_append] at h1 ⊢
                  omega)
                have Z1 : Hid (pn.size ≤ 140737488355328) := Lib.hid z1
                have Z2 : Hid (pv.size ≤ 140737488355328) := Lib.hid z2
                have hch := conv_head pn pv
                have hcs := Lib.hid (headL_size pn pv)
                have hn1 : ¬ 9223372036854775807 < pn.size + 2 := by omega
                have hn2 : ¬ 9223372036854775807 < pn.size + 2 + pv.size := by omega
                have hn3 : ¬ 9223372036854775807 < pn.size + 2 + pv.size + 2 := by omega
                clear hp ht1 ht2 z1 z2
                go_wp2_with (first
                  | ((with_reducible refine is_load ?_); refine wpl_load_arr rfl 51 (.tmp 85) rfl gh (off + i * 2) rfl (hdA pn pv) _ hrow Tryz.underlying51 rfl info_hd2 ?_)
                  | (refine wpl_newbox 10 rfl rfl 51 rfl rfl (.tmp 86) rfl _ zeroHd (hdA pn pv) rfl rfl info_hd2 rfl (hd_one _ _) ?_; intro w5 hw; have hb := hid_grow hw; have B8 := (hid_alloc hw).1; replace HO := HO.below hb; replace B1 := zI B1 hb; replace HB := zT HB hb; clear hb hw e1 e2; have c80 : w5.cell? ⟨wr.heap.size, 0, none⟩ = some (.string pn) := B8.cell 0; have c81 : w5.cell? ⟨wr.heap.size, 1, none⟩ = some (.string pv) := B8.cell 1)
                  | ((with_reducible refine is_app (.tmp 87) (.tmp 94) ?_); refine wpl_app_strM rfl (.tmp 87) (.tmp 94) 23 9 rfl Tryz.underlying23 Tryz.underlying9 rfl HO (((pn ++ (⟨#[58, 32]⟩ : ByteArray)) ++ pv) ++ (⟨#[13, 10]⟩ : ByteArray)) rfl (by have q1 := HAL.out; have q2 := hcs.out; omega) HB.size ?_; intro v6 w6 h6 hk; replace HO := h6; replace B1 := hk.2 _ _ _ (by decide) B1; replace HB := HB.trans hk.1; clear h6 hk B8 c80 c81))
                go_roundw
                case rel => exact ⟨i + 1, rfl, by omega, (by rw [HTK.out, ← List.append_assoc, ← hch]; exact HO), B1, HB⟩
                case measure => (simp only; omega)
              · obtain rfl : i = hd.length := by omega
                rw [List.take_length] at HO
                clear hlt hi
                have c5 : wr.cell? ⟨w.heap.size, 5, none⟩ = some (.slice bA bo.length bc) := B1.cell 5
                have HBL : Hid (-9223372036854775808 ≤ (bo.length : Int) ∧ (bo.length : Int) ≤ 9223372036854775807) := Lib.hid (by omega)
                have HIL : Hid ((Lib.itoa (bo.length : Int)).length ≤ 20) := Lib.hid (itoa_len HBL.out)
                have hcl := conv_len (Lib.itoa (bo.length : Int))
                have HCL : Hid ((((⟨#[67, 111, 110, 116, 101, 110, 116, 45, 76, 101, 110, 103, 116, 104, 58, 32]⟩ : ByteArray) ++ txt (Lib.itoa (bo.length : Int))) ++ (⟨#[13, 10, 13, 10]⟩ : ByteArray)).size = (lengthL ++ [58, 32] ++ Lib.itoa (bo.length : Int) ++ crlf ++ crlf).length) := Lib.hid (by rw [← hcl]; rfl)
                have HAL : Hid ((sl ++ crlf ++ hd.flatMap headL).length + (lengthL ++ [58, 32] ++ Lib.itoa (bo.length : Int) ++ crlf ++ crlf).length ≤ 140737488355328) := Lib.hid (by
                  have h1 := hsz.out
                  rw [HTL.out] at h1
                  simp only [List.length_append] at h1 ⊢
                  omega)
                have hn1 : ¬ 9223372036854775807 < 16 + (txt (Lib.itoa (bo.length : Int))).size := by have := HIL.out; rw [txt_size]; omega
                have hn2 : ¬ 9223372036854775807 < 16 + (txt (Lib.itoa (bo.length : Int))).size + 4 := by have := HIL.out; rw [txt_size]; omega
                obtain ⟨tp, htp⟩ : ∃ tp, topL ⟨me, ta, sn, re, hd, bo⟩ = tp := ⟨_, rfl⟩
                have HTP := Lib.hid htp
                clear htp
                by_cases hbig : 8192 < (topL ⟨me, ta, sn, re, hd, bo⟩).length
                · have HV2 : Hid (writeS ⟨me, ta, sn, re, hd, bo⟩ = (2, [])) := Lib.hid (by rw [HV.out, if_pos hbig])
                  rw [HTP.out] at hbig
                  have hbi : (8192 : Int) < (tp.length : Int) := by omega
                  clear hbig
                  go_wp2_with (first
                    | (go_at_call 37; (refine (itoa_any HBL.out (HW.out.at HB)).mono ?_); rintro e w10 ⟨rfl, hb⟩; replace HO := HO.below hb; replace B1 := zI B1 hb; replace HB := zT HB hb; clear hb c5; have c5 : w10.cell? ⟨w.heap.size, 5, none⟩ = some (.slice bA bo.length bc) := B1.cell 5)
                    | ((with_reducible refine is_app (.tmp 97) (.tmp 103) ?_); refine wpl_app_strM rfl (.tmp 97) (.tmp 103) 23 9 rfl Tryz.underlying23 Tryz.underlying9 rfl HO (((⟨#[67, 111, 110, 116, 101, 110, 116, 45, 76, 101, 110, 103, 116, 104, 58, 32]⟩ : ByteArray) ++ txt (Lib.itoa (bo.length : Int))) ++ (⟨#[13, 10, 13, 10]⟩ : ByteArray)) rfl (by have q1 := HAL.out; have q2 := HCL.out; omega) HB.size ?_; intro v6 w6 h6 hk; rw [hcl, ← HTL.out, HTP.out] at h6; obtain ⟨oA, oc, rfl⟩ := h6.slice; replace HO := h6; replace B1 := hk.2 _ _ _ (by decide) B1; replace HB := HB.trans hk.1; clear h6 hk c5; have c5 : w6.cell? ⟨w.heap.size, 5, none⟩ = some (.slice bA bo.length bc) := B1.cell 5))
                  go_ret2
                  exact ⟨⟨_, rfl, by rw [HV2.out]; exact .inr ⟨2, rfl, by decide, rfl⟩⟩, HB⟩
                · have HV2 : Hid (writeS ⟨me, ta, sn, re, hd, bo⟩ = (0, topL ⟨me, ta, sn, re, hd, bo⟩ ++ bo)) := Lib.hid (by rw [HV.out, if_neg hbig])
                  have HFL : Hid ((topL ⟨me, ta, sn, re, hd, bo⟩).length + bo.length ≤ 140737488355328) := hsz
                  rw [HTP.out] at hbig HFL
                  have hbi : ¬ (8192 : Int) < (tp.length : Int) := by omega
                  clear hbig
                  go_wp2_with (first
                    | (go_at_call 37; (refine (itoa_any HBL.out (HW.out.at HB)).mono ?_); rintro e w10 ⟨rfl, hb⟩; replace HO := HO.below hb; replace B1 := zI B1 hb; replace HB := zT HB hb; clear hb c5; have c5 : w10.cell? ⟨w.heap.size, 5, none⟩ = some (.slice bA bo.length bc) := B1.cell 5)
                    | ((with_reducible refine is_app (.tmp 97) (.tmp 103) ?_); refine wpl_app_strM rfl (.tmp 97) (.tmp 103) 23 9 rfl Tryz.underlying23 Tryz.underlying9 rfl HO (((⟨#[67, 111, 110, 116, 101, 110, 116, 45, 76, 101, 110, 103, 116, 104, 58, 32]⟩ : ByteArray) ++ txt (Lib.itoa (bo.length : Int))) ++ (⟨#[13, 10, 13, 10]⟩ : ByteArray)) rfl (by have q1 := HAL.out; have q2 := HCL.out; omega) HB.size ?_; intro v6 w6 h6 hk; rw [hcl, ← HTL.out, HTP.out] at h6; obtain ⟨oA, oc, rfl⟩ := h6.slice; replace HO := h6; replace B1 := hk.2 _ _ _ (by decide) B1; replace HB := HB.trans hk.1; clear h6 hk c5; have c5 : w6.cell? ⟨w.heap.size, 5, none⟩ = some (.slice bA bo.length bc) := B1.cell 5)
                    | ((with_reducible refine is_app (.tmp 109) (.tmp 111) ?_); refine wpl_app_rowM rfl (.tmp 109) (.tmp 111) 23 rfl Tryz.underlying23 rfl HO (x0 := .slice bA bo.length bc) (m := bo) rfl (HM.out.below HB).bt (by have q1 := HFL.out; omega) HB.size ?_; intro v7 w7 h7 hk; replace HO := h7; replace HB := HB.trans hk.1; clear h7 hk))
                  go_ret2
                  exact ⟨⟨_, rfl, by rw [HV2.out]; exact .inl ⟨rfl, _, rfl, by rw [HTP.out]; exact HO⟩⟩, HB⟩
end Go.Proofs.YtbehakabglegjaaGreatDoor
