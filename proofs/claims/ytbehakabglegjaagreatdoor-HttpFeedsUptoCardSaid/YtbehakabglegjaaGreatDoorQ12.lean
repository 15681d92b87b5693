/- Layer 9: a feed's steps: a header's name. -/
import Derived.Test.YtbehakabglegjaaGreatDoorQ11
import Derived.Test.YtbehakabglegjaaGreatDoorQ07
import Derived.Test.YtbehakabglegjaaGreatDoorQ05
import Derived.Test.YtbehakabglegjaaGreatDoorQZip
namespace Go.Proofs.YtbehakabglegjaaGreatDoor
open Go.RowKit Go.PlainAid
set_option linter.unusedVariables false
set_option linter.unusedSimpArgs false
theorem yields_bld {P : Program} {ops : Array Oper} {o : Oper} {a : Act} {S : World → Prop} {t : TypeId} {vals : List (Nat × Value)} {cells : Array Value} (hw : Region.wanted o (yielded ops a.tmps) = true) (hrun : ∀ w, (Instr.build t vals.toArray).run P w = .ok (.agg cells) w) (parts : Array (Nat × Operand)) (ho : o.op = .build t parts)
    (hv : parts.toList.map (fun x => (x.1, a.eval x.2)) = vals) : YieldsIf P ops S o (.agg cells) a :=
  .inl ⟨hw, fun w _ => by
    unfold execOp
    simp only [ho, parts_vals parts vals hv, Sem.run_bind, hrun, Result.andThen_ok, Sem.run_pure]⟩
def hdA (a b : ByteArray) : Array Value := #[.string a, .string b]
theorem hd_build (nm : ByteArray) (w : World) : (Instr.build 51 [(0, .string nm)].toArray).run Tryz.prog w = .ok (.agg (hdA nm ⟨#[]⟩)) w := by kernel_rfl
theorem hd_fill (a b : ByteArray) : Instr.fill (fun i => some (i * 2, 2)) ((Array.range (1 * 2)).map ((Value.agg (hdA ⟨#[]⟩ ⟨#[]⟩)).cells[· % (Value.agg (hdA ⟨#[]⟩ ⟨#[]⟩)).cells.size]!)) [(0, .agg (hdA a b))] = some (hdA a b) := by kernel_rfl
theorem info_hd : ∃ ie, Tryz.prog.info? 51 = some ie ∧ ie.zero = some (.agg (hdA ⟨#[]⟩ ⟨#[]⟩)) ∧ ie.size = 2 ∧ ie.bytes = 32 := by
  have h : (Tryz.prog.info? 51).map (fun i => (i.zero, i.size, i.bytes)) = some (some (.agg (hdA ⟨#[]⟩ ⟨#[]⟩)), 2, 32) := by kernel_rfl
  cases hq : Tryz.prog.info? 51 with
  | none => rw [hq] at h; cases h
  | some ie =>
    rw [hq] at h
    simp only [Option.map_some, Option.some.injEq, Prod.mk.injEq] at h
    exact ⟨ie, rfl, h.1, h.2.1, h.2.2⟩
theorem hd_one (a b : ByteArray) : (hdA a b).all (·.oneCell') = true := by simp [hdA, Value.oneCell']
theorem hds_more (l : List (ByteArray × ByteArray)) (a b : ByteArray) : hdsL l ++ (hdA a b).toList = hdsL (l ++ [(a, b)]) := by rw [hdsL_app]; rfl
set_option maxRecDepth 100000 in
set_option maxHeartbeats 4000000 in
theorem name_any2 {base : Bs} {g : Nat} {F : Fs} {nx tk hs bd wh : Value} {L : List Mm} {w : World} {c : UInt8} (h : FdM base g F nx tk hs bd wh L w) (hj : FJ F) (hx : F.next = 6) :
    Calls Tryz.prog 125 #[.pointer (some ⟨g, 0, none⟩), .int .u8 (c.toNat : Int)] w (StV base g F c w) := by
  have HT := Lib.hid hj.tok
  have HHD := Lib.hid hj.heads
  have HSO := Lib.hid (hj.some_ hx)
  have HS : Hid (stepS F c = nameS F c) := Lib.hid (by unfold stepS; rw [hx]; rfl)
  clear hj hx
  obtain ⟨A, cp, htk⟩ := bt_slice h.2.rt
  subst htk
  have B := h.1
  have R := Lib.hid h.2
  have HB := Bl.refl base w
  clear h
  have c5 : w.cell? ⟨g, 5, none⟩ = some (.slice A F.tok.length cp) := B.cell 5
  obtain ⟨ie, i1, i2, i3, i4⟩ := info_hd
  obtain ⟨hA, hc, rfl, _⟩ := own_slice R.out.rh
  have c10 : w.cell? ⟨g, 10, none⟩ = some (.slice hA F.m.heads.length hc) := B.cell 10
  have HS0 := HS
  by_cases hc13 : c.toNat = 13
  · obtain rfl : c = 13 := UInt8.toNat_inj.1 hc13
    by_cases h0 : F.tok.length = 0
    · have a1 : (F.tok.length : Int) = 0 := by omega
      have HV : Hid (nameS F 13 = .ok { F with about := 2, next := 5 }) := Lib.hid (by unfold nameS; rw [if_pos ⟨rfl, h0⟩])
      go_enter Tryz.func125, Tryz.ntmps125
      go_wp2_with (first
        | ((with_reducible refine is_store ?_); refine wpl_store_cell rfl 3 (.tmp 19) _ rfl g 15 rfl (.int .i64 2) rfl _ _ B (show 15 < 16 by decide) one_i rfl ?_; intro w4 hw; replace HB := HB.trans (R.out.store hw); replace R := Lib.hid (R.out.row (Bes.row (X := fun q => q = g) hw rfl)); replace B := hid_row hw B; simp only [FdC_15] at B; clear hw))
      go_ret2
      exact StV.ok (HS.out.trans HV.out) HB (fdm B (R.out.same rfl rfl rfl rfl)) rfl
    · have a1 : ((F.tok.length : Int) == 0) = false := by rw [beq_eq_false_iff_ne]; omega
      have a2 : 0 < F.tok.length := by omega
      have HV : Hid (nameS F 13 = .bad 3) := Lib.hid (by unfold nameS; rw [if_neg (fun h => h0 h.2), if_neg (fun h => h0 h.1), if_neg (fun h => absurd h.1 (by decide)), if_pos (show isNameB 13 = false from by decide +kernel)])
      go_enter Tryz.func125, Tryz.ntmps125
      go_wp2_with (first
        | (go_at_call 33; (refine (name_any 13 _).mono ?_); rintro e w9 ⟨rfl, rfl⟩; rw [show isNameB 13 = false from by decide +kernel]))
      go_ret2
      exact StV.bad (HS.out.trans HV.out) HB (fdm B R.out)
  by_cases hc58 : c.toNat = 58
  · obtain rfl : c = 58 := UInt8.toNat_inj.1 hc58
    by_cases h0 : F.tok.length = 0
    · have a1 : (F.tok.length : Int) = 0 := by omega
      by_cases h64 : F.m.heads.length = 64
      · have a2 : (F.m.heads.length : Int) = 64 := by omega
        have HV : Hid (nameS F 58 = .bad 2) := Lib.hid (by unfold nameS; rw [if_neg (fun h => absurd h.1 (by decide)), if_pos ⟨h0, h64⟩])
        go_enter Tryz.func125, Tryz.ntmps125
        go_wp2
        go_ret2
        exact StV.bad (HS.out.trans HV.out) HB (fdm B R.out)
      · have a2 : ((F.m.heads.length : Int) == 64) = false := by rw [beq_eq_false_iff_ne]; omega
        have a3 : ¬ 0 < F.tok.length := by omega
        have HV : Hid (nameS F 58 = .bad 3) := Lib.hid (by unfold nameS; rw [if_neg (fun h => absurd h.1 (by decide)), if_neg (fun h => h64 h.2), if_neg (fun h => a3 h.2), if_pos (show isNameB 58 = false from by decide +kernel)])
        go_enter Tryz.func125, Tryz.ntmps125
        go_wp2_with (first
          | (go_at_call 33; (refine (name_any 58 _).mono ?_); rintro e w9 ⟨rfl, rfl⟩; rw [show isNameB 58 = false from by decide +kernel]))
        go_ret2
        exact StV.bad (HS.out.trans HV.out) HB (fdm B R.out)
    · have a1 : ((F.tok.length : Int) == 0) = false := by rw [beq_eq_false_iff_ne]; omega
      have a2 : 0 < F.tok.length := by omega
      have HV : Hid (nameS F 58 = .ok { F with m := { F.m with heads := F.m.heads ++ [(txt F.tok, ⟨#[]⟩)] }, tok := [], next := 7 }) := Lib.hid (by unfold nameS; rw [if_neg (fun h => h0 h.2), if_neg (fun h => h0 h.1), if_pos ⟨rfl, a2⟩])
      go_enter Tryz.func125, Tryz.ntmps125
      replace R := R.out
      go_wp2
      refine wp_region_S (S := fun _ => True) (by kernel_rfl) (fun w2 hh => trivial) (fun w2 hh hbb HS => ?_)
      replace HB := HB.trans (Bl.of (hbb _ (Nat.le_refl _)) R.bl R.avl)
      replace R := R.below (hbb _ (Nat.le_refl _))
      replace B : IBox w2 g 81 (FdC F nx (.slice A F.tok.length cp) (.slice hA F.m.heads.length hc) bd wh) := box_heap hh B
      clear hh hbb c5 c10
      refine TKC 0 47 rfl ?_
      try simp only [Act.put, zA, zB, zC]
      refine TKC 1 48 rfl ?_
      try simp only [Act.put, zA, zB, zC]
      refine TKC 2 49 rfl ?_
      try simp only [Act.put, zA, zB, zC]
      refine TKC 3 50 rfl ?_
      try simp only [Act.put, zA, zB, zC]
      refine TKC 4 51 rfl ?_
      try simp only [Act.put, zA, zB, zC]
      refine TKC 6 53 rfl ?_
      try simp only [Act.put, zA, zB, zC]
      refine ashare (fun (y : Nat × Option Addr × Nat) (a : Act) => ((((((((a.put (some 52) (.slice hA F.m.heads.length hc)).put (some 54) (.string (txt F.tok))).put (some 55) (.agg (hdA (txt F.tok) ⟨#[]⟩))).put (some 56) (.slice (some ⟨y.1, 0, none⟩) 1 1)).put (some 57) (.slice y.2.1 (F.m.heads.length + 1) y.2.2)).put (some 58) (.pointer (some ⟨g, 0, none⟩))).put (some 59) (.pointer (some ⟨g, 6, none⟩))).put (some 60) (.pointer (some ⟨g, 10, none⟩))).put none undef) (fun (y : Nat × Option Addr × Nat) (w' : World) => ∃ tk4, IBox w' g 81 (FdC F nx tk4 (.slice y.2.1 (F.m.heads.length + 1) y.2.2) bd wh) ∧ FdR base g { F with m := { F.m with heads := F.m.heads ++ [(txt F.tok, ⟨#[]⟩)] }, tok := [] } tk4 (.slice y.2.1 (F.m.heads.length + 1) y.2.2) bd wh L w' ∧ Bl base w w') (fun HT2 => ?_) ?_
      · refine wpAnyH_ready (rs := [5, 7]) (by kernel_rfl) (by simp) ?_
        refine AllReadyH.cons (o := ⟨some 52, _, _, _, _, _⟩) rfl (fun K hK => ?_) ?_
        · have cg : World.cell? _ ⟨g, 10, none⟩ = some (.slice hA F.m.heads.length hc) := B.cell 10
          go_simp
          clear cg
          refine hK.out _ _ HS (fun hS2 => ?_)
          clear hK K hS2
          try simp only [Act.put, zA, zB, zC]
          refine wpAnyH_ready (rs := [7]) (by kernel_rfl) (by simp) ?_
          refine AllReadyH.cons (o := ⟨some 54, _, _, _, _, _⟩) rfl (fun K hK => ?_) AllReadyH.nil
          go_simp
          (go_at_call 101; (have hM := fdm (F := F) B R); (with_reducible refine (taken_any hM).mono ?_); rintro e w9 ⟨rfl, ⟨tk4, hm⟩, hb⟩)
          replace B := hm.1
          replace R := hm.2
          replace HB := HB.trans hb
          clear hm hb
          refine hK.out _ _ HS (fun hS2 => ?_)
          clear hK K hS2
          try simp only [Act.put, zA, zB, zC]
          refine TKY 8 55 rfl (yields_bld (by kernel_rfl) (hd_build (txt F.tok)) _ rfl rfl) ?_
          try simp only [Act.put, zA, zB, zC]
          refine wpAnyH_ready (rs := [9]) (by kernel_rfl) (by simp) ?_
          refine AllReadyH.cons (o := ⟨some 56, _, _, _, _, _⟩) rfl (fun K hK => ?_) AllReadyH.nil
          simp only [Region.wanted, if_true]
          refine op_slice_at 1 _ _ ie _ (by rw [i3]; exact hd_fill (txt F.tok) ⟨#[]⟩) 22 51 _ rfl rfl rfl i1 i2 (by rw [i3]; decide) (by rw [i3]; decide) ?_
          intro w10 hw
          have hb := hid_grow hw
          have BN := (hid_alloc hw).1
          replace B := zI B hb
          replace HB := bl_add HB hb R
          replace R := R.below hb
          clear hb hw
          refine hK.out _ _ HS (fun hS2 => ?_)
          clear hK K hS2
          try simp only [Act.put, zA, zB, zC]
          refine wpAnyH_ready (rs := [10]) (by kernel_rfl) (by simp) ?_
          refine AllReadyH.cons (o := ⟨some 57, _, _, _, _, _⟩) rfl (fun K hK => ?_) AllReadyH.nil
          simp only [Region.wanted, if_true]
          refine op_append_at _ _ 22 rfl base.n 51 ie _ 2 32 rfl i1 i2 i3 i4 rfl (by decide) (.slice hA F.m.heads.length hc) F.m.heads.length (hdsL F.m.heads) rfl R.rh _ _ _ _ BN (by rfl) rfl (hd_one _ _) (by have := HHD.out; unfold maxLen; omega) (by have := HHD.out; omega) R.bl ?_
          intro g7 cap w11 HO2 hgrow hat hlt
          have hbe := Bes.grown (X := fun q => (Value.slice hA F.m.heads.length hc).ownBlock = some q) hgrow (fun _ h => h)
          replace B := Bes.box hbe B (fun e => ((R.ap g).2.1 e).1 rfl)
          replace HB := HB.trans (Bl.bes hbe (fun k e => ⟨(own_in R.rh e).1, R.off k (.inr (.inr (.inl e)))⟩) R.bl R.avl)
          rw [hds_more] at HO2
          have hln : (F.m.heads ++ [(txt F.tok, (⟨#[]⟩ : ByteArray))]).length = F.m.heads.length + 1 := by rw [List.length_append]; rfl
          have RN := R.heads (v := .slice (some ⟨g7, 0, none⟩) (F.m.heads.length + 1) cap) (l := F.m.heads ++ [(txt F.tok, ⟨#[]⟩)]) (by rw [hln]; exact HO2) hbe (hat.elim (fun h => .inl h.symm) (fun h => .inr (.inl (congrArg some h))))
          clear R HO2 hgrow hat hlt hbe hln
          refine hK.out _ _ HS (fun hS2 => ?_)
          clear hK K hS2
          try simp only [Act.put, zA, zB, zC]
          refine TKC 11 58 rfl ?_
          try simp only [Act.put, zA, zB, zC]
          refine TKC 12 59 rfl ?_
          try simp only [Act.put, zA, zB, zC]
          refine TKC 13 60 rfl ?_
          try simp only [Act.put, zA, zB, zC]
          refine wpAnyH_ready (rs := [14]) (by kernel_rfl) (by simp) ?_
          refine AllReadyH.cons (o := ⟨none, _, _, _, _, _⟩) rfl (fun K hK => ?_) AllReadyH.nil
          simp only [Region.wanted, if_true]
          refine op_store_cell 22 _ _ rfl g 10 rfl (.slice (some ⟨g7, 0, none⟩) (F.m.heads.length + 1) cap) rfl _ _ B (show 10 < 16 by decide) one_sh rfl ?_
          intro w12 hw
          replace HB := HB.trans (RN.store hw)
          replace RN := RN.row (Bes.row (X := fun q => q = g) hw rfl)
          replace B := hid_row hw B
          simp only [FdC_10] at B
          clear hw
          refine hK.out _ _ HS (fun hS2 => ?_)
          clear hK K hS2
          try simp only [Act.put, zA, zB, zC]
          refine wpAnyH_done (by kernel_rfl) ?_ _
          exact HT2.out (w9.heap.size, some ⟨g7, 0, none⟩, cap) _ _ ⟨_, B, RN, HB⟩ (by kernel_rfl)
        refine AllReadyH.cons (o := ⟨some 54, _, _, _, _, _⟩) rfl (fun K hK => ?_) AllReadyH.nil
        go_simp
        (go_at_call 101; (have hM := fdm (F := F) B R); (with_reducible refine (taken_any hM).mono ?_); rintro e w9 ⟨rfl, ⟨tk4, hm⟩, hb⟩)
        replace B := hm.1
        replace R := hm.2
        replace HB := HB.trans hb
        clear hm hb
        refine hK.out _ _ HS (fun hS2 => ?_)
        clear hK K hS2
        try simp only [Act.put, zA, zB, zC]
        refine TKY 8 55 rfl (yields_bld (by kernel_rfl) (hd_build (txt F.tok)) _ rfl rfl) ?_
        try simp only [Act.put, zA, zB, zC]
        refine wpAnyH_ready (rs := [5, 9]) (by kernel_rfl) (by simp) ?_
        refine AllReadyH.cons (o := ⟨some 52, _, _, _, _, _⟩) rfl (fun K hK => ?_) ?_
        · have cg : World.cell? _ ⟨g, 10, none⟩ = some (.slice hA F.m.heads.length hc) := B.cell 10
          go_simp
          clear cg
          refine hK.out _ _ HS (fun hS2 => ?_)
          clear hK K hS2
          try simp only [Act.put, zA, zB, zC]
          refine wpAnyH_ready (rs := [9]) (by kernel_rfl) (by simp) ?_
          refine AllReadyH.cons (o := ⟨some 56, _, _, _, _, _⟩) rfl (fun K hK => ?_) AllReadyH.nil
          simp only [Region.wanted, if_true]
          refine op_slice_at 1 _ _ ie _ (by rw [i3]; exact hd_fill (txt F.tok) ⟨#[]⟩) 22 51 _ rfl rfl rfl i1 i2 (by rw [i3]; decide) (by rw [i3]; decide) ?_
          intro w10 hw
          have hb := hid_grow hw
          have BN := (hid_alloc hw).1
          replace B := zI B hb
          replace HB := bl_add HB hb R
          replace R := R.below hb
          clear hb hw
          refine hK.out _ _ HS (fun hS2 => ?_)
          clear hK K hS2
          try simp only [Act.put, zA, zB, zC]
          refine wpAnyH_ready (rs := [10]) (by kernel_rfl) (by simp) ?_
          refine AllReadyH.cons (o := ⟨some 57, _, _, _, _, _⟩) rfl (fun K hK => ?_) AllReadyH.nil
          simp only [Region.wanted, if_true]
          refine op_append_at _ _ 22 rfl base.n 51 ie _ 2 32 rfl i1 i2 i3 i4 rfl (by decide) (.slice hA F.m.heads.length hc) F.m.heads.length (hdsL F.m.heads) rfl R.rh _ _ _ _ BN (by rfl) rfl (hd_one _ _) (by have := HHD.out; unfold maxLen; omega) (by have := HHD.out; omega) R.bl ?_
          intro g7 cap w11 HO2 hgrow hat hlt
          have hbe := Bes.grown (X := fun q => (Value.slice hA F.m.heads.length hc).ownBlock = some q) hgrow (fun _ h => h)
          replace B := Bes.box hbe B (fun e => ((R.ap g).2.1 e).1 rfl)
          replace HB := HB.trans (Bl.bes hbe (fun k e => ⟨(own_in R.rh e).1, R.off k (.inr (.inr (.inl e)))⟩) R.bl R.avl)
          rw [hds_more] at HO2
          have hln : (F.m.heads ++ [(txt F.tok, (⟨#[]⟩ : ByteArray))]).length = F.m.heads.length + 1 := by rw [List.length_append]; rfl
          have RN := R.heads (v := .slice (some ⟨g7, 0, none⟩) (F.m.heads.length + 1) cap) (l := F.m.heads ++ [(txt F.tok, ⟨#[]⟩)]) (by rw [hln]; exact HO2) hbe (hat.elim (fun h => .inl h.symm) (fun h => .inr (.inl (congrArg some h))))
          clear R HO2 hgrow hat hlt hbe hln
          refine hK.out _ _ HS (fun hS2 => ?_)
          clear hK K hS2
          try simp only [Act.put, zA, zB, zC]
          refine TKC 11 58 rfl ?_
          try simp only [Act.put, zA, zB, zC]
          refine TKC 12 59 rfl ?_
          try simp only [Act.put, zA, zB, zC]
          refine TKC 13 60 rfl ?_
          try simp only [Act.put, zA, zB, zC]
          refine wpAnyH_ready (rs := [14]) (by kernel_rfl) (by simp) ?_
          refine AllReadyH.cons (o := ⟨none, _, _, _, _, _⟩) rfl (fun K hK => ?_) AllReadyH.nil
          simp only [Region.wanted, if_true]
          refine op_store_cell 22 _ _ rfl g 10 rfl (.slice (some ⟨g7, 0, none⟩) (F.m.heads.length + 1) cap) rfl _ _ B (show 10 < 16 by decide) one_sh rfl ?_
          intro w12 hw
          replace HB := HB.trans (RN.store hw)
          replace RN := RN.row (Bes.row (X := fun q => q = g) hw rfl)
          replace B := hid_row hw B
          simp only [FdC_10] at B
          clear hw
          refine hK.out _ _ HS (fun hS2 => ?_)
          clear hK K hS2
          try simp only [Act.put, zA, zB, zC]
          refine wpAnyH_done (by kernel_rfl) ?_ _
          exact HT2.out (w9.heap.size, some ⟨g7, 0, none⟩, cap) _ _ ⟨_, B, RN, HB⟩ (by kernel_rfl)
        refine AllReadyH.cons (o := ⟨some 56, _, _, _, _, _⟩) rfl (fun K hK => ?_) AllReadyH.nil
        simp only [Region.wanted, if_true]
        refine op_slice_at 1 _ _ ie _ (by rw [i3]; exact hd_fill (txt F.tok) ⟨#[]⟩) 22 51 _ rfl rfl rfl i1 i2 (by rw [i3]; decide) (by rw [i3]; decide) ?_
        intro w10 hw
        have hb := hid_grow hw
        have BN := (hid_alloc hw).1
        replace B := zI B hb
        replace HB := bl_add HB hb R
        replace R := R.below hb
        clear hb hw
        refine hK.out _ _ HS (fun hS2 => ?_)
        clear hK K hS2
        try simp only [Act.put, zA, zB, zC]
        refine wpAnyH_ready (rs := [5]) (by kernel_rfl) (by simp) ?_
        refine AllReadyH.cons (o := ⟨some 52, _, _, _, _, _⟩) rfl (fun K hK => ?_) AllReadyH.nil
        have cg : World.cell? _ ⟨g, 10, none⟩ = some (.slice hA F.m.heads.length hc) := B.cell 10
        go_simp
        clear cg
        refine hK.out _ _ HS (fun hS2 => ?_)
        clear hK K hS2
        try simp only [Act.put, zA, zB, zC]
        refine wpAnyH_ready (rs := [10]) (by kernel_rfl) (by simp) ?_
        refine AllReadyH.cons (o := ⟨some 57, _, _, _, _, _⟩) rfl (fun K hK => ?_) AllReadyH.nil
        simp only [Region.wanted, if_true]
        refine op_append_at _ _ 22 rfl base.n 51 ie _ 2 32 rfl i1 i2 i3 i4 rfl (by decide) (.slice hA F.m.heads.length hc) F.m.heads.length (hdsL F.m.heads) rfl R.rh _ _ _ _ BN (by rfl) rfl (hd_one _ _) (by have := HHD.out; unfold maxLen; omega) (by have := HHD.out; omega) R.bl ?_
        intro g7 cap w11 HO2 hgrow hat hlt
        have hbe := Bes.grown (X := fun q => (Value.slice hA F.m.heads.length hc).ownBlock = some q) hgrow (fun _ h => h)
        replace B := Bes.box hbe B (fun e => ((R.ap g).2.1 e).1 rfl)
        replace HB := HB.trans (Bl.bes hbe (fun k e => ⟨(own_in R.rh e).1, R.off k (.inr (.inr (.inl e)))⟩) R.bl R.avl)
        rw [hds_more] at HO2
        have hln : (F.m.heads ++ [(txt F.tok, (⟨#[]⟩ : ByteArray))]).length = F.m.heads.length + 1 := by rw [List.length_append]; rfl
        have RN := R.heads (v := .slice (some ⟨g7, 0, none⟩) (F.m.heads.length + 1) cap) (l := F.m.heads ++ [(txt F.tok, ⟨#[]⟩)]) (by rw [hln]; exact HO2) hbe (hat.elim (fun h => .inl h.symm) (fun h => .inr (.inl (congrArg some h))))
        clear R HO2 hgrow hat hlt hbe hln
        refine hK.out _ _ HS (fun hS2 => ?_)
        clear hK K hS2
        try simp only [Act.put, zA, zB, zC]
        refine TKC 11 58 rfl ?_
        try simp only [Act.put, zA, zB, zC]
        refine TKC 12 59 rfl ?_
        try simp only [Act.put, zA, zB, zC]
        refine TKC 13 60 rfl ?_
        try simp only [Act.put, zA, zB, zC]
        refine wpAnyH_ready (rs := [14]) (by kernel_rfl) (by simp) ?_
        refine AllReadyH.cons (o := ⟨none, _, _, _, _, _⟩) rfl (fun K hK => ?_) AllReadyH.nil
        simp only [Region.wanted, if_true]
        refine op_store_cell 22 _ _ rfl g 10 rfl (.slice (some ⟨g7, 0, none⟩) (F.m.heads.length + 1) cap) rfl _ _ B (show 10 < 16 by decide) one_sh rfl ?_
        intro w12 hw
        replace HB := HB.trans (RN.store hw)
        replace RN := RN.row (Bes.row (X := fun q => q = g) hw rfl)
        replace B := hid_row hw B
        simp only [FdC_10] at B
        clear hw
        refine hK.out _ _ HS (fun hS2 => ?_)
        clear hK K hS2
        try simp only [Act.put, zA, zB, zC]
        refine wpAnyH_done (by kernel_rfl) ?_ _
        exact HT2.out (w9.heap.size, some ⟨g7, 0, none⟩, cap) _ _ ⟨_, B, RN, HB⟩ (by kernel_rfl)
      · rintro ⟨n9, A7, cap⟩ w3 ⟨tk4, B3, RN, HB3⟩
        replace B3 : IBox w3 g 81 (FdC F nx tk4 (.slice A7 (F.m.heads.length + 1) cap) bd wh) := B3
        replace RN : FdR base g { F with m := { F.m with heads := F.m.heads ++ [(txt F.tok, ⟨#[]⟩)] }, tok := [] } tk4 (.slice A7 (F.m.heads.length + 1) cap) bd wh L w3 := RN
        clear B R HB
        go_wp2
        go_ret2
        exact StV.ok (HS0.out.trans HV.out) HB3 (fdm B3 (RN.same rfl rfl rfl rfl)) rfl
  have b1 : ((c.toNat : Int) == 13) = false := by rw [beq_eq_false_iff_ne]; omega
  have b2 : ((c.toNat : Int) == 58) = false := by rw [beq_eq_false_iff_ne]; omega
  by_cases h64 : F.tok.length = 0 ∧ F.m.heads.length = 64
  · have a1 : (F.tok.length : Int) = 0 := by omega
    have a2 : (F.m.heads.length : Int) = 64 := by omega
    have HV : Hid (nameS F c = .bad 2) := Lib.hid (by unfold nameS; rw [if_neg (fun h => hc13 h.1), if_pos h64])
    go_enter Tryz.func125, Tryz.ntmps125
    go_wp2
    go_ret2
    exact StV.bad (HS.out.trans HV.out) HB (fdm B R.out)
  by_cases hn : isNameB c = false
  · have HV : Hid (nameS F c = .bad 3) := Lib.hid (by unfold nameS; rw [if_neg (fun h => hc13 h.1), if_neg h64, if_neg (fun h => hc58 h.1), if_pos hn])
    have HNB := Lib.hid hn
    clear hn hc13 hc58
    by_cases h0 : F.tok.length = 0
    · have a1 : (F.tok.length : Int) = 0 := by omega
      have a2 : ((F.m.heads.length : Int) == 64) = false := by rw [beq_eq_false_iff_ne]; omega
      clear h64
      go_enter Tryz.func125, Tryz.ntmps125
      go_wp2_with (first
        | (go_at_call 33; (with_reducible refine (name_any c _).mono ?_); rintro e w9 ⟨rfl, rfl⟩; rw [HNB.out]))
      go_ret2
      exact StV.bad (HS.out.trans HV.out) HB (fdm B R.out)
    · have a1 : ((F.tok.length : Int) == 0) = false := by rw [beq_eq_false_iff_ne]; omega
      clear h64
      go_enter Tryz.func125, Tryz.ntmps125
      go_wp2_with (first
        | (go_at_call 33; (with_reducible refine (name_any c _).mono ?_); rintro e w9 ⟨rfl, rfl⟩; rw [HNB.out]))
      go_ret2
      exact StV.bad (HS.out.trans HV.out) HB (fdm B R.out)
  · have HV : Hid (nameS F c = .ok { F.put c with next := 6 }) := Lib.hid (by unfold nameS; rw [if_neg (fun h => hc13 h.1), if_neg h64, if_neg (fun h => hc58 h.1), if_neg hn])
    have HNB : Hid (isNameB c = true) := Lib.hid (by simpa using hn)
    clear hn hc13 hc58
    by_cases h0 : F.tok.length = 0
    · have a1 : (F.tok.length : Int) = 0 := by omega
      have a2 : ((F.m.heads.length : Int) == 64) = false := by rw [beq_eq_false_iff_ne]; omega
      clear h64 h0
      go_enter Tryz.func125, Tryz.ntmps125
      go_wp2_with (first
        | (go_at_call 33; (with_reducible refine (name_any c _).mono ?_); rintro e w9 ⟨rfl, rfl⟩; rw [HNB.out])
        | ((with_reducible refine is_slice ?_); refine wpl_u8 rfl (.tmp 70) rfl c rfl ?_; intro w1 hb B9; replace B := zI B hb; replace HB := bl_add HB hb R.out; replace R := Lib.hid (R.out.below hb); clear hb)
        | (at_builtin; refine wpl_tok rfl (.tmp 69) (.tmp 71) rfl R.out B (by have := HT.out; omega) B9 rfl rfl ?_; intro A1 p1 w2 hr hB hb; replace HB := HB.trans hb; replace R := Lib.hid hr; replace B := hB; clear hr hB hb B9)
        | ((with_reducible refine is_store ?_); refine wpl_store_cell rfl 23 (.tmp 74) (.tmp 72) rfl g 5 rfl (.slice A1 (F.tok.length + 1) p1) rfl _ _ B (show 5 < 16 by decide) one_sb rfl ?_; intro w3 hw; replace HB := HB.trans (R.out.store hw); replace R := Lib.hid (R.out.row (Bes.row (X := fun q => q = g) hw rfl)); replace B := hid_row hw B; simp only [FdC_5] at B; clear hw))
      go_ret2
      exact StV.ok (HS.out.trans HV.out) HB (fdm B (R.out.same rfl rfl rfl rfl)) rfl
    · have a1 : ((F.tok.length : Int) == 0) = false := by rw [beq_eq_false_iff_ne]; omega
      clear h64 h0
      go_enter Tryz.func125, Tryz.ntmps125
      go_wp2_with (first
        | (go_at_call 33; (with_reducible refine (name_any c _).mono ?_); rintro e w9 ⟨rfl, rfl⟩; rw [HNB.out])
        | ((with_reducible refine is_slice ?_); refine wpl_u8 rfl (.tmp 70) rfl c rfl ?_; intro w1 hb B9; replace B := zI B hb; replace HB := bl_add HB hb R.out; replace R := Lib.hid (R.out.below hb); clear hb)
        | (at_builtin; refine wpl_tok rfl (.tmp 69) (.tmp 71) rfl R.out B (by have := HT.out; omega) B9 rfl rfl ?_; intro A1 p1 w2 hr hB hb; replace HB := HB.trans hb; replace R := Lib.hid hr; replace B := hB; clear hr hB hb B9)
        | ((with_reducible refine is_store ?_); refine wpl_store_cell rfl 23 (.tmp 74) (.tmp 72) rfl g 5 rfl (.slice A1 (F.tok.length + 1) p1) rfl _ _ B (show 5 < 16 by decide) one_sb rfl ?_; intro w3 hw; replace HB := HB.trans (R.out.store hw); replace R := Lib.hid (R.out.row (Bes.row (X := fun q => q = g) hw rfl)); replace B := hid_row hw B; simp only [FdC_5] at B; clear hw))
      go_ret2
      exact StV.ok (HS.out.trans HV.out) HB (fdm B (R.out.same rfl rfl rfl rfl)) rfl
end Go.Proofs.YtbehakabglegjaaGreatDoor
