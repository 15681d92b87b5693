/- Layer 9: a feed's steps: a header's value. Layer 9: a feed's steps: a line's last byte; whichever step takes the next byte. -/
import Derived.Shelf.Strings.SlTrimAscii
import Derived.Test.YtbehakabglegjaaGreatDoorQ12
import Derived.Test.YtbehakabglegjaaGreatDoorQ13
import Derived.Test.YtbehakabglegjaaGreatDoorQ14
import Derived.Test.YtbehakabglegjaaGreatDoorQ15
import Derived.Test.YtbehakabglegjaaGreatDoorQ16
namespace Go.Proofs.YtbehakabglegjaaGreatDoor
open Go.RowKit Go.PlainAid
set_option linter.unusedVariables false
set_option linter.unusedSimpArgs false
theorem own_put {w : World} {base : Nat} {E : TypeId} {size g n cap : Nat} {xs : List Value} (h : w.ownsRow base E size (.slice (some ⟨g, 0, none⟩) n cap) n xs) {q : Nat} (hq : q < xs.length) (v : Value) :
    (w.setCells g q [v]).ownsRow base E size (.slice (some ⟨g, 0, none⟩) n cap) n (xs.set q v) ∧ (∀ X : Nat → Prop, X g → Bes X w (w.setCells g q [v])) ∧ w.there g q 1 := by
  rcases h.2 with ⟨hh, _⟩ | ⟨g', cap', cur, hh, hb, hg, hn, hc, hs, ht⟩
  · cases hh
  · have e1 : g = g' := by injection hh with a; injection a with a; injection a
    have e2 : cap = cap' := by injection hh
    subst e1; subst e2
    have hI : IBox w g E cur := hg
    have hlen := h.1
    have hqs : q < cur.size := by
      rw [hs]
      have := Nat.mul_le_mul_right size hn
      omega
    refine ⟨⟨by rw [List.length_set]; exact hlen, .inr ⟨g, cap, over cur q [v], rfl, hb, setCells_box [v] _ _ _ hI, hn, hc, by rw [over_size, hs], ?_⟩⟩, fun X hX => setCells_bes hX [v] _ _ _ hI, fun j hj => ?_⟩
    · show ((cur.setIfInBounds q v).toList).take (n * size) = xs.set q v
      rw [Array.toList_setIfInBounds, List.take_set, ht]
    · obtain rfl : j = 0 := by omega
      refine ⟨?_, hI.frozen _⟩
      rw [hI.cell, Array.getElem?_eq_getElem (by omega)]
      rfl
theorem last_of {l : List (ByteArray × ByteArray)} (h : l ≠ []) : ∃ l0 x y, l = l0 ++ [(x, y)] := by
  obtain ⟨l0, p, rfl⟩ : ∃ l0 p, l = l0 ++ [p] := ⟨_, _, (List.dropLast_concat_getLast h).symm⟩
  exact ⟨l0, p.1, p.2, rfl⟩
theorem hds_len : ∀ l : List (ByteArray × ByteArray), (hdsL l).length = l.length * 2
  | [] => rfl
  | p :: r => by
    have e : hdsL (p :: r) = .string p.1 :: .string p.2 :: hdsL r := rfl
    rw [e, List.length_cons, List.length_cons, hds_len r, List.length_cons]
    omega
theorem hds_set (l : List (ByteArray × ByteArray)) (x y v : ByteArray) : (hdsL (l ++ [(x, y)])).set (l.length * 2 + 1) (.string v) = hdsL (setLast (l ++ [(x, y)]) v) := by
  have e : setLast (l ++ [(x, y)]) v = l ++ [(x, v)] := by unfold setLast; simp
  rw [e, hdsL_app, hdsL_app, List.set_append_right _ _ (by rw [hds_len]; omega), hds_len]
  rw [show l.length * 2 + 1 - l.length * 2 = 1 by omega]
  rfl
theorem set_last_len (l : List (ByteArray × ByteArray)) (x y v : ByteArray) : (setLast (l ++ [(x, y)]) v).length = l.length + 1 := by unfold setLast; simp
def Bl9 : ByteArray := ⟨#[32, 9]⟩
theorem trim_any (l : List UInt8) (hl : l.length ≤ 9223372036854775807) (w : World) : Calls Tryz.prog 35 #[.string (txt l), .string Bl9] w fun e w' => e = .returned (.string (txt (trimL l))) ∧ Below w.heap.size w w' :=
  Any.strings_Trim_laid Tryz.lays160 (by kernel_rfl) (txt l) Bl9 w hl (by decide) (ascii_of_all (by decide))
theorem op_store_own1 {P : Program} {o : Oper} {a : Act} {w : World} {Q : Exit → Act → World → Prop} {K : Act → World → Prop} (ty : TypeId) (x y : Operand) (ho : o.op = .store ty x y) {base : Nat} {E : TypeId} {size g n cap q : Nat} {xs : List Value} (hO : w.ownsRow base E size (.slice (some ⟨g, 0, none⟩) n cap) n xs) (hq : q < xs.length)
    (v : Value) (hx : a.eval x = .pointer (some ⟨g, q, none⟩)) (hy : a.eval y = v) (hi : (P.info? ty).map (·.size) = some 1) (h1 : v.oneCell' = true)
    (h : ∀ w', w'.ownsRow base E size (.slice (some ⟨g, 0, none⟩) n cap) n (xs.set q v) → Bes (fun k => k = g) w w' → K (a.put o.dst undef) w') : o.wp P a w K Q := by
  obtain ⟨h2, h3, h4⟩ := own_put hO hq v
  have hc : v.cells = #[v] := by cases v <;> first | rfl | cases h1
  have hrun : (storeVar ty ⟨g, q, none⟩ v).run P w = .ok () (w.setCells g q [v]) := by
    have := run_storeVar_mid (P := P) w g q ty #[v] h4 hi (by simp [h1])
    unfold storeVar at this ⊢
    rw [hc]
    exact this
  unfold Oper.wp execOp
  simp only [ho, hx, hy, Instr.storeAt, Instr.sureAddr, Sem.run_bind, Sem.run_pure, Result.andThen_ok, hrun]
  exact h _ h2 (h3 _ rfl)
set_option maxRecDepth 100000 in
set_option maxHeartbeats 4000000 in
theorem value_any2 {base : Bs} {g : Nat} {F : Fs} {nx tk hs bd wh : Value} {L : List Mm} {w : World} {c : UInt8} (h : FdM base g F nx tk hs bd wh L w) (hj : FJ F) (hx : F.next = 7) :
    Calls Tryz.prog 139 #[.pointer (some ⟨g, 0, none⟩), .int .u8 (c.toNat : Int)] w (StV base g F c w) := by
  have HT := Lib.hid hj.tok
  have hne := hj.val hx
  have HHD := Lib.hid hj.heads
  have HS : Hid (stepS F c = valueS F c) := Lib.hid (by unfold stepS; rw [hx]; rfl)
  clear hj hx
  obtain ⟨A, cp, htk⟩ := bt_slice h.2.rt
  subst htk
  have B := h.1
  have R := Lib.hid h.2
  have HB := Bl.refl base w
  clear h
  have c5 : w.cell? ⟨g, 5, none⟩ = some (.slice A F.tok.length cp) := B.cell 5
  obtain ⟨l0, x0, y0, hl0⟩ := last_of hne
  have hln : F.m.heads.length = l0.length + 1 := by rw [hl0, List.length_append]; rfl
  obtain ⟨hA, hc, hhs, _⟩ := own_slice R.out.rh
  obtain ⟨gh, hgh⟩ : ∃ gh, hs = .slice (some ⟨gh, 0, none⟩) (l0.length + 1) hc := by
    rcases R.out.rh.2 with ⟨_, h0⟩ | ⟨g', cap', cur, hh, _⟩
    · omega
    · rw [hhs] at hh
      injection hh with e1 e2 e3
      exact ⟨g', by rw [hhs, e1, hln]⟩
  subst hgh
  clear hhs
  have c10 : w.cell? ⟨g, 10, none⟩ = some (.slice (some ⟨gh, 0, none⟩) (l0.length + 1) hc) := B.cell 10
  have HL0 := Lib.hid hl0
  have HS0 := HS
  have h64 := HHD.out
  have hwr2 : IntKind.i64.wrap (l0.length : Int) = (l0.length : Int) := by rw [IntKind.wrap_i64]; omega
  have hwr : IntKind.i64.wrap (((l0.length + 1 : Nat) : Int) - 1) = (l0.length : Int) := by rw [IntKind.wrap_i64]; omega
  by_cases hc13 : c.toNat = 13
  · obtain rfl : c = 13 := UInt8.toNat_inj.1 hc13
    have HV : Hid (valueS F 13 = .ok { F with m := { F.m with heads := setLast F.m.heads (txt (trimL F.tok)) }, tok := [], next := 5 }) := Lib.hid (by unfold valueS; rw [if_pos hc13])
    go_enter Tryz.func139, Tryz.ntmps139
    replace R := R.out
    go_wp2
    refine wp_region_S (S := fun w' => w'.cell? ⟨g, 10, none⟩ = some (.slice (some ⟨gh, 0, none⟩) (l0.length + 1) hc)) (by kernel_rfl) (fun w2 hh => (box_heap hh B).cell 10) (fun w2 hh hbb HS => ?_)
    replace HB := HB.trans (Bl.of (hbb _ (Nat.le_refl _)) R.bl R.avl)
    replace R := R.below (hbb _ (Nat.le_refl _))
    replace B : IBox w2 g 81 (FdC F nx (.slice A F.tok.length cp) (.slice (some ⟨gh, 0, none⟩) (l0.length + 1) hc) bd wh) := box_heap hh B
    clear hh hbb c5
    refine TKC 0 9 rfl ?_
    try simp only [Act.put, zA, zB, zC]
    refine TKC 1 10 rfl ?_
    try simp only [Act.put, zA, zB, zC]
    refine TKC 2 11 rfl ?_
    try simp only [Act.put, zA, zB, zC]
    refine TKC 3 12 rfl ?_
    try simp only [Act.put, zA, zB, zC]
    refine TKC 4 13 rfl ?_
    try simp only [Act.put, zA, zB, zC]
    refine TKC 5 14 rfl ?_
    try simp only [Act.put, zA, zB, zC]
    refine TKC 6 15 rfl ?_
    try simp only [Act.put, zA, zB, zC]
    refine TKC 7 16 rfl ?_
    try simp only [Act.put, zA, zB, zC]
    refine TKC 8 17 rfl ?_
    try simp only [Act.put, zA, zB, zC]
    refine TKC 9 18 rfl ?_
    try simp only [Act.put, zA, zB, zC]
    refine TKC 10 19 rfl ?_
    try simp only [Act.put, zA, zB, zC]
    refine TKC 11 20 rfl ?_
    try simp only [Act.put, zA, zB, zC]
    refine TKC 12 21 rfl ?_
    try simp only [Act.put, zA, zB, zC]
    refine wpAnyH_ready (rs := [13]) (by kernel_rfl) (by simp) ?_
    refine AllReadyH.cons (o := ⟨some 22, _, _, _, _, _⟩) rfl (fun K hK => ?_) AllReadyH.nil
    go_simp
    (go_at_call 101; (have hM := fdm (F := F) B R); (with_reducible refine (taken_any hM).mono ?_); rintro e w9 ⟨rfl, ⟨tk4, hm⟩, hb⟩)
    replace B := hm.1
    replace R := hm.2
    replace HB := HB.trans hb
    clear hm hb
    replace HS : w9.cell? ⟨g, 10, none⟩ = some (.slice (some ⟨gh, 0, none⟩) (l0.length + 1) hc) := B.cell 10
    refine hK.out _ _ HS (fun hS2 => ?_)
    clear hK K hS2
    try simp only [Act.put, zA, zB, zC]
    refine wpAnyH_ready (rs := [14]) (by kernel_rfl) (by simp) ?_
    refine AllReadyH.cons (o := ⟨some 23, _, _, _, _, _⟩) rfl (fun K hK => ?_) AllReadyH.nil
    go_simp
    (go_at_call 35; (refine (trim_any F.tok (by have := HT.out; omega) _).mono ?_); rintro e w10 ⟨rfl, hb⟩)
    replace B := IBox.below B hb (IBox.lt B)
    replace HB := bl_add HB hb R
    replace R := R.below hb
    clear hb
    replace HS : w10.cell? ⟨g, 10, none⟩ = some (.slice (some ⟨gh, 0, none⟩) (l0.length + 1) hc) := B.cell 10
    refine hK.out _ _ HS (fun hS2 => ?_)
    clear hK K hS2
    try simp only [Act.put, zA, zB, zC]
    refine TKC (v := .pointer (some ⟨gh, l0.length * 2, none⟩)) 15 24 rfl ?_ (by (intro w hSw; (try dsimp only at hSw); go_simp; intro hh; omega))
    try simp only [Act.put, zA, zB, zC]
    refine TKC 16 25 rfl ?_
    try simp only [Act.put, zA, zB, zC]
    refine wpAnyH_ready (rs := [17]) (by kernel_rfl) (by simp) ?_
    refine AllReadyH.cons (o := ⟨none, _, _, _, _, _⟩) rfl (fun K hK => ?_) AllReadyH.nil
    simp only [Region.wanted, if_true]
    have hRH := R.rh
    rw [show ({ F with tok := [] } : Fs).m.heads = F.m.heads from rfl, hln] at hRH
    have hq : l0.length * 2 + 1 < (hdsL F.m.heads).length := by rw [hds_len, hln]; omega
    refine op_store_own1 9 _ _ rfl hRH hq (.string (txt (trimL F.tok))) rfl rfl one_s rfl ?_
    intro w11 HO hbe
    have hset : (hdsL F.m.heads).set (l0.length * 2 + 1) (.string (txt (trimL F.tok))) = hdsL (setLast F.m.heads (txt (trimL F.tok))) := by rw [HL0.out]; exact hds_set l0 x0 y0 _
    have hsl : (setLast F.m.heads (txt (trimL F.tok))).length = l0.length + 1 := by rw [HL0.out]; exact set_last_len l0 x0 y0 _
    rw [hset] at HO
    have hgg : gh ≠ g := ((R.ap gh).2.1 rfl).1
    have RN := R.heads (v := (.slice (some ⟨gh, 0, none⟩) (l0.length + 1) hc)) (l := setLast F.m.heads (txt (trimL F.tok))) (by rw [hsl]; exact HO) (hbe.trans (Bes.of_below (Below.refl _ _)) (fun k e => by rw [show k = gh from e]; rfl) (fun _ _ e => e)) (.inl rfl)
    replace B := Bes.box hbe B (fun e => hgg e.symm)
    replace HB := HB.trans (Bl.bes hbe (fun k e => by rw [show k = gh from e]; exact ⟨(own_in R.rh rfl).1, R.off gh (.inr (.inr (.inl rfl)))⟩) R.bl R.avl)
    replace HS : w11.cell? ⟨g, 10, none⟩ = some (.slice (some ⟨gh, 0, none⟩) (l0.length + 1) hc) := B.cell 10
    clear R
    refine hK.out _ _ HS (fun hS2 => ?_)
    clear hK K hS2
    try simp only [Act.put, zA, zB, zC]
    refine wpAnyH_done (by kernel_rfl) ?_ _
    clear hwr hwr2
    go_wp2
    go_ret2
    exact StV.ok (HS0.out.trans HV.out) HB (fdm B (RN.same rfl rfl rfl rfl)) rfl
  have b1 : ((c.toNat : Int) == 13) = false := by rw [beq_eq_false_iff_ne]; omega
  by_cases hn : isValueB c = false
  · have HV : Hid (valueS F c = .bad 3) := Lib.hid (by unfold valueS; rw [if_neg hc13, if_pos hn])
    have HNB := Lib.hid hn
    clear hn hc13 hwr hwr2
    go_enter Tryz.func139, Tryz.ntmps139
    go_wp2_with (first
      | (go_at_call 34; (with_reducible refine (value_any c _).mono ?_); rintro e w9 ⟨rfl, rfl⟩; rw [HNB.out]))
    go_ret2
    exact StV.bad (HS.out.trans HV.out) HB (fdm B R.out)
  · have HV : Hid (valueS F c = .ok { F.put c with next := 7 }) := Lib.hid (by unfold valueS; rw [if_neg hc13, if_neg hn])
    have HNB : Hid (isValueB c = true) := Lib.hid (by simpa using hn)
    clear hn hc13 hwr hwr2
    go_enter Tryz.func139, Tryz.ntmps139
    go_wp2_with (first
      | (go_at_call 34; (with_reducible refine (value_any c _).mono ?_); rintro e w9 ⟨rfl, rfl⟩; rw [HNB.out])
      | ((with_reducible refine is_slice ?_); refine wpl_u8 rfl (.tmp 35) rfl c rfl ?_; intro w1 hb B9; replace B := IBox.below B hb (IBox.lt B); replace HB := bl_add HB hb R.out; replace R := Lib.hid (R.out.below hb); clear hb)
      | (at_builtin; refine wpl_tok rfl (.tmp 34) (.tmp 36) rfl R.out B (by have := HT.out; omega) B9 rfl rfl ?_; intro A1 p1 w2 hr hB hb; replace HB := HB.trans hb; replace R := Lib.hid hr; replace B := hB; clear hr hB hb B9)
      | ((with_reducible refine is_store ?_); refine wpl_store_cell rfl 23 (.tmp 39) (.tmp 37) rfl g 5 rfl (.slice A1 (F.tok.length + 1) p1) rfl _ _ B (show 5 < 16 by decide) one_sb rfl ?_; intro w3 hw; replace HB := HB.trans (R.out.store hw); replace R := Lib.hid (R.out.row (Bes.row (X := fun q => q = g) hw rfl)); replace B := hid_row hw B; simp only [FdC_5] at B; clear hw))
    go_ret2
    exact StV.ok (HS.out.trans HV.out) HB (fdm B (R.out.same rfl rfl rfl rfl)) rfl
end Go.Proofs.YtbehakabglegjaaGreatDoor
namespace Go.Proofs.YtbehakabglegjaaGreatDoor
open Go.RowKit Go.PlainAid
set_option linter.unusedVariables false
set_option linter.unusedSimpArgs false
set_option maxRecDepth 100000 in
set_option maxHeartbeats 4000000 in
theorem line_any {base : Bs} {g : Nat} {F : Fs} {nx tk hs bd wh : Value} {L : List Mm} {w : World} {c : UInt8} (h : FdM base g F nx tk hs bd wh L w) (hj : FJ F) (hx : F.next = 5) (hz : HZ F) (hw : Wh w base.n) (hn : F.whole.length < 1099511627776) :
    Calls Tryz.prog 104 #[.pointer (some ⟨g, 0, none⟩), .int .u8 (c.toNat : Int)] w (StV base g F c w) := by
  have HS : Hid (stepS F c = lineS F c) := Lib.hid (by unfold stepS; rw [hx]; rfl)
  clear hx
  obtain ⟨A, cp, htk⟩ := bt_slice h.2.rt
  subst htk
  have B := h.1
  have R := Lib.hid h.2
  have HB := Bl.refl base w
  clear h
  have c15 : w.cell? ⟨g, 15, none⟩ = some (.int .i64 F.about) := B.cell 15
  by_cases h1 : c.toNat = 10
  · by_cases h2 : F.about = 2
    · have HV : Hid (lineS F c = bodyS F) := Lib.hid (by unfold lineS; rw [if_neg (by omega), if_neg (by simpa using h2)])
      have hM := body_any (fdm B R.out) hj hz hw hn
      have HQ := Lib.hid hM
      clear hM hj hz hw hn
      cases hq : bodyS F with
      | bad k =>
        have HV2 : Hid (stepS F c = .bad k) := Lib.hid (by rw [HS.out, HV.out, hq])
        have HM : Hid (Calls Tryz.prog 126 #[.pointer (some ⟨g, 0, none⟩)] w fun e w' => e = .returned (.tuple #[.nilFunc, .int .i64 k]) ∧ Bl base w w' ∧ ∃ G nx tk hs bd wh L, FdM base g G nx tk hs bd wh L w' ∧ G.pos = F.pos ∧ G.whole = F.whole ∧ G.shut = F.shut) := Lib.hid (HQ.out.mono fun e w' hh => by
          unfold BdV at hh
          rw [hq] at hh
          exact ⟨hh.2.1, hh.1, hh.2.2⟩)
        clear hq HQ
        go_enter Tryz.func104, Tryz.ntmps104
        go_wp2_with (first
          | (go_at_call 126; (with_reducible refine HM.out.mono ?_); rintro e w5 ⟨rfl, hb, hm⟩))
        go_ret2
        exact ⟨hb, by rw [HV2.out]; exact ⟨rfl, hm⟩⟩
      | ok G =>
        have HV2 : Hid (stepS F c = .ok G) := Lib.hid (by rw [HS.out, HV.out, hq])
        have HM : Hid (Calls Tryz.prog 126 #[.pointer (some ⟨g, 0, none⟩)] w fun e w' => e = .returned (.tuple #[stepV G.next, .int .i64 0]) ∧ Bl base w w' ∧ ∃ nx tk hs bd wh L, FdM base g G nx tk hs bd wh L w') := Lib.hid (HQ.out.mono fun e w' hh => by
          unfold BdV at hh
          rw [hq] at hh
          exact ⟨hh.2.1, hh.1, hh.2.2⟩)
        clear hq HQ
        go_enter Tryz.func104, Tryz.ntmps104
        go_wp2_with (first
          | (go_at_call 126; (with_reducible refine HM.out.mono ?_); rintro e w5 ⟨rfl, hb, hm⟩))
        go_ret2
        exact ⟨hb, by rw [HV2.out]; exact ⟨rfl, hm⟩⟩
    · have HV : Hid (lineS F c = .ok { F with about := 1, next := 6 }) := Lib.hid (by unfold lineS; rw [if_neg (by omega), if_pos h2])
      clear hj hz hw hn
      go_enter Tryz.func104, Tryz.ntmps104
      go_wp2_with (first
        | ((with_reducible refine is_store ?_); refine wpl_store_cell rfl 3 (.tmp 17) _ rfl g 15 rfl (.int .i64 1) rfl _ _ B (show 15 < 16 by decide) one_i rfl ?_; intro w4 hw; replace HB := HB.trans (R.out.store hw); replace R := Lib.hid (R.out.row (Bes.row (X := fun q => q = g) hw rfl)); replace B := hid_row hw B; simp only [FdC_15] at B; clear hw))
      go_ret2
      exact StV.ok (HS.out.trans HV.out) HB (fdm B (R.out.same rfl rfl rfl rfl)) rfl
  · have HV : Hid (lineS F c = .bad 3) := Lib.hid (by unfold lineS; rw [if_pos h1])
    clear hj hz hw hn
    go_enter Tryz.func104, Tryz.ntmps104
    go_wp2
    go_ret2
    exact StV.bad (HS.out.trans HV.out) HB (fdm B R.out)
theorem step_any {base : Bs} {g : Nat} {F : Fs} {nx tk hs bd wh : Value} {L : List Mm} {w : World} {c : UInt8} (h : FdM base g F nx tk hs bd wh L w) (hj : FJ F) (hz : HZ F) (hw : Wh w base.n) (hn : F.whole.length < 1099511627776) (hx : F.next ≤ 13) :
    Calls Tryz.prog (stepId F.next) #[.pointer (some ⟨g, 0, none⟩), .int .u8 (c.toNat : Int)] w (StV base g F c w) := by
  have hc : F.next = 0 ∨ F.next = 1 ∨ F.next = 2 ∨ F.next = 3 ∨ F.next = 4 ∨ F.next = 5 ∨ F.next = 6 ∨ F.next = 7 ∨ F.next = 8 ∨ F.next = 9 ∨ F.next = 10 ∨ F.next = 11 ∨ F.next = 12 ∨ F.next = 13 := by omega
  rcases hc with k | k | k | k | k | k | k | k | k | k | k | k | k | k
  · rw [k]; exact method_any h hj k
  · rw [k]; exact target_any h hj k
  · rw [k]; exact version_any h hj k
  · rw [k]; exact status_any h hj k
  · rw [k]; exact reason_any h hj k
  · rw [k]; exact line_any h hj k hz hw hn
  · rw [k]; exact name_any2 h hj k
  · rw [k]; exact value_any2 h hj k
  · rw [k]; exact hbytes_any h hj k hn
  · rw [k]; exact digits_any h hj k
  · rw [k]; exact sized_any h hj k
  · rw [k]; exact piece_any h hj k
  · rw [k]; exact tail_any h hj k
  · rw [k]; exact last_any h hj k hn
end Go.Proofs.YtbehakabglegjaaGreatDoor
