/- Layer 9: the law HttpWrites, walked. Layer 9: from what the rows list of the library's variables to what the walks ask of the world. -/
import Derived.Test.YtbehakabglegjaaGreatDoorQ34
import Derived.Test.YtbehakabglegjaaGreatDoorQ30
import Derived.Test.YtbehakabglegjaaGreatDoorQ36
import Derived.Test.YtbehakabglegjaaGreatDoorCards
import Derived.Test.YtbehakabglegjaaGreatDoorTie
import Derived.PinnedBridge
import Derived.Lib.LaidU8T
import Derived.LaidHandle
import Derived.LaidLaws
import Derived.Lay
import Derived.SevenTiedAt
import Derived.Test.YtbehakabglegjaaGreatDoorQ13
import Derived.Test.YtbehakabglegjaaGreatDoorQ35
namespace Go.Proofs.YtbehakabglegjaaGreatDoor
open Go.RowKit Go.PlainAid
set_option linter.unusedVariables false
set_option linter.unusedSimpArgs false
theorem op_bt_text {o : Oper} {a : Act} {w : World} {K : Act → World → Prop} {Q : Exit → Act → World → Prop} (x : Operand) (ho : o.op = .convert 23 9 x) {v : Value} {l : List UInt8} (h : BtAt w v l) (hx : a.eval x = v)
    (hQ : K (a.put o.dst (.string (txt l))) w) : o.wp Tryz.prog a w K Q := by
  have e := bt_text h
  generalize hP : Tryz.prog = P at *
  unfold Oper.wp execOp
  simp only [ho, hx, Sem.run_bind, e, Result.andThen_ok, Sem.run_pure]
  exact hQ
set_option maxRecDepth 100000 in
set_option maxHeartbeats 8000000 in
theorem writes_core {x : Mm} {w : World} {ev : Value} {k : Int} {bs : List UInt8} (hm : MgAt w x) (hw : Wh w w.heap.size)
    (h1 : ∀ wx, MgAt wx x → Wh wx wx.heap.size → Calls Tryz.prog 10 #[.agg x.cells] wx fun e w' => (∃ b, e = .returned (.tuple #[b, ev]) ∧ OwnM w' wx.heap.size b bs) ∧ Below wx.heap.size wx w')
    (h2 : ∀ wx, MgAt wx x → Calls Tryz.prog 11 #[.agg x.cells] wx fun e w' => (∃ b, e = .returned (.tuple #[b, .int .i64 k]) ∧ OwnM w' wx.heap.size b bs) ∧ Below wx.heap.size wx w')
    (h3 : ∀ wx, Calls Tryz.prog 12 #[ev] wx fun e w' => e = .returned (.int .i64 k) ∧ wx = w') :
    Calls Tryz.prog 3 #[.agg x.cells] w fun e w' => e = .returned (.bool true) ∧ Below w.heap.size w w' := by
  have H1 := Lib.hid h1
  have H2 := Lib.hid h2
  have H3 := Lib.hid h3
  have HM := Lib.hid hm
  have HW := Lib.hid hw
  have hsz : (Tryz.prog.info? 25).map (·.size) = some x.cells.size := info_msg
  generalize x.cells = cs at H1 H2 hsz
  clear hm hw h1 h2 h3
  go_enter Tryz.func3, Tryz.ntmps3
  go_wp2_with (first
    | (refine wpl_box_at rfl 25 (.tmp 0) rfl _ rfl ?_; intro w1 hw; have B1 := hid_alloc0 hw; have HB := hid_grow hw; clear hw)
    | ((with_reducible refine is_load ?_); refine wpl_load_box rfl 25 (.tmp 1) rfl _ rfl _ _ _ B1 Tryz.underlying25 rfl hsz ?_)
    | (go_at_call 9; (refine (shown_any ((HW.out.below HB).up HB.size)).mono ?_); rintro e w2 ⟨rfl, hb⟩; replace B1 := IBox.below B1 hb (IBox.lt B1); replace HB := HB.trans (hb.mono HB.size); clear hb)
    | (go_at_call 10; (refine (H1.out _ (HM.out.below HB) ((HW.out.below HB).up HB.size)).mono ?_); rintro e w3 ⟨⟨b1, rfl, ho⟩, hb⟩; have HO1 := ho; replace B1 := IBox.below B1 hb (IBox.lt B1); replace HB := HB.trans (hb.mono HB.size); clear hb ho)
    | (go_at_call 11; (refine (H2.out _ (HM.out.below HB)).mono ?_); rintro e w4 ⟨⟨b2, rfl, ho⟩, hb⟩; have HO2 := ho; replace HO1 := HO1.below hb; replace B1 := IBox.below B1 hb (IBox.lt B1); replace HB := HB.trans (hb.mono HB.size); clear hb ho)
    | ((with_reducible refine is_convert ?_); refine BigFrame.wpList_want (by kernel_rfl) fun K hK => ?_; refine op_bt_text (.tmp 21) rfl HO1.bt rfl (hK _ _ ?_); clear hK K)
    | ((with_reducible refine is_convert ?_); refine BigFrame.wpList_want (by kernel_rfl) fun K hK => ?_; refine op_bt_text (.tmp 23) rfl HO2.bt rfl (hK _ _ ?_); clear hK K)
    | (go_at_call 12; (refine (H3.out _).mono ?_); rintro e w5 ⟨rfl, rfl⟩))
  go_ret
  exact ⟨rfl, HB⟩
theorem writeS_three (m : Ms) : (∃ bs, writeS m = (0, bs)) ∨ writeS m = (1, []) ∨ writeS m = (2, []) := by
  unfold writeS
  split
  · exact .inr (.inl rfl)
  · split
    · exact .inr (.inr rfl)
    · split
      · exact .inr (.inr rfl)
      · exact .inl ⟨_, rfl⟩
theorem writes_any {x : Mm} {w : World} (hm : MgAt w x) (hs1 : x.m.meth.size ≤ 1099511627776) (hs2 : x.m.targ.size ≤ 1099511627776) (hs3 : x.m.reas.size ≤ 1099511627776) (hw : Wh w w.heap.size) (hsz : Hid ((topL x.m).length + x.m.body.length ≤ 140737488355328)) :
    Calls Tryz.prog 3 #[.agg x.cells] w fun e w' => e = .returned (.bool true) ∧ Below w.heap.size w w' := by
  have g1 : ∀ wx, MgAt wx x → Wh wx wx.heap.size → _ := fun wx hx hwx => write_any hx hs1 hs2 hs3 hwx hsz
  have g2 : ∀ wx, MgAt wx x → _ := fun wx hx => rwrite_any hx hs1 hs2 hs3 hsz
  rcases writeS_three x.m with ⟨bs, hv⟩ | hv | hv
  · refine writes_core (ev := .nilIface) (k := 0) (bs := bs) hm hw (fun wx hx hwx => (g1 wx hx hwx).mono ?_) (fun wx hx => (g2 wx hx).mono ?_) code_nil
    · rintro e w' ⟨⟨v, rfl, h⟩, hb⟩
      rw [hv] at h
      rcases h with ⟨_, b, rfl, ho⟩ | ⟨k, e1, e2, _⟩
      · exact ⟨⟨b, rfl, ho⟩, hb⟩
      · injection e1 with e1 _
        exact absurd e1.symm e2
    · rintro e w' ⟨⟨v, rfl, ho⟩, hb⟩
      rw [hv] at ho ⊢
      exact ⟨⟨v, rfl, ho⟩, hb⟩
  · refine writes_core (ev := .iface 31 (.int .i64 1)) (k := 1) (bs := []) hm hw (fun wx hx hwx => (g1 wx hx hwx).mono ?_) (fun wx hx => (g2 wx hx).mono ?_) code_1
    · rintro e w' ⟨⟨v, rfl, h⟩, hb⟩
      rw [hv] at h
      rcases h with ⟨e0, _⟩ | ⟨k, e1, e2, rfl⟩
      · exact absurd e0 (by decide)
      · injection e1 with e1 _
        subst e1
        exact ⟨⟨_, rfl, .inl (OwnB.nil _ _)⟩, hb⟩
    · rintro e w' ⟨⟨v, rfl, ho⟩, hb⟩
      rw [hv] at ho ⊢
      exact ⟨⟨v, rfl, ho⟩, hb⟩
  · refine writes_core (ev := .iface 31 (.int .i64 2)) (k := 2) (bs := []) hm hw (fun wx hx hwx => (g1 wx hx hwx).mono ?_) (fun wx hx => (g2 wx hx).mono ?_) code_2
    · rintro e w' ⟨⟨v, rfl, h⟩, hb⟩
      rw [hv] at h
      rcases h with ⟨e0, _⟩ | ⟨k, e1, e2, rfl⟩
      · exact absurd e0 (by decide)
      · injection e1 with e1 _
        subst e1
        exact ⟨⟨_, rfl, .inl (OwnB.nil _ _)⟩, hb⟩
    · rintro e w' ⟨⟨v, rfl, ho⟩, hb⟩
      rw [hv] at ho ⊢
      exact ⟨⟨v, rfl, ho⟩, hb⟩
theorem flat_small : ∀ (l : List (ByteArray × ByteArray)), (l.flatMap headL).length ≤ 2 * hdSz l
  | [] => Nat.zero_le _
  | p :: r => by
    have h := flat_small r
    have e : hdSz (p :: r) = p.1.size + p.2.size + 3 + hdSz r := by unfold hdSz; rw [List.map_cons, List.sum_cons]
    have e2 : (headL p).length = p.1.size + p.2.size + 4 := by unfold headL; simp [bl_len, crlf]; omega
    rw [List.flatMap_cons, List.length_append, e, e2]
    omega
theorem top_small {m : Ms} (hs : -9223372036854775808 ≤ m.stat ∧ m.stat ≤ 9223372036854775807) (hb : m.body.length ≤ 9223372036854775807) : (topL m).length + m.body.length ≤ 2 * msSz m + 200 := by
  have h1 := flat_small m.heads
  have h2 := itoa_len hs
  have h3 := itoa_len (n := (m.body.length : Int)) (by omega)
  have h4 : (startL m).length ≤ m.meth.size + m.targ.size + m.reas.size + 40 := by
    unfold startL
    split <;> simp [bl_len, protoL] <;> omega
  unfold topL msSz
  simp only [List.length_append]
  have h5 : lengthL.length = 14 := rfl
  have h6 : crlf.length = 2 := rfl
  have h7 : ([58, 32] : List UInt8).length = 2 := rfl
  rw [h5, h6, h7]
  omega
theorem writes_sized {x : Mm} {w : World} {B : Nat} (hm : MgAt w x) (hz : msSz x.m + 1 ≤ B) (hB : B ≤ 1048576) (hw : Wh w w.heap.size) : Calls Tryz.prog 3 #[.agg x.cells] w fun e w' => e = .returned (.bool true) ∧ Below w.heap.size w w' := by
  have h := top_small hm.st (Nat.le_trans hm.bz (by decide))
  have e : msSz x.m = x.m.meth.size + x.m.targ.size + x.m.reas.size + hdSz x.m.heads + x.m.body.length := rfl
  exact writes_any hm (by omega) (by omega) (by omega) hw (Lib.hid (by omega))
end Go.Proofs.YtbehakabglegjaaGreatDoor
namespace Go.Proofs.YtbehakabglegjaaGreatDoor
open Go.RowKit Go.Shelf Go.Lib
set_option linter.unusedVariables false
set_option linter.unusedSimpArgs false

theorem laid_both {P : Program} {l : List (String × DataW Unit)} {W : World} (h : laidMetH P l W) : laidMet P (l.filter fun x => x.2.handleName?.isNone) W ∧ handlesMet P (l.filter fun x => x.2.handleName?.isSome) W := by
  unfold laidMetH at h
  generalize hf : (l.filter fun x => x.2.handleName?.isSome) = fl at h
  cases fl with
  | nil =>
    have e : (l.filter fun x => x.2.handleName?.isNone) = l := by
      rw [List.filter_eq_self]
      intro x hx
      cases hn : x.2.handleName? with
      | none => rfl
      | some y =>
        have := List.filter_eq_nil_iff.1 hf x hx
        rw [hn] at this
        simp at this
    rw [e]
    exact ⟨h, fun x hx => by cases hx⟩
  | cons a r => exact h
theorem mem_none {l : List (String × DataW Unit)} {n : String} {d : DataW Unit} (hm : (n, d) ∈ l) (hd : d.handleName?.isNone = true) : (n, d) ∈ l.filter fun x => x.2.handleName?.isNone := List.mem_filter.2 ⟨hm, hd⟩
abbrev renU8 : Ren := ⟨fun x => x, fun k => if k = 5 then 5 else if k = 119 then 179 else if k = 138 then 181 else 182, fun k => if k = 3 then 2 else 3⟩
theorem typesU8 : U8Types Tryz.prog renU8 := ⟨Tryz.underlying5, Tryz.underlying179, Tryz.underlying181, Tryz.underlying182⟩
theorem extraU8 : U8Extra Tryz.prog renU8 := ⟨by kernel_rfl, by kernel_rfl, by kernel_rfl, by kernel_rfl, by kernel_rfl, by kernel_rfl, by kernel_rfl⟩
theorem accept_is : (Rows.laid_unicode_utf8_acceptRanges : DataW Unit) = acceptData := by kernel_rfl
theorem err_at {W : World} {n nm : String} {g : Nat} {d : DataW Unit} (hg : Tryz.prog.globalNamed n = some g) (ht : (Tryz.prog.globals[g]?).map (·.type) = some 28) (h : VarReads Tryz.prog W n (.iface nm d)) : EV W g := by
  obtain ⟨g', t, cs, fuel, p, h1, h2, h3, h4⟩ := h
  obtain rfl := Option.some.inj (hg.symm.trans h1)
  obtain rfl := Option.some.inj (ht.symm.trans h2)
  obtain ⟨f1, u, v, e, _⟩ := iface_of_trod Tryz.underlying28 h4
  refine ⟨.iface u v, ?_, .inr ⟨u, v, rfl⟩⟩
  rw [World.var?_cell h1 h3 0, ← Array.getElem?_toList, e]
  rfl
abbrev LL : List (String × DataW Unit) := [("math/bits.deBruijn32tab", Rows.laid_math_bits_deBruijn32tab), ("math/bits.deBruijn64tab", Rows.laid_math_bits_deBruijn64tab), ("internal/strconv.uint64pow10", Rows.laid_internal_strconv_uint64pow10), ("unicode/utf8.acceptRanges", Rows.laid_unicode_utf8_acceptRanges), ("strconv.ErrRange", Rows.laid_strconv_ErrRange), ("strconv.ErrSyntax", Rows.laid_strconv_ErrSyntax), ("unicode/utf8.first", Rows.laid_unicode_utf8_first)]
theorem tab_is : (Rows.laid_internal_strconv_uint64pow10 : DataW Unit) = Lib.tabData .u64 Lib.pow10Tab := by kernel_rfl
theorem cell_bl {w w' : World} {a : Addr} {v : Value} (hb : Below w.heap.size w w') (h : w.cell? a = some v) : w'.cell? a = some v := cell_later hb h
theorem EV.below {w w' : World} {g : Nat} (h : EV w g) (hb : Below w.heap.size w w') : EV w' g := by
  obtain ⟨ev, h1, h2⟩ := h
  exact ⟨ev, cell_bl hb h1, h2⟩
/-- The world's condition out of the rows' list. -/
theorem wh_of {W : World} (h : laidMetH Tryz.prog LL W) : Wh W W.heap.size := by
  obtain ⟨h1, h2⟩ := laid_both h
  have r1 := laidMet.reads h1 (mem_none (show ("unicode/utf8.first", Rows.laid_unicode_utf8_first) ∈ LL by simp [LL]) (by kernel_rfl))
  have r2 := laidMet.reads h1 (mem_none (show ("unicode/utf8.acceptRanges", Rows.laid_unicode_utf8_acceptRanges) ∈ LL by simp [LL]) (by kernel_rfl))
  have r3 := laidMet.reads h1 (mem_none (show ("strconv.ErrSyntax", Rows.laid_strconv_ErrSyntax) ∈ LL by simp [LL]) (by kernel_rfl))
  have r4 := laidMet.reads h1 (mem_none (show ("strconv.ErrRange", Rows.laid_strconv_ErrRange) ∈ LL by simp [LL]) (by kernel_rfl))
  have r := laidMet.reads h1 (mem_none (show ("internal/strconv.uint64pow10", Rows.laid_internal_strconv_uint64pow10) ∈ LL by simp [LL]) (by kernel_rfl))
  have hT : Lib.Utf8Tabs 2 3 W := utf8Tabs_of_readsT typesU8 extraU8 (Pinned.utf8First_eq ▸ r1) (accept_is ▸ r2)
  have E1 : EV W 7 := err_at (by kernel_rfl) (by kernel_rfl) r3
  have E2 : EV W 8 := err_at (by kernel_rfl) (by kernel_rfl) r4
  obtain ⟨g', t', cs, fuel, p, hg', ht', hvar, hd⟩ := r
  obtain rfl := Option.some.inj ((show Tryz.prog.globalNamed "internal/strconv.uint64pow10" = some 4 by kernel_rfl).symm.trans hg')
  obtain rfl := Option.some.inj ((show (Tryz.prog.globals[4]?).map (·.type) = some 187 by kernel_rfl).symm.trans ht')
  rw [tab_is] at hd
  have hc := Lib.cells_of_tab (n := 20) Tryz.underlying187 Tryz.underlying157 (by kernel_rfl) (by kernel_rfl) hd
  have hW : Lib.TabIs Tryz.prog W "internal/strconv.uint64pow10" .u64 Lib.pow10Tab := by
    show W.var? Tryz.prog "internal/strconv.uint64pow10" = _
    rw [hvar, ← hc]
  have c0 := Lib.TabIs.cell hW (g := 4) (by kernel_rfl) 0 (by decide)
  have hlt := World.block_lt_of_cell? W _ c0
  refine fun W' hb => ⟨E1.below hb, E2.below hb, ⟨fun c hc => cell_bl hb (hT.1 c hc), fun i hi => ⟨cell_bl hb (hT.2 i hi).1, cell_bl hb (hT.2 i hi).2⟩⟩, ?_⟩
  show W'.var? Tryz.prog "internal/strconv.uint64pow10" = _
  rw [← show W.var? Tryz.prog "internal/strconv.uint64pow10" = _ from hW]
  have hb2 := hb.block 4 hlt
  unfold World.var?
  rw [show Tryz.prog.globalNamed "internal/strconv.uint64pow10" = some 4 by kernel_rfl]
  simp [hb2]
/-- A world in which the listed variables lie as the rows say (the witness). -/
noncomputable def laidW (os : Os) : World := (World.holding Tryz.prog os ⟨#[], #[], []⟩).layVars Tryz.prog LL
theorem laidW_os (os : Os) : (laidW os).os = os := World.layVars_os _ _ _
theorem laidW_shaped (os : Os) : (laidW os).Shaped Tryz.prog := World.shaped_of_ZipB (by kernel_rfl) (by kernel_rfl)
theorem ll_is : (LL.filter fun x => x.2.handleName?.isNone) = LL := by kernel_rfl
theorem laid_data (os : Os) : laidMet Tryz.prog LL (laidW os) := by
  have e1 : (LL.filter fun x => (LL.map (·.1)).contains x.1) = LL := List.filter_eq_self.2 fun x hx => List.contains_iff_mem.2 (List.mem_map.2 ⟨x, hx, rfl⟩)
  have e2 : (LL.filter fun x => !(LL.map (·.1)).contains x.1) = [] := List.filter_eq_nil_iff.2 fun x hx => by rw [List.contains_iff_mem.2 (List.mem_map.2 ⟨x, hx, rfl⟩)]; simp
  exact laidMet_layVars (w0 := World.holding Tryz.prog os ⟨#[], #[], []⟩) (LL.map (·.1)) [] (by rw [e1]; rfl) (by rw [e1]; kernel_rfl) (by rw [e1]; kernel_rfl) (by rw [e2]; exact LaidIn.none)
theorem laid_met (os : Os) (args : Array Value) : laidMetH Tryz.prog LL ((laidW os).forCall (fun _ _ => 0) ⟨#[], args, []⟩).memory := by
  refine laidMetH_of_parts (l := LL) ?_ (by kernel_rfl)
  rw [ll_is]
  exact (laid_data os).of_heap (by simp [World.memory, World.forCall, Input.heap])
end Go.Proofs.YtbehakabglegjaaGreatDoor
