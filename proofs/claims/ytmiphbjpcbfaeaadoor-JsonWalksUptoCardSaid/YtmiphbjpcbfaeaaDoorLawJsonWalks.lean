/- What is proved: for every value and every number, of bulk at most 1048576 together, a walk gives the value and all within it with their paths, in order, also left early, begun again and gone through within itself (its first 200 places): the law JsonWalks is true within its bound, and the arguments read behind the call as before. -/
import Derived.Test.YtmiphbjpcbfaeaaDoorWkF
import Derived.Test.YtmiphbjpcbfaeaaDoorReadW
import Derived.Test.YtmiphbjpcbfaeaaDoorFrame
import Derived.Deep.DeepHandedRow
import Derived.Test.YtmiphbjpcbfaeaaDoorLaidW
namespace Go.Proofs.YtmiphbjpcbfaeaaDoor.jsonWalks
open Go.ChangeShapes Go.WideShapes Go.ChangeAt Go.RowKit
open Go.ChangeMaps (open_string shut_string)
set_option linter.unusedVariables false
set_option linter.unusedSimpArgs false

theorem tab_is : (Rows.laid_internal_strconv_uint64pow10 : DataW Unit) = Lib.tabData .u64 Lib.pow10Tab := by kernel_rfl
open Go.Shelf Go.Lib in
theorem tab_of {W : World} (h : laidMetH Tryd.prog LL W) : ∀ W', Below W.heap.size W W' → Tab10 W' := by
  obtain ⟨h1, _⟩ := laid_both h
  have r := laidMet.reads h1 (mem_none (show ("internal/strconv.uint64pow10", Rows.laid_internal_strconv_uint64pow10) ∈ LL by simp [LL]) (by kernel_rfl))
  obtain ⟨g', t', cs, fuel, p, hg', ht', hvar, hd⟩ := r
  obtain rfl := Option.some.inj ((show Tryd.prog.globalNamed "internal/strconv.uint64pow10" = some 4 by kernel_rfl).symm.trans hg')
  obtain rfl := Option.some.inj ((show (Tryd.prog.globals[4]?).map (·.type) = some 138 by kernel_rfl).symm.trans ht')
  rw [tab_is] at hd
  have hc := Lib.cells_of_tab (n := 20) Tryd.underlying138 Tryd.underlying116 (by kernel_rfl) (by kernel_rfl) hd
  have hW : Tab10 W := by
    show W.var? Tryd.prog "internal/strconv.uint64pow10" = _
    rw [hvar, ← hc]
  intro W' hb
  have c0 := Lib.TabIs.cell hW (g := 4) (by kernel_rfl) 0 (by decide)
  have hlt := World.block_lt_of_cell? W _ c0
  show W'.var? Tryd.prog "internal/strconv.uint64pow10" = _
  rw [← show W.var? Tryd.prog "internal/strconv.uint64pow10" = _ from hW]
  have hb2 := hb.block 4 hlt
  unfold World.var?
  rw [show Tryd.prog.globalNamed "internal/strconv.uint64pow10" = some 4 by kernel_rfl]
  simp [hb2]
theorem reads (os : Os) {H : Type} (enc : TypeId × Value → H) : ∃ x, DataW.whole enc Tryd.prog ((laidW os).forCall (fun _ _ => 0) ⟨#[], #[.agg #[.int .i64 0, .bool false, .int .i64 0, .string ByteArray.empty, .slice none 0 0, .slice none 0 0], .int .i64 0], []⟩).memory Tryd.f3.params.toList (Rows.OpenSpec.upto Rows.jsonWalksSpec).vars false (#[.agg #[.int .i64 0, .bool false, .int .i64 0, .string ByteArray.empty, .slice none 0 0, .slice none 0 0], .int .i64 0] : Array Value).toList 8 = some x ∧ Rows.uptoSmall H (x.1 ++ x.2.1) = true := by
  have h : (DataW.whole enc Tryd.prog ((laidW os).forCall (fun _ _ => 0) ⟨#[], #[.agg #[.int .i64 0, .bool false, .int .i64 0, .string ByteArray.empty, .slice none 0 0, .slice none 0 0], .int .i64 0], []⟩).memory Tryd.f3.params.toList (Rows.OpenSpec.upto Rows.jsonWalksSpec).vars false (#[.agg #[.int .i64 0, .bool false, .int .i64 0, .string ByteArray.empty, .slice none 0 0, .slice none 0 0], .int .i64 0] : Array Value).toList 8).any (fun x => Rows.uptoSmall H (x.1 ++ x.2.1)) = true := by kernel_rfl
  cases hh : DataW.whole enc Tryd.prog ((laidW os).forCall (fun _ _ => 0) ⟨#[], #[.agg #[.int .i64 0, .bool false, .int .i64 0, .string ByteArray.empty, .slice none 0 0, .slice none 0 0], .int .i64 0], []⟩).memory Tryd.f3.params.toList (Rows.OpenSpec.upto Rows.jsonWalksSpec).vars false (#[.agg #[.int .i64 0, .bool false, .int .i64 0, .string ByteArray.empty, .slice none 0 0, .slice none 0 0], .int .i64 0] : Array Value).toList 8 with
  | none => rw [hh] at h; cases h
  | some x => rw [hh] at h; exact ⟨x, rfl, h⟩
theorem okB (os : Os) : Input.okWideB Tryd.prog ((laidW os).forCall (fun _ _ => 0) ⟨#[], #[.agg #[.int .i64 0, .bool false, .int .i64 0, .string ByteArray.empty, .slice none 0 0, .slice none 0 0], .int .i64 0], []⟩) 3 ⟨#[], #[.agg #[.int .i64 0, .bool false, .int .i64 0, .string ByteArray.empty, .slice none 0 0, .slice none 0 0], .int .i64 0], []⟩ = true := by kernel_rfl
set_option maxRecDepth 100000 in
theorem lifted (os : Os) (started : os.Started) (H : Type) (enc : TypeId × Value → H) (F : Stop.Interp) :
    ReturnsInHanded {} Tryd.checked os 3 .any ((Rows.OpenSpec.upto Rows.jsonWalksSpec).preRow enc Tryd.prog Tryd.f3 Rows.jsonWalksUptoRow.domain false Rows.jsonWalksUptoRow.laid) (((Rows.OpenSpec.upto Rows.jsonWalksSpec).at F).post enc Tryd.prog Tryd.f3 false true false false) := by
  obtain ⟨x, hx, hxk⟩ := reads os enc
  refine returnsInHanded_of_row (C := Tryd.checked) (s := Rows.OpenSpec.upto Rows.jsonWalksSpec) own started (by kernel_rfl) Tryd.func3
    ⟨laidW os, fun _ _ => 0, ⟨#[], #[.agg #[.int .i64 0, .bool false, .int .i64 0, .string ByteArray.empty, .slice none 0 0, .slice none 0 0], .int .i64 0], []⟩, laidW_os os, laidW_shaped os, (Input.okWide_of_okWideB (base := 0) (okB os)).1, (Input.okWide_of_okWideB (okB os)).2,
      OpenSpec.preRow_of_cond 8 hx rfl (fun k hk => by cases hk; exact hxk) (by kernel_rfl) (laid_met os _), by
        simp only [Assume.holds]
        exact ⟨by simp, by simp, fun _ => Modest.zero, by simp, by simp⟩⟩ ?_
  intro W base args ds gs before hval0 hW _ hcond hsz0 hL _ _
  have HWo : Wo W := wo_of hL
  have HTab := tab_of hL
  have hval : ∀ (j : Nat) t v, Tryd.f3.params[j]? = some t → args[j]? = some v → Value.okWide Tryd.prog W .any base t v := hval0
  have hsz : (DataW.weightsEach Tryd.prog (Tryd.f3.params.toList ++ Rows.jsonWalksSpec.plain.varTypes Tryd.prog) (ds ++ gs)).all (· ≤ reachBytes) = true := hsz0
  have hW' := hW
  obtain ⟨p, q, hA0, hV, rfl, hfz, hnd⟩ := hW
  have hA : DataW.TrodAll enc Tryd.prog W 0 (fun _ => true) true Tryd.f3.params.toList args.toList ds p := hA0
  rw [Tryd.params3] at hA hval hsz
  obtain ⟨v0, vs0, d0, ds0, p0, q0, hargs, rfl, rfl, h0, t0⟩ := trodAll_cons hA
  obtain ⟨v1, vs1, d1, ds1, p1, q1, rfl, rfl, rfl, h1, t1⟩ := trodAll_cons t0
  obtain ⟨rfl, rfl, rfl⟩ := trodAll_nil t1
  obtain rfl : args = #[v0, v1] := by cases args; simp_all
  obtain ⟨rfl, rfl⟩ := trodVars_none hV
  obtain ⟨a0, rfl, w0, z0⟩ := open_value (hval 0 25 v0 rfl rfl) h0 (fun k hk => by have := List.all_eq_true.1 hsz k (DataW.weights_mem_each (j := 0) rfl rfl k hk); simpa using this)
  obtain ⟨a1, rfl, rfl, rfl, w1⟩ := open_int Tryd.underlying3 (hval 1 3 v1 rfl rfl) h1
  have HSZ : SzT (er a0) ≤ 1048576 := by
    have h1 := of_decide_eq_true (hcond _ rfl)
    simp only [Rows.uptoBulkAll, List.cons_append, List.nil_append, List.append_nil] at h1
    omega
  have HI1 : I64 a1 := by
    have w2 := w1
    unfold I64
    simp only [Lit.wf, Bool.and_eq_true, decide_eq_true_eq] at w2
    exact w2
  clear hA0 hval0 hsz0 hcond
  refine (jwalks_any HWo HTab w0 HSZ HI1).mono fun e W' ⟨he, hg⟩ => ?_
  subst he
  exact ⟨_, rfl, post_of_below (pv := []) hW' (fun _ _ _ => (trodAll_cons_mk (shut_bool Tryd.underlying4 _) trodAll_mk0)) (fun sp hsp => (trodAll_cons_mk (again (by kernel_rfl) (of_decide_eq_true (by kernel_rfl)) h0 hg (fun q hq => hW'.lt q hq) (fun q hq => by simp [hq]) hsp) (trodAll_cons_mk (shut_int Tryd.underlying3 w1) trodAll_mk0))) (fun _ _ => rfl) rfl hg⟩

theorem bare : Rows.JsonWalksUptoSaid :=
  OpenClaim.holds_of_cond 3 Tryd.f3 rfl rfl rfl rfl rfl rfl rfl ⟨rfl, rfl, rfl, rfl, rfl⟩ rfl rfl rfl rfl rfl (by kernel_rfl) Tryd.func3 (by kernel_rfl)
    (of_decide_eq_true (by kernel_rfl)) (by unfold Func.isWrapper; first | (rw [if_pos (by decide +kernel)]; kernel_rfl) | (rw [if_neg (by decide +kernel)]; exact ⟨rfl, rfl⟩))
    (fun os started H enc _ F => by rw [OpenClaim.pre_eq_preRow]; exact lifted os started H enc F)
theorem proved : Rows.JsonWalksUptoCardSaid :=
  Claim7.holds_tied_plain_at .later [] [.data, .data, .data, .data, .handle, .sentinel, .sentinel, .pinned] true Rows.jsonWalksUptoCard.stood.harness true
    bare (fun _ h => by cases h) (by kernel_rfl) (fun _ h => by cases h) jsonWalksUpto_row_tie rfl ⟨rfl, rfl⟩ (by kernel_rfl) rfl
    (fun f fn hf hfn => by
      obtain rfl : f = 3 := Option.some.inj ((show Tryd.prog.funcNamed "covey/coveylaw02.JsonWalks" = some 3 by kernel_rfl).symm.trans hf) |>.symm
      obtain rfl : fn = Tryd.f3 := (Option.some.inj (Tryd.func3.symm.trans hfn)).symm
      exact ⟨by kernel_rfl, fun j t ht => by
        rw [Tryd.params3] at ht
        have hm : t ∈ [25, 3] := by simpa using Array.mem_of_getElem? ht
        have hall : ([25, 3].all fun u => !Tryd.prog.wantsStandIn u) = true := by kernel_rfl
        exact (show Tryd.prog.wantsStandIn t = false by simpa using List.all_eq_true.1 hall t hm)⟩)
    (by kernel_rfl)
#print axioms proved
end Go.Proofs.YtmiphbjpcbfaeaaDoor.jsonWalks
