/- What is proved: for every row of pieces and both kinds, of bulk at most 1048576 together: a feed given the pieces one after another tells, refuses and stands open as the document's reader does: the law HttpFeeds is true within that bound, and the arguments read behind the call as before. -/
import Derived.Deep.DeepHandedRow
import Derived.Test.YtbehakabglegjaaGreatDoorQ44
import Derived.Test.YtbehakabglegjaaGreatDoorQ43
import Derived.Test.YtbehakabglegjaaGreatDoorQ45
namespace Go.Proofs.YtbehakabglegjaaGreatDoor.httpFeeds
open Go.ChangeShapes Go.WideShapes Go.ChangeAt Go.RowKit
open Go.ChangeMaps (open_string shut_string)
set_option linter.unusedVariables false
set_option linter.unusedSimpArgs false

theorem reads (os : Os) {H : Type} (enc : TypeId × Value → H) : ∃ x, DataW.whole enc Tryz.prog ((laidW os).forCall (fun _ _ => 0) ⟨#[], #[.slice none 0 0, .bool false], []⟩).memory Tryz.f7.params.toList (Rows.OpenSpec.upto Rows.httpFeedsSpec).vars false (#[.slice none 0 0, .bool false] : Array Value).toList 8 = some x ∧ Rows.uptoSmall H (x.1 ++ x.2.1) = true := by
  have h : (DataW.whole enc Tryz.prog ((laidW os).forCall (fun _ _ => 0) ⟨#[], #[.slice none 0 0, .bool false], []⟩).memory Tryz.f7.params.toList (Rows.OpenSpec.upto Rows.httpFeedsSpec).vars false (#[.slice none 0 0, .bool false] : Array Value).toList 8).any (fun x => Rows.uptoSmall H (x.1 ++ x.2.1)) = true := by kernel_rfl
  cases hh : DataW.whole enc Tryz.prog ((laidW os).forCall (fun _ _ => 0) ⟨#[], #[.slice none 0 0, .bool false], []⟩).memory Tryz.f7.params.toList (Rows.OpenSpec.upto Rows.httpFeedsSpec).vars false (#[.slice none 0 0, .bool false] : Array Value).toList 8 with
  | none => rw [hh] at h; cases h
  | some x => rw [hh] at h; exact ⟨x, rfl, h⟩
theorem okB (os : Os) : Input.okWideB Tryz.prog ((laidW os).forCall (fun _ _ => 0) ⟨#[], #[.slice none 0 0, .bool false], []⟩) 7 ⟨#[], #[.slice none 0 0, .bool false], []⟩ = true := by kernel_rfl
set_option maxRecDepth 100000 in
theorem lifted (os : Os) (started : os.Started) (H : Type) (enc : TypeId × Value → H) (F : Stop.Interp) :
    ReturnsInHanded {} Tryz.checked os 7 .any ((Rows.OpenSpec.upto Rows.httpFeedsSpec).preRow enc Tryz.prog Tryz.f7 Rows.httpFeedsUptoRow.domain false Rows.httpFeedsUptoRow.laid) (((Rows.OpenSpec.upto Rows.httpFeedsSpec).at F).post enc Tryz.prog Tryz.f7 false true false false) := by
  obtain ⟨x, hx, hxk⟩ := reads os enc
  refine returnsInHanded_of_row (C := Tryz.checked) (s := Rows.OpenSpec.upto Rows.httpFeedsSpec) own started (by kernel_rfl) Tryz.func7
    ⟨laidW os, fun _ _ => 0, ⟨#[], #[.slice none 0 0, .bool false], []⟩, laidW_os os, laidW_shaped os, (Input.okWide_of_okWideB (base := 0) (okB os)).1, (Input.okWide_of_okWideB (okB os)).2,
      OpenSpec.preRow_of_cond 8 hx rfl (fun k hk => by cases hk; exact hxk) (by kernel_rfl) (laid_met os _), by
        simp only [Assume.holds]
        exact ⟨by simp, by simp, fun _ => Modest.zero, by simp, by simp⟩⟩ ?_
  intro W base args ds gs before hval0 hW _ hcond hsz0 hL _ _
  have HWh : Wh W W.heap.size := wh_of hL
  have HEy := ety_of hL
  have hval : ∀ (j : Nat) t v, Tryz.f7.params[j]? = some t → args[j]? = some v → Value.okWide Tryz.prog W .any base t v := hval0
  have hsz : (DataW.weightsEach Tryz.prog (Tryz.f7.params.toList ++ Rows.httpFeedsSpec.plain.varTypes Tryz.prog) (ds ++ gs)).all (· ≤ reachBytes) = true := hsz0
  have hW' := hW
  obtain ⟨p, q, hA0, hV, rfl, hfz, hnd⟩ := hW
  have hA : DataW.TrodAll enc Tryz.prog W 0 (fun _ => true) true Tryz.f7.params.toList args.toList ds p := hA0
  rw [Tryz.params7] at hA hval hsz
  obtain ⟨v0, vs0, d0, ds0, p0, q0, hargs, rfl, rfl, h0, t0⟩ := trodAll_cons hA
  obtain ⟨v1, vs1, d1, ds1, p1, q1, rfl, rfl, rfl, h1, t1⟩ := trodAll_cons t0
  obtain ⟨rfl, rfl, rfl⟩ := trodAll_nil t1
  obtain rfl : args = #[v0, v1] := by cases args; simp_all
  obtain ⟨rfl, rfl⟩ := trodVars_none hV
  have hBK : Rows.uptoBulk d0 + Rows.uptoBulk d1 ≤ 1048576 := by
    have h1 := of_decide_eq_true (hcond _ rfl)
    simp only [Rows.uptoBulkAll, List.cons_append, List.nil_append, List.append_nil] at h1
    omega
  obtain ⟨a0, w0, z0⟩ := open_rows (hval 0 61 v0 rfl rfl) h0 (fun k hk => by have := List.all_eq_true.1 hsz k (DataW.weights_mem_each (j := 0) rfl rfl k hk); simpa using this)
  obtain ⟨a1, rfl, rfl, rfl⟩ := open_bool Tryz.underlying4 (hval 1 4 v1 rfl rfl) h1
  clear hA0 hval0 hsz0 hcond
  refine (feeds_any w0 (by have := rows_small a0; omega) (by have := rows_small a0; omega) HWh HEy.1 HEy.2).mono fun e W' ⟨he, hg⟩ => ?_
  subst he
  exact ⟨_, rfl, post_of_below (pv := []) hW' (fun _ _ _ => (trodAll_cons_mk (shut_bool Tryz.underlying4 _) trodAll_mk0)) (fun sp hsp => (trodAll_cons_mk (again (by kernel_rfl) (of_decide_eq_true (by kernel_rfl)) h0 hg (fun q hq => hW'.lt q hq) (fun q hq => by simp [hq]) hsp) (trodAll_cons_mk (shut_bool Tryz.underlying4 a1) trodAll_mk0))) (fun _ _ => rfl) rfl hg⟩

theorem bare : Rows.HttpFeedsUptoSaid :=
  OpenClaim.holds_of_cond 7 Tryz.f7 rfl rfl rfl rfl rfl rfl rfl ⟨rfl, rfl, rfl, rfl, rfl⟩ rfl rfl rfl rfl rfl (by kernel_rfl) Tryz.func7 (by kernel_rfl)
    (of_decide_eq_true (by kernel_rfl)) (by unfold Func.isWrapper; first | (rw [if_pos (by decide +kernel)]; kernel_rfl) | (rw [if_neg (by decide +kernel)]; exact ⟨rfl, rfl⟩))
    (fun os started H enc _ F => by rw [OpenClaim.pre_eq_preRow]; exact lifted os started H enc F)
theorem proved : Rows.HttpFeedsUptoCardSaid :=
  Claim7.holds_tied_plain_at .later [] [.data, .data, .data, .data, .handle, .sentinel, .sentinel, .pinned] true Rows.httpFeedsUptoCard.stood.harness true
    bare (fun _ h => by cases h) (by kernel_rfl) (fun _ h => by cases h) httpFeedsUpto_row_tie rfl ⟨rfl, rfl⟩ (by kernel_rfl) rfl
    (fun f fn hf hfn => by
      obtain rfl : f = 7 := Option.some.inj ((show Tryz.prog.funcNamed "covey/coveylaw09.HttpFeeds" = some 7 by kernel_rfl).symm.trans hf) |>.symm
      obtain rfl : fn = Tryz.f7 := (Option.some.inj (Tryz.func7.symm.trans hfn)).symm
      exact ⟨by kernel_rfl, fun j t ht => by
        rw [Tryz.params7] at ht
        have hm : t ∈ [61, 4] := by simpa using Array.mem_of_getElem? ht
        have hall : ([61, 4].all fun u => !Tryz.prog.wantsStandIn u) = true := by kernel_rfl
        exact (show Tryz.prog.wantsStandIn t = false by simpa using List.all_eq_true.1 hall t hm)⟩)
    (by kernel_rfl)
#print axioms proved
end Go.Proofs.YtbehakabglegjaaGreatDoor.httpFeeds
