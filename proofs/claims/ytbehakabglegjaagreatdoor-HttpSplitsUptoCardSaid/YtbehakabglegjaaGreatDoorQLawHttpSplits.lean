/- What is proved: for every target and all parts, of bulk at most 1048576 together: a target is cut into its parts, or refused at the first place amiss, and parts make a target, as the document says: the law HttpSplits is true within that bound, and the arguments read behind the call as before. -/
import Derived.Deep.DeepHandedRow
import Derived.Test.YtbehakabglegjaaGreatDoorQ37
import Derived.Test.YtbehakabglegjaaGreatDoorQ32
import Derived.Test.YtbehakabglegjaaGreatDoorQ33
namespace Go.Proofs.YtbehakabglegjaaGreatDoor.httpSplits
open Go.ChangeShapes Go.WideShapes Go.ChangeAt Go.RowKit
open Go.ChangeMaps (open_string shut_string)
set_option linter.unusedVariables false
set_option linter.unusedSimpArgs false

theorem reads (os : Os) {H : Type} (enc : TypeId × Value → H) : ∃ x, DataW.whole enc Tryz.prog ((laidW os).forCall (fun _ _ => 0) ⟨#[], #[.string ByteArray.empty, .slice none 0 0, .slice none 0 0], []⟩).memory Tryz.f8.params.toList (Rows.OpenSpec.upto Rows.httpSplitsSpec).vars false (#[.string ByteArray.empty, .slice none 0 0, .slice none 0 0] : Array Value).toList 8 = some x ∧ Rows.uptoSmall H (x.1 ++ x.2.1) = true := by
  have h : (DataW.whole enc Tryz.prog ((laidW os).forCall (fun _ _ => 0) ⟨#[], #[.string ByteArray.empty, .slice none 0 0, .slice none 0 0], []⟩).memory Tryz.f8.params.toList (Rows.OpenSpec.upto Rows.httpSplitsSpec).vars false (#[.string ByteArray.empty, .slice none 0 0, .slice none 0 0] : Array Value).toList 8).any (fun x => Rows.uptoSmall H (x.1 ++ x.2.1)) = true := by kernel_rfl
  cases hh : DataW.whole enc Tryz.prog ((laidW os).forCall (fun _ _ => 0) ⟨#[], #[.string ByteArray.empty, .slice none 0 0, .slice none 0 0], []⟩).memory Tryz.f8.params.toList (Rows.OpenSpec.upto Rows.httpSplitsSpec).vars false (#[.string ByteArray.empty, .slice none 0 0, .slice none 0 0] : Array Value).toList 8 with
  | none => rw [hh] at h; cases h
  | some x => rw [hh] at h; exact ⟨x, rfl, h⟩
theorem okB (os : Os) : Input.okWideB Tryz.prog ((laidW os).forCall (fun _ _ => 0) ⟨#[], #[.string ByteArray.empty, .slice none 0 0, .slice none 0 0], []⟩) 8 ⟨#[], #[.string ByteArray.empty, .slice none 0 0, .slice none 0 0], []⟩ = true := by kernel_rfl
set_option maxRecDepth 100000 in
theorem lifted (os : Os) (started : os.Started) (H : Type) (enc : TypeId × Value → H) (F : Stop.Interp) :
    ReturnsInHanded {} Tryz.checked os 8 .any ((Rows.OpenSpec.upto Rows.httpSplitsSpec).preRow enc Tryz.prog Tryz.f8 Rows.httpSplitsUptoRow.domain false Rows.httpSplitsUptoRow.laid) (((Rows.OpenSpec.upto Rows.httpSplitsSpec).at F).post enc Tryz.prog Tryz.f8 false true false false) := by
  obtain ⟨x, hx, hxk⟩ := reads os enc
  refine returnsInHanded_of_row (C := Tryz.checked) (s := Rows.OpenSpec.upto Rows.httpSplitsSpec) own started (by kernel_rfl) Tryz.func8
    ⟨laidW os, fun _ _ => 0, ⟨#[], #[.string ByteArray.empty, .slice none 0 0, .slice none 0 0], []⟩, laidW_os os, laidW_shaped os, (Input.okWide_of_okWideB (base := 0) (okB os)).1, (Input.okWide_of_okWideB (okB os)).2,
      OpenSpec.preRow_of_cond 8 hx rfl (fun k hk => by cases hk; exact hxk) (by kernel_rfl) (laid_met os _), by
        simp only [Assume.holds]
        exact ⟨by simp, by simp, fun _ => Modest.zero, by simp, by simp⟩⟩ ?_
  intro W base args ds gs before hval0 hW _ hcond hsz0 hL _ _
  have HWh : Wh W W.heap.size := wh_of hL
  have HEy := ety_of hL
  have hval : ∀ (j : Nat) t v, Tryz.f8.params[j]? = some t → args[j]? = some v → Value.okWide Tryz.prog W .any base t v := hval0
  have hsz : (DataW.weightsEach Tryz.prog (Tryz.f8.params.toList ++ Rows.httpSplitsSpec.plain.varTypes Tryz.prog) (ds ++ gs)).all (· ≤ reachBytes) = true := hsz0
  have hW' := hW
  obtain ⟨p, q, hA0, hV, rfl, hfz, hnd⟩ := hW
  have hA : DataW.TrodAll enc Tryz.prog W 0 (fun _ => true) true Tryz.f8.params.toList args.toList ds p := hA0
  rw [Tryz.params8] at hA hval hsz
  obtain ⟨v0, vs0, d0, ds0, p0, q0, hargs, rfl, rfl, h0, t0⟩ := trodAll_cons hA
  obtain ⟨v1, vs1, d1, ds1, p1, q1, rfl, rfl, rfl, h1, t1⟩ := trodAll_cons t0
  obtain ⟨v2, vs2, d2, ds2, p2, q2, rfl, rfl, rfl, h2, t2⟩ := trodAll_cons t1
  obtain ⟨rfl, rfl, rfl⟩ := trodAll_nil t2
  obtain rfl : args = #[v0, v1, v2] := by cases args; simp_all
  obtain ⟨rfl, rfl⟩ := trodVars_none hV
  have hBK : Rows.uptoBulk d0 + Rows.uptoBulk d1 + Rows.uptoBulk d2 ≤ 1048576 := by
    have h1 := of_decide_eq_true (hcond _ rfl)
    simp only [Rows.uptoBulkAll, List.cons_append, List.nil_append, List.append_nil] at h1
    omega
  obtain ⟨a0, rfl, rfl, rfl, w0⟩ := open_string Tryz.underlying9 (hval 0 9 v0 rfl rfl) h0
  have z0 : a0.size + 1 ≤ 1048576 := by
    simp only [Rows.uptoBulk] at hBK
    have e : a0.data.toList.length = a0.size := by simp
    omega
  obtain ⟨a1, w1, z1⟩ := open_texts (hval 1 48 v1 rfl rfl) h1 (fun k hk => by have := List.all_eq_true.1 hsz k (DataW.weights_mem_each (j := 1) rfl rfl k hk); simpa using this)
  obtain ⟨a2, w2, z2⟩ := open_params (hval 2 49 v2 rfl rfl) h2 (fun k hk => by have := List.all_eq_true.1 hsz k (DataW.weights_mem_each (j := 2) rfl rfl k hk); simpa using this)
  clear hA0 hval0 hsz0 hcond
  refine (splits_sized w1 w2 z0 z1 z2.2.2 hBK HWh HEy.1 HEy.2).mono fun e W' ⟨he, hg⟩ => ?_
  subst he
  exact ⟨_, rfl, post_of_below (pv := []) hW' (fun _ _ _ => (trodAll_cons_mk (shut_bool Tryz.underlying4 _) trodAll_mk0)) (fun sp hsp => (trodAll_cons_mk (shut_string Tryz.underlying9 w0) (trodAll_cons_mk (again (by kernel_rfl) (of_decide_eq_true (by kernel_rfl)) h1 hg (fun q hq => hW'.lt q hq) (fun q hq => by simp [hq]) hsp) (trodAll_cons_mk (again (by kernel_rfl) (of_decide_eq_true (by kernel_rfl)) h2 hg (fun q hq => hW'.lt q hq) (fun q hq => by simp [hq]) hsp) trodAll_mk0)))) (fun _ _ => rfl) rfl hg⟩

theorem bare : Rows.HttpSplitsUptoSaid :=
  OpenClaim.holds_of_cond 8 Tryz.f8 rfl rfl rfl rfl rfl rfl rfl ⟨rfl, rfl, rfl, rfl, rfl⟩ rfl rfl rfl rfl rfl (by kernel_rfl) Tryz.func8 (by kernel_rfl)
    (of_decide_eq_true (by kernel_rfl)) (by unfold Func.isWrapper; first | (rw [if_pos (by decide +kernel)]; kernel_rfl) | (rw [if_neg (by decide +kernel)]; exact ⟨rfl, rfl⟩))
    (fun os started H enc _ F => by rw [OpenClaim.pre_eq_preRow]; exact lifted os started H enc F)
theorem proved : Rows.HttpSplitsUptoCardSaid :=
  Claim7.holds_tied_plain_at .later [] [.data, .data, .data, .data, .handle, .sentinel, .sentinel, .pinned] true Rows.httpSplitsUptoCard.stood.harness true
    bare (fun _ h => by cases h) (by kernel_rfl) (fun _ h => by cases h) httpSplitsUpto_row_tie rfl ⟨rfl, rfl⟩ (by kernel_rfl) rfl
    (fun f fn hf hfn => by
      obtain rfl : f = 8 := Option.some.inj ((show Tryz.prog.funcNamed "covey/coveylaw09.HttpSplits" = some 8 by kernel_rfl).symm.trans hf) |>.symm
      obtain rfl : fn = Tryz.f8 := (Option.some.inj (Tryz.func8.symm.trans hfn)).symm
      exact ⟨by kernel_rfl, fun j t ht => by
        rw [Tryz.params8] at ht
        have hm : t ∈ [9, 48, 49] := by simpa using Array.mem_of_getElem? ht
        have hall : ([9, 48, 49].all fun u => !Tryz.prog.wantsStandIn u) = true := by kernel_rfl
        exact (show Tryz.prog.wantsStandIn t = false by simpa using List.all_eq_true.1 hall t hm)⟩)
    (by kernel_rfl)
#print axioms proved
end Go.Proofs.YtbehakabglegjaaGreatDoor.httpSplits
