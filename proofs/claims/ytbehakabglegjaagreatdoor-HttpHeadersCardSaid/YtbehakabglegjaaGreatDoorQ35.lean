/- Layer 9: the first header of a name, by the document. Layer 9: the law HttpHeaders, walked. The frame of a law's statement: a row's post, where the call only laid new blocks. -/
import Derived.Test.YtbehakabglegjaaGreatDoorQ32
import Derived.Test.YtbehakabglegjaaGreatDoorQ34
import Derived.OpenShut
import Derived.ShutString
import Derived.HandedShaped
import Derived.Test.YtbehakabglegjaaGreatDoorQ00
namespace Go.Proofs.YtbehakabglegjaaGreatDoor
open Go.RowKit Go.PlainAid
set_option linter.unusedVariables false
set_option linter.unusedSimpArgs false
set_option maxRecDepth 100000 in
set_option maxHeartbeats 8000000 in
theorem rheader_any {x : Mm} {name : ByteArray} {w : World} (hm : MgAt w x) (hn : name.size ≤ 140737488355328) (hz : ∀ p ∈ x.m.heads, p.1.size ≤ 140737488355328) : Calls Tryz.prog 18 #[.agg x.cells, .string name] w fun e w' => e = .returned (hdAns (headerS x.m.heads name)) ∧ Below w.heap.size w w' := by
  obtain ⟨hA, hc, hhs, hcells⟩ := id hm.hd
  have HM := Lib.hid hm
  have HL := Lib.hid hm.hl
  have HNM := Lib.hid hn
  have HZ := Lib.hid hz
  have hcell : x.cells = #[.string x.m.meth, .string x.m.targ, .int .i64 x.m.stat, .string x.m.reas, .slice hA x.m.heads.length hc, x.bd] := by unfold Mm.cells; rw [hhs]
  rw [hcell]
  clear hm hn hcells hcell hz
  go_enter Tryz.func18, Tryz.ntmps18
  go_wp2_with (refine wpl_box_at rfl 25 (.tmp 0) rfl _ rfl ?_; intro w1 hw; have B1 := hid_alloc0 hw; have HB := hid_grow hw; clear hw)
  go_loopw [6] (fun iv wr => ∃ i : Nat, iv = .int .i64 (i : Int) ∧ i ≤ x.m.heads.length ∧ (x.m.heads.take i).find? (fun p => alikeB (bl p.1) (bl name)) = none ∧ IBox wr w.heap.size 25 #[.string x.m.meth, .string x.m.targ, .int .i64 x.m.stat, .string x.m.reas, .slice hA x.m.heads.length hc, x.bd] ∧ Below w.heap.size w wr) (fun iv _ => match iv with | .int _ i => (x.m.heads.length - i.toNat) | _ => 0)
  case atStart => exact ⟨0, rfl, Nat.zero_le _, rfl, B1, HB⟩
  case round =>
    clear HB B1
    obtain ⟨i, rfl, hi, hfn, B1, HB⟩ := hrel
    have hl := HL.out
    have c4 : wr.cell? ⟨w.heap.size, 4, none⟩ = some (.slice hA x.m.heads.length hc) := B1.cell 4
    by_cases hlt : i < x.m.heads.length
    · obtain ⟨p, hp⟩ : ∃ p, x.m.heads[i]? = some p := ⟨_, List.getElem?_eq_getElem hlt⟩
      obtain ⟨f1, f2⟩ := find_next hp hfn
      have hpz := HZ.out p (List.mem_of_getElem? hp)
      obtain ⟨A2, c2, hv2, hcells⟩ := HM.out.hd
      obtain ⟨gh, off, hA2, e1, e2⟩ := hcells i p hp
      rw [hhs] at hv2
      injection hv2 with v1 v2 v3
      clear v2 v3
      subst v1
      subst hA2
      obtain ⟨pn, pv⟩ := p
      replace hpz : pn.size ≤ 140737488355328 := hpz
      have HCL : Hid (∀ w', Below w.heap.size w w' → w'.cell? ⟨gh, off + i * 2, none⟩ = some (.string pn) ∧ w'.cell? ⟨gh, off + i * 2 + 1, none⟩ = some (.string pv)) := Lib.hid fun w' hb => ⟨cell_below hb e1, cell_below hb e2⟩
      have hcl := HCL.out _ HB
      clear hcells hfn e1 e2
      have hnz := HNM.out
      have HL1 := Lib.hid (fun w => rlower_any pn w hpz)
      have HL2 := Lib.hid (fun w => rlower_any name w hnz)
      cases ha : alikeB (bl pn) (bl name)
      · have hq : ((txt (lowL pn.data.toList)).toList == (txt (lowL name.data.toList)).toList) = false := by rw [ba_toList, ba_toList]; exact ha
        have HF := Lib.hid (f2 ha)
        clear f1 f2 ha hp hpz
        generalize lowL pn.data.toList = X at *
        generalize lowL name.data.toList = Y at *
        go_wp2_with (first
          | (go_at_call 43; (with_reducible refine (HL1.out _).mono ?_); rintro e w6 ⟨rfl, hb⟩; replace B1 := IBox.below B1 hb (IBox.lt B1); replace HB := HB.trans (hb.mono HB.size); clear hb; clear c4; have c4 : w6.cell? ⟨w.heap.size, 4, none⟩ = some (.slice (some ⟨gh, off, none⟩) x.m.heads.length hc) := B1.cell 4; replace hcl := HCL.out _ HB)
          | (go_at_call 43; (with_reducible refine (HL2.out _).mono ?_); rintro e w7 ⟨rfl, hb⟩; replace B1 := IBox.below B1 hb (IBox.lt B1); replace HB := HB.trans (hb.mono HB.size); clear hb; clear c4; have c4 : w7.cell? ⟨w.heap.size, 4, none⟩ = some (.slice (some ⟨gh, off, none⟩) x.m.heads.length hc) := B1.cell 4; replace hcl := HCL.out _ HB))
        go_roundw
        case rel => exact ⟨i + 1, rfl, by omega, HF.out, B1, HB⟩
        case measure => (simp only; omega)
      · have hq : ((txt (lowL pn.data.toList)).toList == (txt (lowL name.data.toList)).toList) = true := by rw [ba_toList, ba_toList]; exact ha
        have HF := Lib.hid (f1 ha)
        clear f1 f2 ha hp hpz
        generalize lowL pn.data.toList = X at *
        generalize lowL name.data.toList = Y at *
        go_wp2_with (first
          | (go_at_call 43; (with_reducible refine (HL1.out _).mono ?_); rintro e w6 ⟨rfl, hb⟩; replace B1 := IBox.below B1 hb (IBox.lt B1); replace HB := HB.trans (hb.mono HB.size); clear hb; clear c4; have c4 : w6.cell? ⟨w.heap.size, 4, none⟩ = some (.slice (some ⟨gh, off, none⟩) x.m.heads.length hc) := B1.cell 4; replace hcl := HCL.out _ HB)
          | (go_at_call 43; (with_reducible refine (HL2.out _).mono ?_); rintro e w7 ⟨rfl, hb⟩; replace B1 := IBox.below B1 hb (IBox.lt B1); replace HB := HB.trans (hb.mono HB.size); clear hb; clear c4; have c4 : w7.cell? ⟨w.heap.size, 4, none⟩ = some (.slice (some ⟨gh, off, none⟩) x.m.heads.length hc) := B1.cell 4; replace hcl := HCL.out _ HB))
        go_ret2
        exact ⟨by rw [HF.out]; rfl, HB⟩
    · obtain rfl : i = x.m.heads.length := by omega
      have HF := Lib.hid (find_end hfn)
      clear hfn
      go_wp2
      go_ret2
      exact ⟨by rw [HF.out]; rfl, HB⟩
end Go.Proofs.YtbehakabglegjaaGreatDoor
namespace Go.Proofs.YtbehakabglegjaaGreatDoor
open Go.RowKit Go.PlainAid
set_option linter.unusedVariables false
set_option linter.unusedSimpArgs false
theorem hdAns_is (o : Option ByteArray) : ∃ r b, hdAns o = .tuple #[.string r, .bool b] := by
  cases o <;> exact ⟨_, _, rfl⟩
set_option maxRecDepth 100000 in
set_option maxHeartbeats 4000000 in
theorem headers_any {x : Mm} {name : ByteArray} {w : World} (hm : MgAt w x) (hn : name.size ≤ 140737488355328) (hw : Wh w w.heap.size) :
    Calls Tryz.prog 5 #[.agg x.cells, .string name] w fun e w' => e = .returned (.bool true) ∧ Below w.heap.size w w' := by
  obtain ⟨r, b, hrb⟩ := hdAns_is (headerS x.m.heads name)
  have H1 : Hid (∀ wx, MgAt wx x → Calls Tryz.prog 17 #[.agg x.cells, .string name] wx fun e w' => e = .returned (.tuple #[.string r, .bool b]) ∧ Below wx.heap.size wx w') := Lib.hid fun wx h => by
    have h2 := header_any h hn
    rw [hrb] at h2
    exact h2
  have H2 : Hid (∀ wx, MgAt wx x → Calls Tryz.prog 18 #[.agg x.cells, .string name] wx fun e w' => e = .returned (.tuple #[.string r, .bool b]) ∧ Below wx.heap.size wx w') := Lib.hid fun wx h => by
    have h2 := rheader_any h hn (fun p hp => (h.hz p hp).1)
    rw [hrb] at h2
    exact h2
  have HM := Lib.hid hm
  have HW := Lib.hid hw
  have hsz : (Tryz.prog.info? 25).map (·.size) = some x.cells.size := info_msg
  generalize x.cells = cs at H1 H2 hsz
  clear hrb hm hw
  go_enter Tryz.func5, Tryz.ntmps5
  go_wp2_with (first
    | (refine wpl_box_at rfl 25 (.tmp 0) rfl _ rfl ?_; intro w1 hw; have B1 := hid_alloc0 hw; have HB := hid_grow hw; clear hw)
    | ((with_reducible refine is_load ?_); refine wpl_load_box rfl 25 (.tmp 2) rfl _ rfl _ _ _ B1 Tryz.underlying25 rfl hsz ?_)
    | (go_at_call 9; (refine (shown_any ((HW.out.below HB).up HB.size)).mono ?_); rintro e w2 ⟨rfl, hb⟩; replace B1 := IBox.below B1 hb (IBox.lt B1); replace HB := HB.trans (hb.mono HB.size); clear hb)
    | (go_at_call 17; (refine (H1.out _ (HM.out.below HB)).mono ?_); rintro e w3 ⟨rfl, hb⟩; replace B1 := IBox.below B1 hb (IBox.lt B1); replace HB := HB.trans (hb.mono HB.size); clear hb)
    | (go_at_call 18; (refine (H2.out _ (HM.out.below HB)).mono ?_); rintro e w4 ⟨rfl, hb⟩; replace B1 := IBox.below B1 hb (IBox.lt B1); replace HB := HB.trans (hb.mono HB.size); clear hb))
  go_ret
  exact ⟨rfl, HB⟩
end Go.Proofs.YtbehakabglegjaaGreatDoor
namespace Go.Proofs.YtbehakabglegjaaGreatDoor
open Go.RowKit
variable {H : Type} {enc : TypeId × Value → H} {P : Program}

theorem post_of_below {f : Func} {s : ChangeSpec} {apart fresh handsOn : Bool} {W W' : World} {args : Array Value} {v : Value} {ds gs : List (DataW H)} {before pa pv : List MemPlace}
    (hW : DataW.Whole enc P f.params.toList s.vars apart W args.toList ds gs before)
    (hres : ∀ (b : Nat) (sp : Nat → Bool) (hd : Bool), DataW.TrodAll enc P W' b sp hd f.resultTypes.toList (v.resultList f.resultTypes.size) (s.fn H (ds ++ gs)).results [])
    (hargs : ∀ sp : Nat → Bool, (∀ p ∈ before, sp p.block = true) → DataW.TrodAll enc P W' 0 sp true f.params.toList args.toList (s.fn H (ds ++ gs)).args pa)
    (hvars : ∀ sp : Nat → Bool, (∀ p ∈ before, sp p.block = true) → DataW.TrodVars enc P W' sp s.vars (s.fn H (ds ++ gs)).vars pv)
    (hps : before = pa ++ pv) (hb : Below W.heap.size W W') : s.post enc P f apart fresh handsOn false W args v W' := by
  have hold : ∀ p ∈ before, (fun b => decide (b < W.heap.size)) p.block = true := fun p hp => by simpa using hW.lt p hp
  refine ⟨ds, gs, before, [], pa, pv, hW, hres _ _ _, hargs _ hold, hvars _ hold, World.keptBut_mono (fun p hp => ⟨hp, ?_⟩) (hb.frame (· ∈ before)), fun h => by cases h⟩
  rw [hps, List.mem_append] at hp
  exact Or.inr hp

theorem own : ownKnob Tryz.prog.godebug = none := by kernel_rfl
end Go.Proofs.YtbehakabglegjaaGreatDoor
