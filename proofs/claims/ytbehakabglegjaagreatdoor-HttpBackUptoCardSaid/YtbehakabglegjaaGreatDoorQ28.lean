/- Layer 9: are two lists of texts alike; two lists of pairs? -/
import Derived.Test.YtbehakabglegjaaGreatDoorQ27
namespace Go.Proofs.YtbehakabglegjaaGreatDoor
open Go.RowKit Go.PlainAid
set_option linter.unusedVariables false
set_option linter.unusedSimpArgs false
theorem list_ext_take {α : Type} {a b : List α} (hl : a.length = b.length) (h : ∀ (i : Nat) (x y : α), a[i]? = some x → b[i]? = some y → x = y) : a = b := by
  apply List.ext_getElem? 
  intro i
  cases ha : a[i]? with
  | none =>
    have : a.length ≤ i := List.getElem?_eq_none_iff.1 ha
    rw [List.getElem?_eq_none (by omega)]
  | some x =>
    have hi := (List.getElem?_eq_some_iff.1 ha).1
    have hb : b[i]? = some (b[i]'(by omega)) := List.getElem?_eq_getElem (by omega)
    rw [hb, h i x _ ha hb]
theorem cell_heap {w w' : World} {a : Addr} {v : Value} (e : w'.heap = w.heap) (h : w.cell? a = some v) : w'.cell? a = some v := by
  unfold World.cell? at *
  rw [e]
  exact h
theorem rangeAt_heap {w w' : World} {b o : Nat} {l : List Value} (e : w'.heap = w.heap) (h : w.rangeAt b o l) : w'.rangeAt b o l := fun j v hv => cell_heap e (h j v hv)
theorem row_two {w : World} {g o : Nat} {a b : ByteArray} (h1 : w.cell? ⟨g, o, none⟩ = some (.string a)) (h2 : w.cell? ⟨g, o + 1, none⟩ = some (.string b)) : w.rangeAt g o (hdA a b).toList := fun j v hv => by
  have hj : j = 0 ∨ j = 1 := by
    have := (List.getElem?_eq_some_iff.1 hv).1
    have e : (hdA a b).toList.length = 2 := rfl
    omega
  rcases hj with rfl | rfl
  · have : v = .string a := (Option.some.inj hv).symm
    rw [this]; exact h1
  · have : v = .string b := (Option.some.inj hv).symm
    rw [this]; exact h2
theorem eqPm (a b c d : ByteArray) (w : World) : (Op.equalIn 10000 54 (.agg (hdA a b)) (.agg (hdA c d))).run Tryz.prog w = .ok (a.toList == c.toList && b.toList == d.toList) w := by
  have u3 := Tryz.underlying9
  have hS : Tryz.prog.underlying 54 = some (.struct (Tryz.prog.fieldsOf 54)) := by kernel_rfl
  unfold hdA
  rw [show (10000 : Nat) = 9999 + 1 from rfl, run_equalIn_agg w 9999 54 _ _ hS (by kernel_rfl)]
  simp only [Program.fieldsOf, Tryz.underlying54]
  go_simp
  by_cases h1 : a.toList = c.toList <;> by_cases h2 : b.toList = d.toList <;> simp [h1, h2]
theorem guardPm : Tryz.prog.eqGuardType Tryz.prog.depth 54 = false := by kernel_rfl
theorem pm_neq_same (x : ByteArray × ByteArray) (w : World) : (binOp .neq 54 (.agg (hdA x.1 x.2)) (.agg (hdA x.1 x.2))).run Tryz.prog w = .ok (.bool false) w := by
  rw [run_neq_struct, eqPm]
  simp [Result.andThen]
theorem pm_neq_other {x y : ByteArray × ByteArray} (h : ¬ x = y) (w : World) : (binOp .neq 54 (.agg (hdA x.1 x.2)) (.agg (hdA y.1 y.2))).run Tryz.prog w = .ok (.bool true) w := by
  rw [run_neq_struct, eqPm]
  have e : (x.1.toList == y.1.toList && x.2.toList == y.2.toList) = false := by
    rw [Bool.and_eq_false_iff, beq_eq_false_iff_ne, beq_eq_false_iff_ne]
    by_cases h1 : x.1.toList = y.1.toList
    · by_cases h2 : x.2.toList = y.2.toList
      · exfalso
        obtain ⟨⟨a⟩, ⟨b⟩⟩ := x
        obtain ⟨⟨c⟩, ⟨d⟩⟩ := y
        simp only [ba_toList] at h1 h2
        have e1 : a = c := Array.toList_inj.1 h1
        have e2 : b = d := Array.toList_inj.1 h2
        exact h (by rw [e1, e2])
      · exact .inr h2
    · exact .inl h1
  rw [e]
  rfl
set_option maxRecDepth 100000 in
set_option maxHeartbeats 4000000 in
theorem params_eq {u v : Value} {l m : List (ByteArray × ByteArray)} {w : World} (hu : HdAt w u l) (hv : HdAt w v m) (hl : l.length ≤ 140737488355328) (hm : m.length ≤ 140737488355328) :
    Calls Tryz.prog 24 #[u, v] w fun e w' => e = .returned (.bool (decide (l = m))) ∧ Below w.heap.size w w' := by
  obtain ⟨uA, uc, rfl, _⟩ := id hu
  obtain ⟨vA, vc, rfl, _⟩ := id hv
  have HU := Lib.hid hu
  have HV := Lib.hid hv
  have HL := Lib.hid hl
  have HM := Lib.hid hm
  have HB := Below.refl w.heap.size w
  by_cases hlen : l.length = m.length
  · have hll : ((l.length : Int) == (m.length : Int)) = true := by rw [beq_iff_eq]; omega
    have HLE := Lib.hid hlen
    clear hu hv hl hm hlen
    go_enter Tryz.func24, Tryz.ntmps24
    go_wp2
    go_loopw [5] (fun iv wr => ∃ i : Nat, iv = .int .i64 (i : Int) ∧ i ≤ l.length ∧ Hid (∀ j x y, j < i → l[j]? = some x → m[j]? = some y → x = y) ∧ Below w.heap.size w wr) (fun iv _ => match iv with | .int _ i => (l.length - i.toNat) | _ => 0)
    case atStart => exact ⟨0, rfl, Nat.zero_le _, Lib.hid (fun j x y h => absurd h (Nat.not_lt_zero _)), HB⟩
    case round =>
      clear HB
      obtain ⟨i, rfl, hi, HEQ, HB⟩ := hrel
      have hl1 := HL.out
      by_cases hlt : i < l.length
      · obtain ⟨x, hx⟩ : ∃ x, l[i]? = some x := ⟨_, List.getElem?_eq_getElem hlt⟩
        have hltm : i < m.length := by have := HLE.out; omega
        obtain ⟨y, hy⟩ : ∃ y, m[i]? = some y := ⟨_, List.getElem?_eq_getElem hltm⟩
        obtain ⟨A2, c2, hv2, hcu⟩ := HU.out.below HB
        obtain ⟨gu, ou, hA2, e1, e2⟩ := hcu i x hx
        injection hv2 with v1 v2 v3
        clear v2 v3
        subst v1
        subst hA2
        obtain ⟨A3, c3, hv3, hcv⟩ := HV.out.below HB
        obtain ⟨gv, ov, hA3, e3, e4⟩ := hcv i y hy
        injection hv3 with v1 v2 v3
        clear v2 v3
        subst v1
        subst hA3
        clear hcu hcv
        have r1 : wr.rangeAt gu (ou + i * 2) (hdA x.1 x.2).toList := row_two e1 e2
        have r2 : wr.rangeAt gv (ov + i * 2) (hdA y.1 y.2).toList := row_two e3 e4
        clear e1 e2 e3 e4
        have HX := Lib.hid hx
        have HY := Lib.hid hy
        have hiI : (i : Int) < (l.length : Int) := by omega
        have hiJ : (i : Int) < (m.length : Int) := by omega
        clear hx hy
        by_cases hxy : x = y
        · subst hxy
          have HN : Hid (∀ j a b, j < i + 1 → l[j]? = some a → m[j]? = some b → a = b) := Lib.hid (fun j a b hj ha hb => by
            by_cases e : j = i
            · subst e
              rw [HX.out] at ha
              rw [HY.out] at hb
              exact (Option.some.inj ha).symm.trans (Option.some.inj hb)
            · exact HEQ.out j a b (by omega) ha hb)
          have HEQV : Hid (∀ w, (binOp .neq 54 (.agg (hdA x.1 x.2)) (.agg (hdA x.1 x.2))).run Tryz.prog w = .ok (.bool false) w) := Lib.hid (pm_neq_same x)
          go_wp2
          refine wp_region_S (S := fun w' => w'.rangeAt gu (ou + i * 2) (hdA x.1 x.2).toList ∧ w'.rangeAt gv (ov + i * 2) (hdA x.1 x.2).toList) (by kernel_rfl) (fun w2 hh => ⟨rangeAt_heap hh r1, rangeAt_heap hh r2⟩) (fun w2 hh hbb HS0 => ?_)
          replace HB := HB.trans ((hbb _ (Nat.le_refl _)).mono HB.size)
          clear hh hbb
          refine TKC 0 17 rfl ?_
          try simp only [Act.put, zA, zB, zC]
          refine TKC 1 18 rfl ?_
          try simp only [Act.put, zA, zB, zC]
          refine TKC 2 19 rfl ?_
          try simp only [Act.put, zA, zB, zC]
          refine TKY 3 20 rfl (yields_rowS (by kernel_rfl) 54 (.tmp 19) rfl gu (ou + i * 2) rfl (hdA x.1 x.2) _ (fun w' hS => hS.1) Tryz.underlying54 rfl info_pm2) ?_
          try simp only [Act.put, zA, zB, zC]
          refine TKC 4 21 rfl ?_
          try simp only [Act.put, zA, zB, zC]
          refine TKC 5 22 rfl ?_
          try simp only [Act.put, zA, zB, zC]
          refine TKC 6 23 rfl ?_
          try simp only [Act.put, zA, zB, zC]
          refine TKY 7 24 rfl (yields_rowS (by kernel_rfl) 54 (.tmp 23) rfl gv (ov + i * 2) rfl (hdA x.1 x.2) _ (fun w' hS => hS.2) Tryz.underlying54 rfl info_pm2) ?_
          try simp only [Act.put, zA, zB, zC]
          refine TKC 8 25 (v := .bool false) rfl ?_ (by (intro w hSw; (try dsimp only at hSw); have q1 := HEQV.out; have q2 := guardPm; go_simp; try with_reducible rfl))
          try simp only [Act.put, zA, zB, zC]
          refine wpAnyH_done (by kernel_rfl) ?_ _
          clear HS0
          go_wp2
          go_roundw
          case rel => first | exact ⟨i + 1, rfl, by omega, HN, HB⟩ | ((repeat apply Exists.intro); exact ⟨⟨i + 1, rfl, by omega, HN, HB⟩, rfl⟩)
          case measure => (simp only; omega)
        · have HF : Hid (decide (l = m) = false) := Lib.hid (by
            rw [decide_eq_false_iff_not]
            intro e
            have h1 := HX.out
            rw [e, HY.out] at h1
            exact hxy (Option.some.inj h1).symm)
          have HEQV : Hid (∀ w, (binOp .neq 54 (.agg (hdA x.1 x.2)) (.agg (hdA y.1 y.2))).run Tryz.prog w = .ok (.bool true) w) := Lib.hid (pm_neq_other hxy)
          go_wp2
          refine wp_region_S (S := fun w' => w'.rangeAt gu (ou + i * 2) (hdA x.1 x.2).toList ∧ w'.rangeAt gv (ov + i * 2) (hdA y.1 y.2).toList) (by kernel_rfl) (fun w2 hh => ⟨rangeAt_heap hh r1, rangeAt_heap hh r2⟩) (fun w2 hh hbb HS0 => ?_)
          replace HB := HB.trans ((hbb _ (Nat.le_refl _)).mono HB.size)
          clear hh hbb
          refine TKC 0 17 rfl ?_
          try simp only [Act.put, zA, zB, zC]
          refine TKC 1 18 rfl ?_
          try simp only [Act.put, zA, zB, zC]
          refine TKC 2 19 rfl ?_
          try simp only [Act.put, zA, zB, zC]
          refine TKY 3 20 rfl (yields_rowS (by kernel_rfl) 54 (.tmp 19) rfl gu (ou + i * 2) rfl (hdA x.1 x.2) _ (fun w' hS => hS.1) Tryz.underlying54 rfl info_pm2) ?_
          try simp only [Act.put, zA, zB, zC]
          refine TKC 4 21 rfl ?_
          try simp only [Act.put, zA, zB, zC]
          refine TKC 5 22 rfl ?_
          try simp only [Act.put, zA, zB, zC]
          refine TKC 6 23 rfl ?_
          try simp only [Act.put, zA, zB, zC]
          refine TKY 7 24 rfl (yields_rowS (by kernel_rfl) 54 (.tmp 23) rfl gv (ov + i * 2) rfl (hdA y.1 y.2) _ (fun w' hS => hS.2) Tryz.underlying54 rfl info_pm2) ?_
          try simp only [Act.put, zA, zB, zC]
          refine TKC 8 25 (v := .bool true) rfl ?_ (by (intro w hSw; (try dsimp only at hSw); have q1 := HEQV.out; have q2 := guardPm; go_simp; try with_reducible rfl))
          try simp only [Act.put, zA, zB, zC]
          refine wpAnyH_done (by kernel_rfl) ?_ _
          clear HS0
          go_wp2
          go_ret
          exact ⟨ret_bool HF.out.symm, HB⟩
      · obtain rfl : i = l.length := by omega
        have HF : Hid (decide (l = m) = true) := Lib.hid (by
          rw [decide_eq_true_eq]
          exact list_ext_take HLE.out (fun i x y h1 h2 => HEQ.out i x y (List.getElem?_eq_some_iff.1 h1).1 h1 h2))
        clear hlt hi
        go_wp2
        go_ret
        exact ⟨ret_bool HF.out.symm, HB⟩
  · have hll : ((l.length : Int) == (m.length : Int)) = false := by rw [beq_eq_false_iff_ne]; omega
    have HF : Hid (decide (l = m) = false) := Lib.hid (by
      rw [decide_eq_false_iff_not]
      intro e
      exact hlen (by rw [e]))
    clear hu hv hl hm hlen
    go_enter Tryz.func24, Tryz.ntmps24
    go_wp2
    go_ret
    exact ⟨ret_bool HF.out.symm, HB⟩
set_option maxRecDepth 100000 in
set_option maxHeartbeats 4000000 in
theorem texts_eq {u v : Value} {l m : List (ByteArray)} {w : World} (hu : TxAt w u l) (hv : TxAt w v m) (hl : l.length ≤ 140737488355328) (hm : m.length ≤ 140737488355328) :
    Calls Tryz.prog 23 #[u, v] w fun e w' => e = .returned (.bool (decide (l = m))) ∧ Below w.heap.size w w' := by
  obtain ⟨uA, uc, rfl, _⟩ := id hu
  obtain ⟨vA, vc, rfl, _⟩ := id hv
  have HU := Lib.hid hu
  have HV := Lib.hid hv
  have HL := Lib.hid hl
  have HM := Lib.hid hm
  have HB := Below.refl w.heap.size w
  by_cases hlen : l.length = m.length
  · have hll : ((l.length : Int) == (m.length : Int)) = true := by rw [beq_iff_eq]; omega
    have HLE := Lib.hid hlen
    clear hu hv hl hm hlen
    go_enter Tryz.func23, Tryz.ntmps23
    go_wp2
    go_loopw [5] (fun iv wr => ∃ i : Nat, iv = .int .i64 (i : Int) ∧ i ≤ l.length ∧ Hid (∀ j x y, j < i → l[j]? = some x → m[j]? = some y → x = y) ∧ Below w.heap.size w wr) (fun iv _ => match iv with | .int _ i => (l.length - i.toNat) | _ => 0)
    case atStart => exact ⟨0, rfl, Nat.zero_le _, Lib.hid (fun j x y h => absurd h (Nat.not_lt_zero _)), HB⟩
    case round =>
      clear HB
      obtain ⟨i, rfl, hi, HEQ, HB⟩ := hrel
      have hl1 := HL.out
      by_cases hlt : i < l.length
      · obtain ⟨x, hx⟩ : ∃ x, l[i]? = some x := ⟨_, List.getElem?_eq_getElem hlt⟩
        have hltm : i < m.length := by have := HLE.out; omega
        obtain ⟨y, hy⟩ : ∃ y, m[i]? = some y := ⟨_, List.getElem?_eq_getElem hltm⟩
        obtain ⟨A2, c2, hv2, hcu⟩ := HU.out.below HB
        obtain ⟨gu, ou, hA2, r1⟩ := hcu i x hx
        injection hv2 with v1 v2 v3
        clear v2 v3
        subst v1
        subst hA2
        obtain ⟨A3, c3, hv3, hcv⟩ := HV.out.below HB
        obtain ⟨gv, ov, hA3, r2⟩ := hcv i y hy
        injection hv3 with v1 v2 v3
        clear v2 v3
        subst v1
        subst hA3
        clear hcu hcv
        have HX := Lib.hid hx
        have HY := Lib.hid hy
        have hiI : (i : Int) < (l.length : Int) := by omega
        have hiJ : (i : Int) < (m.length : Int) := by omega
        clear hx hy
        by_cases hxy : x = y
        · subst hxy
          have HN : Hid (∀ j a b, j < i + 1 → l[j]? = some a → m[j]? = some b → a = b) := Lib.hid (fun j a b hj ha hb => by
            by_cases e : j = i
            · subst e
              rw [HX.out] at ha
              rw [HY.out] at hb
              exact (Option.some.inj ha).symm.trans (Option.some.inj hb)
            · exact HEQ.out j a b (by omega) ha hb)
          go_wp2
          refine wp_region_S (S := fun w' => w'.cell? ⟨gu, ou + i, none⟩ = some (.string x) ∧ w'.cell? ⟨gv, ov + i, none⟩ = some (.string x)) (by kernel_rfl) (fun w2 hh => ⟨cell_heap hh r1, cell_heap hh r2⟩) (fun w2 hh hbb HS0 => ?_)
          replace HB := HB.trans ((hbb _ (Nat.le_refl _)).mono HB.size)
          clear hh hbb
          refine TKC 0 17 rfl ?_
          try simp only [Act.put, zA, zB, zC]
          refine TKC 1 18 rfl ?_
          try simp only [Act.put, zA, zB, zC]
          refine TKC 2 19 rfl ?_
          try simp only [Act.put, zA, zB, zC]
          refine TKC 3 20 rfl ?_ (by (intro w hSw; (try dsimp only at hSw); have q1 := hSw.1; go_simp; try with_reducible rfl))
          try simp only [Act.put, zA, zB, zC]
          refine TKC 4 21 rfl ?_
          try simp only [Act.put, zA, zB, zC]
          refine TKC 5 22 rfl ?_
          try simp only [Act.put, zA, zB, zC]
          refine TKC 6 23 rfl ?_
          try simp only [Act.put, zA, zB, zC]
          refine TKC 7 24 rfl ?_ (by (intro w hSw; (try dsimp only at hSw); have q1 := hSw.2; go_simp; try with_reducible rfl))
          try simp only [Act.put, zA, zB, zC]
          refine TKC 8 25 (v := .bool false) rfl ?_
          try simp only [Act.put, zA, zB, zC]
          refine wpAnyH_done (by kernel_rfl) ?_ _
          clear HS0
          go_wp2
          go_roundw
          case rel => first | exact ⟨i + 1, rfl, by omega, HN, HB⟩ | ((repeat apply Exists.intro); exact ⟨⟨i + 1, rfl, by omega, HN, HB⟩, rfl⟩)
          case measure => (simp only; omega)
        · have HF : Hid (decide (l = m) = false) := Lib.hid (by
            rw [decide_eq_false_iff_not]
            intro e
            have h1 := HX.out
            rw [e, HY.out] at h1
            exact hxy (Option.some.inj h1).symm)
          have hne : (x.toList == y.toList) = false := by rw [ba_toList, ba_toList, beq_eq_false_iff_ne]; exact fun e => hxy (by cases x; cases y; simpa using e)
          go_wp2
          refine wp_region_S (S := fun w' => w'.cell? ⟨gu, ou + i, none⟩ = some (.string x) ∧ w'.cell? ⟨gv, ov + i, none⟩ = some (.string y)) (by kernel_rfl) (fun w2 hh => ⟨cell_heap hh r1, cell_heap hh r2⟩) (fun w2 hh hbb HS0 => ?_)
          replace HB := HB.trans ((hbb _ (Nat.le_refl _)).mono HB.size)
          clear hh hbb
          refine TKC 0 17 rfl ?_
          try simp only [Act.put, zA, zB, zC]
          refine TKC 1 18 rfl ?_
          try simp only [Act.put, zA, zB, zC]
          refine TKC 2 19 rfl ?_
          try simp only [Act.put, zA, zB, zC]
          refine TKC 3 20 rfl ?_ (by (intro w hSw; (try dsimp only at hSw); have q1 := hSw.1; go_simp; try with_reducible rfl))
          try simp only [Act.put, zA, zB, zC]
          refine TKC 4 21 rfl ?_
          try simp only [Act.put, zA, zB, zC]
          refine TKC 5 22 rfl ?_
          try simp only [Act.put, zA, zB, zC]
          refine TKC 6 23 rfl ?_
          try simp only [Act.put, zA, zB, zC]
          refine TKC 7 24 rfl ?_ (by (intro w hSw; (try dsimp only at hSw); have q1 := hSw.2; go_simp; try with_reducible rfl))
          try simp only [Act.put, zA, zB, zC]
          refine TKC 8 25 (v := .bool true) rfl ?_
          try simp only [Act.put, zA, zB, zC]
          refine wpAnyH_done (by kernel_rfl) ?_ _
          clear HS0
          go_wp2
          go_ret
          exact ⟨ret_bool HF.out.symm, HB⟩
      · obtain rfl : i = l.length := by omega
        have HF : Hid (decide (l = m) = true) := Lib.hid (by
          rw [decide_eq_true_eq]
          exact list_ext_take HLE.out (fun i x y h1 h2 => HEQ.out i x y (List.getElem?_eq_some_iff.1 h1).1 h1 h2))
        clear hlt hi
        go_wp2
        go_ret
        exact ⟨ret_bool HF.out.symm, HB⟩
  · have hll : ((l.length : Int) == (m.length : Int)) = false := by rw [beq_eq_false_iff_ne]; omega
    have HF : Hid (decide (l = m) = false) := Lib.hid (by
      rw [decide_eq_false_iff_not]
      intro e
      exact hlen (by rw [e]))
    clear hu hv hl hm hlen
    go_enter Tryz.func23, Tryz.ntmps23
    go_wp2
    go_ret
    exact ⟨ret_bool HF.out.symm, HB⟩
end Go.Proofs.YtbehakabglegjaaGreatDoor
