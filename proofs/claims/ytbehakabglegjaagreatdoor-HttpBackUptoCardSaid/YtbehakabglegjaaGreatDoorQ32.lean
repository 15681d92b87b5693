/- Layer 9: the document's fits: may a header be written? Layer 9: the document's start: a message's first line. -/
import Derived.Test.YtbehakabglegjaaGreatDoorQ31
import Derived.Test.YtbehakabglegjaaGreatDoorQ25
namespace Go.Proofs.YtbehakabglegjaaGreatDoor
open Go.RowKit Go.PlainAid
set_option linter.unusedVariables false
set_option linter.unusedSimpArgs false
theorem op_conv_own {o : Oper} {a : Act} {w : World} {Q : Exit → Act → World → Prop} {K : Act → World → Prop} (x : Operand) (ho : o.op = .convert 9 23 x) (s : ByteArray) (hx : a.eval x = .string s) (hs : s.size ≤ maxLen)
    (hQ : ∀ w' v, OwnM w' w.heap.size v s.data.toList → Below w.heap.size w w' → K (a.put o.dst v) w') : o.wp Tryz.prog a w K Q := by
  have e := Lib.run_convert_string_bytes (P := Tryz.prog) w 9 23 5 s Tryz.underlying9 Tryz.underlying23 Tryz.underlying5
  have hr := OwnM.conv w s hs
  have hb : Below w.heap.size w (Lib.bytesWorld w 5 s) := Lib.bytesWorld_below w 5 s
  generalize Lib.bytesWorld w 5 s = w9 at *
  generalize hP : Tryz.prog = P at *
  unfold Oper.wp execOp
  simp only [ho, hx, Sem.run_bind, e, Result.andThen_ok, Sem.run_pure]
  exact hQ w9 _ hr hb
theorem OwnM.bt {w : World} {base : Nat} {v : Value} {l : List UInt8} (h : OwnM w base v l) : BtAt w v l := by
  rcases h with h | ⟨g, cap, cur, fz, rfl, _, hg, _, _, _, hs, ht⟩
  · exact bt_own h
  · refine ⟨_, _, rfl, fun i u hu => ⟨g, 0, rfl, ?_⟩⟩
    rw [Nat.zero_add, Lib.cell_of_heap hg]
    have h1 : (Lib.byteCells l)[i]? = some (.int .u8 (u.toNat : Int)) := by
      unfold Lib.byteCells
      rw [List.getElem?_map, hu]; rfl
    rw [← ht, List.getElem?_take] at h1
    split at h1
    · simpa using h1
    · cases h1
def fitR (pn pv : ByteArray) : Bool := (((((bl pn).all isNameB && (bl pv).all isValueB) && (txt (trimL (bl pv))).toList == pv.toList) && !(txt (lowL (bl pn))).toList.isEmpty) && !((txt (lowL (bl pn))).toList == [116, 114, 97, 110, 115, 102, 101, 114, 45, 101, 110, 99, 111, 100, 105, 110, 103])) && !((txt (lowL (bl pn))).toList == [99, 111, 110, 116, 101, 110, 116, 45, 108, 101, 110, 103, 116, 104])
theorem low_coding : lowL codingL = [116, 114, 97, 110, 115, 102, 101, 114, 45, 101, 110, 99, 111, 100, 105, 110, 103] := by decide +kernel
theorem low_length : lowL lengthL = [99, 111, 110, 116, 101, 110, 116, 45, 108, 101, 110, 103, 116, 104] := by decide +kernel
theorem fitR_is (pn pv : ByteArray) : fitR pn pv = fitB (pn, pv) := by
  rw [fitB_eq]
  unfold fitR alikeB
  rw [low_coding, low_length]
  have e1 : (txt (lowL (bl pn))).toList = lowL (bl pn) := by rw [ba_toList]; rfl
  have e2 : ((txt (trimL (bl pv))).toList == pv.toList) = (trimL (bl pv) == bl pv) := by rw [ba_toList, ba_toList]; rfl
  have e3 : (lowL (bl pn)).isEmpty = !decide (pn.size ≠ 0) := by
    have : (lowL (bl pn)).length = pn.size := by unfold lowL; rw [List.length_map]; rfl
    cases hh : lowL (bl pn) with
    | nil =>
      have h0 : pn.size = 0 := by rw [hh] at this; exact this.symm
      rw [decide_eq_false (by omega)]
      rfl
    | cons a r =>
      have h0 : r.length + 1 = pn.size := by rw [hh] at this; exact this
      rw [decide_eq_true (by omega)]
      rfl
  rw [e1, e2, e3]
  cases decide (pn.size ≠ 0) <;> cases (bl pn).all isNameB <;> cases (bl pv).all isValueB <;> cases (trimL (bl pv) == bl pv) <;> simp
set_option maxRecDepth 100000 in
set_option maxHeartbeats 8000000 in
theorem fits_any {pn pv : ByteArray} {w : World} (h1 : pn.size ≤ 140737488355328) (h2 : pv.size ≤ 140737488355328) : Calls Tryz.prog 39 #[.agg (hdA pn pv)] w fun e w' => e = .returned (.bool (fitB (pn, pv))) ∧ Below w.heap.size w w' := by
  have hfit := fitR_is pn pv
  have HLW : Hid (∀ w, Calls Tryz.prog 43 #[.string pn] w fun e w' => e = .returned (.string (txt (lowL (bl pn)))) ∧ Below w.heap.size w w') := Lib.hid fun w => rlower_any pn w h1
  have HA1 : Hid (∀ w, Calls Tryz.prog 68 #[.string pn, .int .i64 1] w fun e w' => e = .returned (.bool ((bl pn).all isNameB)) ∧ w = w') := Lib.hid fun w => all1_any pn w (by omega)
  have HA2 : Hid (∀ w, Calls Tryz.prog 68 #[.string pv, .int .i64 2] w fun e w' => e = .returned (.bool ((bl pv).all isValueB)) ∧ w = w') := Lib.hid fun w => all2_any pv w (by omega)
  have HTR : Hid (∀ A c w, BtAt w (.slice A (bl pv).length c) (bl pv) → (bl pv).length ≤ c → Calls Tryz.prog 69 #[.slice A pv.size c] w fun e w' => e = .returned (.string (txt (trimL (bl pv)))) ∧ w = w') := Lib.hid fun A c w hb hc => trimmed_any hb (show pv.size ≤ _ from h2) hc
  unfold fitR at hfit
  have HMX : Hid (pv.size ≤ maxLen) := Lib.hid (by unfold maxLen; omega)
  generalize (bl pn).all isNameB = b1 at HA1 hfit
  generalize (bl pv).all isValueB = b2 at HA2 hfit
  generalize txt (lowL (bl pn)) = lo at HLW hfit
  generalize txt (trimL (bl pv)) = tr at HTR hfit
  generalize hq3 : (tr.toList == pv.toList) = b3 at hfit
  generalize hq4 : lo.toList.isEmpty = b4 at hfit
  generalize hq5 : (lo.toList == [116, 114, 97, 110, 115, 102, 101, 114, 45, 101, 110, 99, 111, 100, 105, 110, 103]) = b5 at hfit
  generalize hq6 : (lo.toList == [99, 111, 110, 116, 101, 110, 116, 45, 108, 101, 110, 103, 116, 104]) = b6 at hfit
  have HF := Lib.hid hfit
  clear hfit h1 h2
  go_enter Tryz.func39, Tryz.ntmps39
  go_wp2_with (first
    | (refine wpl_box_at rfl 51 (.tmp 0) rfl _ rfl ?_; intro w1 hw; have B1 := hid_alloc0 hw; have HB := hid_grow hw; clear hw; have c0 : w1.cell? ⟨w.heap.size, 0, none⟩ = some (.string pn) := B1.cell 0; have c1 : w1.cell? ⟨w.heap.size, 1, none⟩ = some (.string pv) := B1.cell 1)
    | (go_at_call 43; (with_reducible refine (HLW.out _).mono ?_); rintro e w2 ⟨rfl, hb⟩; replace B1 := IBox.below B1 hb (IBox.lt B1); replace HB := HB.trans (hb.mono HB.size); clear hb c0 c1; have c0 : w2.cell? ⟨w.heap.size, 0, none⟩ = some (.string pn) := B1.cell 0; have c1 : w2.cell? ⟨w.heap.size, 1, none⟩ = some (.string pv) := B1.cell 1)
    | (go_at_call 68; (with_reducible refine (HA1.out _).mono ?_); rintro e w3 ⟨rfl, rfl⟩)
    | (go_at_call 68; (with_reducible refine (HA2.out _).mono ?_); rintro e w3 ⟨rfl, rfl⟩))
  refine wp_region_S (S := fun w' => w'.cell? ⟨w.heap.size, 0, none⟩ = some (.string pn) ∧ w'.cell? ⟨w.heap.size, 1, none⟩ = some (.string pv)) (by kernel_rfl) (fun w5 hh => ⟨(box_heap hh B1).cell 0, (box_heap hh B1).cell 1⟩) (fun w5 hh hbb HS0 => ?_)
  replace HB := HB.trans ((hbb _ (Nat.le_refl _)).mono HB.size)
  replace B1 := box_heap hh B1
  clear hh hbb c0 c1
  refine TKC 0 16 rfl ?_
  try simp only [Act.put, zA, zB, zC]
  refine TKC 1 17 rfl ?_ (by (intro w hSw; (try dsimp only at hSw); have q1 := hSw.2; go_simp; try with_reducible rfl))
  try simp only [Act.put, zA, zB, zC]
  refine TKC 4 20 rfl ?_
  try simp only [Act.put, zA, zB, zC]
  refine TKC 5 21 rfl ?_ (by (intro w hSw; (try dsimp only at hSw); have q1 := hSw.2; go_simp; try with_reducible rfl))
  try simp only [Act.put, zA, zB, zC]
  refine wpAnyH_ready (rs := [2]) (by kernel_rfl) (by simp) ?_
  refine AllReadyH.cons (o := ⟨some 18, _, _, _, _, _⟩) rfl (fun K hK => ?_) AllReadyH.nil
  simp only [Region.wanted, if_true]
  refine op_conv_own _ rfl pv rfl HMX.out ?_
  intro w6 rv ho hb
  obtain ⟨rA, rc, rfl⟩ := ho.slice
  have HBT : BtAt w6 (.slice rA (bl pv).length rc) (bl pv) := OwnM.bt ho
  have HCC : (bl pv).length ≤ rc := OwnM.cap ho
  replace B1 := IBox.below B1 hb (IBox.lt B1)
  replace HB := HB.trans (hb.mono HB.size)
  clear ho hb
  replace HS0 : w6.cell? ⟨w.heap.size, 0, none⟩ = some (.string pn) ∧ w6.cell? ⟨w.heap.size, 1, none⟩ = some (.string pv) := ⟨B1.cell 0, B1.cell 1⟩
  refine hK.out _ _ HS0 (fun hS2 => ?_)
  clear hK K hS2
  try simp only [Act.put, zA, zB, zC]
  refine wpAnyH_ready (rs := [3]) (by kernel_rfl) (by simp) ?_
  refine AllReadyH.cons (o := ⟨some 19, _, _, _, _, _⟩) rfl (fun K hK => ?_) AllReadyH.nil
  go_simp
  (go_at_call 69; (with_reducible refine (HTR.out _ _ _ HBT HCC).mono ?_); rintro e w7 ⟨rfl, rfl⟩)
  refine hK.out _ _ HS0 (fun hS2 => ?_)
  clear hK K hS2
  try simp only [Act.put, zA, zB, zC]
  refine TKC 6 22 (v := .bool b3) rfl ?_
  try simp only [Act.put, zA, zB, zC]
  refine TKC 7 6 rfl ?_
  try simp only [Act.put, zA, zB, zC]
  refine wpAnyH_done (by kernel_rfl) ?_ _
  clear HS0
  cases b1 <;> cases b2 <;> cases b3 <;> cases b4 <;> cases b5 <;> cases b6
  all_goals
    go_wp2
    go_ret
    exact ⟨by rw [← HF.out]; rfl, HB⟩
end Go.Proofs.YtbehakabglegjaaGreatDoor
namespace Go.Proofs.YtbehakabglegjaaGreatDoor
open Go.RowKit Go.PlainAid
set_option linter.unusedVariables false
set_option linter.unusedSimpArgs false
theorem line_req (me ta : ByteArray) : ((me ++ (⟨#[32]⟩ : ByteArray)) ++ ta) ++ (⟨#[32, 72, 84, 84, 80, 47, 49, 46, 49, 13, 10]⟩ : ByteArray) = txt (bl me ++ 32 :: bl ta ++ 32 :: protoL ++ crlf) := by
  apply ext_bytes
  simp only [ByteArray.data_append, Array.toList_append]
  show bl me ++ [32] ++ bl ta ++ (32 :: (protoL ++ crlf)) = bl me ++ 32 :: bl ta ++ 32 :: protoL ++ crlf
  simp
set_option maxRecDepth 100000 in
set_option maxHeartbeats 16000000 in
theorem rstart_req {me ta re : ByteArray} {sn : Int} {hs bd : Value} {w : World} (hs1 : me.size ≤ 1099511627776) (hs2 : ta.size ≤ 1099511627776) (hm0 : me.size ≠ 0) :
    Calls Tryz.prog 38 #[.agg #[.string me, .string ta, .int .i64 sn, .string re, hs, bd]] w fun e w' => e = .returned (.tuple #[.string (txt (startL ⟨me, ta, sn, re, [], []⟩ ++ crlf)), .bool (startB ⟨me, ta, sn, re, [], []⟩)]) ∧ Below w.heap.size w w' := by
  have hL : startL ⟨me, ta, sn, re, [], []⟩ ++ crlf = bl me ++ 32 :: bl ta ++ 32 :: protoL ++ crlf := by unfold startL; rw [if_pos hm0]
  have hB : startB ⟨me, ta, sn, re, [], []⟩ = (((decide (me.size ≤ 16) && (bl me).all isUpB) && ((decide (ta.size ≠ 0) && decide (ta.size ≤ 2048)) && (bl ta).all isSeenB)) && (decide (sn = 0) && decide (re.size = 0))) := by unfold startB; rw [if_pos hm0]
  rw [hL, hB, ← line_req]
  have HA1 : Hid (∀ w, Calls Tryz.prog 68 #[.string me, .int .i64 3] w fun e w' => e = .returned (.bool ((bl me).all isUpB)) ∧ w = w') := Lib.hid fun w => all3_any me w (by omega)
  have HA2 : Hid (∀ w, Calls Tryz.prog 68 #[.string ta, .int .i64 0] w fun e w' => e = .returned (.bool ((bl ta).all isSeenB)) ∧ w = w') := Lib.hid fun w => all0_any ta w (by omega)
  generalize (bl me).all isUpB = b1 at HA1
  generalize (bl ta).all isSeenB = b2 at HA2
  have hne := ne_empty hm0
  have n1 : ¬ 9223372036854775807 < me.size + 1 := by omega
  have n2 : ¬ 9223372036854775807 < me.size + 1 + ta.size := by omega
  have n3 : ¬ 9223372036854775807 < me.size + 1 + ta.size + 11 := by omega
  clear hL hB hs1 hs2 hm0
  have H : ¬ me.size ≤ 16 ∨ (me.size ≤ 16 ∧ b1 = false) ∨ (me.size ≤ 16 ∧ b1 = true ∧ ta.size = 0) ∨ (me.size ≤ 16 ∧ b1 = true ∧ ta.size ≠ 0 ∧ ¬ ta.size ≤ 2048) ∨ (me.size ≤ 16 ∧ b1 = true ∧ ta.size ≠ 0 ∧ ta.size ≤ 2048 ∧ b2 = false) ∨ (me.size ≤ 16 ∧ b1 = true ∧ ta.size ≠ 0 ∧ ta.size ≤ 2048 ∧ b2 = true ∧ sn ≠ 0) ∨ (me.size ≤ 16 ∧ b1 = true ∧ ta.size ≠ 0 ∧ ta.size ≤ 2048 ∧ b2 = true ∧ sn = 0 ∧ re.size ≠ 0) ∨ (me.size ≤ 16 ∧ b1 = true ∧ ta.size ≠ 0 ∧ ta.size ≤ 2048 ∧ b2 = true ∧ sn = 0 ∧ re.size = 0) := by
    by_cases c1 : me.size ≤ 16 <;> by_cases c2 : ta.size = 0 <;> by_cases c3 : ta.size ≤ 2048 <;> by_cases c4 : sn = 0 <;> by_cases c5 : re.size = 0 <;> cases b1 <;> cases b2 <;> simp [c1, c2, c3, c4, c5]
  rcases H with c1 | ⟨c1, rfl⟩ | ⟨c1, rfl, c2⟩ | ⟨c1, rfl, c2, c3⟩ | ⟨c1, rfl, c2, c3, rfl⟩ | ⟨c1, rfl, c2, c3, rfl, c4⟩ | ⟨c1, rfl, c2, c3, rfl, c4, c5⟩ | ⟨c1, rfl, c2, c3, rfl, c4, c5⟩
  · -- case 0
    generalize hr : (((decide (me.size ≤ 16) && b1) && ((decide (ta.size ≠ 0) && decide (ta.size ≤ 2048)) && b2)) && (decide (sn = 0) && decide (re.size = 0))) = r
    have hr2 : r = false := by rw [← hr]; simp [c1]
    clear hr
    subst hr2
    have e1 : ¬ (me.size : Int) ≤ 16 := by omega
    clear c1
    go_enter Tryz.func38, Tryz.ntmps38
    go_wp2_with (first
      | (refine wpl_box_at rfl 25 (.tmp 0) rfl _ rfl ?_; intro w1 hw; have B1 := hid_alloc0 hw; have HB := hid_grow hw; clear hw; have m0 : w1.cell? ⟨w.heap.size, 0, none⟩ = some (.string me) := B1.cell 0; have m1 : w1.cell? ⟨w.heap.size, 1, none⟩ = some (.string ta) := B1.cell 1; have m2 : w1.cell? ⟨w.heap.size, 2, none⟩ = some (.int .i64 sn) := B1.cell 2; have m3 : w1.cell? ⟨w.heap.size, 3, none⟩ = some (.string re) := B1.cell 3)
      | (go_at_call 68; (with_reducible refine (HA1.out _).mono ?_); rintro e w3 ⟨rfl, rfl⟩)
      | (go_at_call 68; (with_reducible refine (HA2.out _).mono ?_); rintro e w3 ⟨rfl, rfl⟩))
    all_goals
      go_ret2
      exact ⟨rfl, HB⟩
  · -- case 1
    generalize hr : (((decide (me.size ≤ 16) && false) && ((decide (ta.size ≠ 0) && decide (ta.size ≤ 2048)) && b2)) && (decide (sn = 0) && decide (re.size = 0))) = r
    have hr2 : r = false := by rw [← hr]; simp [c1]
    clear hr
    subst hr2
    have e1 : (me.size : Int) ≤ 16 := by omega
    clear c1
    go_enter Tryz.func38, Tryz.ntmps38
    go_wp2_with (first
      | (refine wpl_box_at rfl 25 (.tmp 0) rfl _ rfl ?_; intro w1 hw; have B1 := hid_alloc0 hw; have HB := hid_grow hw; clear hw; have m0 : w1.cell? ⟨w.heap.size, 0, none⟩ = some (.string me) := B1.cell 0; have m1 : w1.cell? ⟨w.heap.size, 1, none⟩ = some (.string ta) := B1.cell 1; have m2 : w1.cell? ⟨w.heap.size, 2, none⟩ = some (.int .i64 sn) := B1.cell 2; have m3 : w1.cell? ⟨w.heap.size, 3, none⟩ = some (.string re) := B1.cell 3)
      | (go_at_call 68; (with_reducible refine (HA1.out _).mono ?_); rintro e w3 ⟨rfl, rfl⟩)
      | (go_at_call 68; (with_reducible refine (HA2.out _).mono ?_); rintro e w3 ⟨rfl, rfl⟩))
    all_goals
      go_ret2
      exact ⟨rfl, HB⟩
  · -- case 2
    generalize hr : (((decide (me.size ≤ 16) && true) && ((decide (ta.size ≠ 0) && decide (ta.size ≤ 2048)) && b2)) && (decide (sn = 0) && decide (re.size = 0))) = r
    have hr2 : r = false := by rw [← hr]; simp [c1, c2]
    clear hr
    subst hr2
    have e1 : (me.size : Int) ≤ 16 := by omega
    have e2 := is_empty c2
    clear c1 c2
    go_enter Tryz.func38, Tryz.ntmps38
    go_wp2_with (first
      | (refine wpl_box_at rfl 25 (.tmp 0) rfl _ rfl ?_; intro w1 hw; have B1 := hid_alloc0 hw; have HB := hid_grow hw; clear hw; have m0 : w1.cell? ⟨w.heap.size, 0, none⟩ = some (.string me) := B1.cell 0; have m1 : w1.cell? ⟨w.heap.size, 1, none⟩ = some (.string ta) := B1.cell 1; have m2 : w1.cell? ⟨w.heap.size, 2, none⟩ = some (.int .i64 sn) := B1.cell 2; have m3 : w1.cell? ⟨w.heap.size, 3, none⟩ = some (.string re) := B1.cell 3)
      | (go_at_call 68; (with_reducible refine (HA1.out _).mono ?_); rintro e w3 ⟨rfl, rfl⟩)
      | (go_at_call 68; (with_reducible refine (HA2.out _).mono ?_); rintro e w3 ⟨rfl, rfl⟩))
    all_goals
      go_ret2
      exact ⟨rfl, HB⟩
  · -- case 3
    generalize hr : (((decide (me.size ≤ 16) && true) && ((decide (ta.size ≠ 0) && decide (ta.size ≤ 2048)) && b2)) && (decide (sn = 0) && decide (re.size = 0))) = r
    have hr2 : r = false := by rw [← hr]; simp [c1, c2, c3]
    clear hr
    subst hr2
    have e1 : (me.size : Int) ≤ 16 := by omega
    have e2 := ne_empty c2
    have e3 : ¬ (ta.size : Int) ≤ 2048 := by omega
    clear c1 c2 c3
    go_enter Tryz.func38, Tryz.ntmps38
    go_wp2_with (first
      | (refine wpl_box_at rfl 25 (.tmp 0) rfl _ rfl ?_; intro w1 hw; have B1 := hid_alloc0 hw; have HB := hid_grow hw; clear hw; have m0 : w1.cell? ⟨w.heap.size, 0, none⟩ = some (.string me) := B1.cell 0; have m1 : w1.cell? ⟨w.heap.size, 1, none⟩ = some (.string ta) := B1.cell 1; have m2 : w1.cell? ⟨w.heap.size, 2, none⟩ = some (.int .i64 sn) := B1.cell 2; have m3 : w1.cell? ⟨w.heap.size, 3, none⟩ = some (.string re) := B1.cell 3)
      | (go_at_call 68; (with_reducible refine (HA1.out _).mono ?_); rintro e w3 ⟨rfl, rfl⟩)
      | (go_at_call 68; (with_reducible refine (HA2.out _).mono ?_); rintro e w3 ⟨rfl, rfl⟩))
    all_goals
      go_ret2
      exact ⟨rfl, HB⟩
  · -- case 4
    generalize hr : (((decide (me.size ≤ 16) && true) && ((decide (ta.size ≠ 0) && decide (ta.size ≤ 2048)) && false)) && (decide (sn = 0) && decide (re.size = 0))) = r
    have hr2 : r = false := by rw [← hr]; simp [c1, c2, c3]
    clear hr
    subst hr2
    have e1 : (me.size : Int) ≤ 16 := by omega
    have e2 := ne_empty c2
    have e3 : (ta.size : Int) ≤ 2048 := by omega
    clear c1 c2 c3
    go_enter Tryz.func38, Tryz.ntmps38
    go_wp2_with (first
      | (refine wpl_box_at rfl 25 (.tmp 0) rfl _ rfl ?_; intro w1 hw; have B1 := hid_alloc0 hw; have HB := hid_grow hw; clear hw; have m0 : w1.cell? ⟨w.heap.size, 0, none⟩ = some (.string me) := B1.cell 0; have m1 : w1.cell? ⟨w.heap.size, 1, none⟩ = some (.string ta) := B1.cell 1; have m2 : w1.cell? ⟨w.heap.size, 2, none⟩ = some (.int .i64 sn) := B1.cell 2; have m3 : w1.cell? ⟨w.heap.size, 3, none⟩ = some (.string re) := B1.cell 3)
      | (go_at_call 68; (with_reducible refine (HA1.out _).mono ?_); rintro e w3 ⟨rfl, rfl⟩)
      | (go_at_call 68; (with_reducible refine (HA2.out _).mono ?_); rintro e w3 ⟨rfl, rfl⟩))
    all_goals
      go_ret2
      exact ⟨rfl, HB⟩
  · -- case 5
    generalize hr : (((decide (me.size ≤ 16) && true) && ((decide (ta.size ≠ 0) && decide (ta.size ≤ 2048)) && true)) && (decide (sn = 0) && decide (re.size = 0))) = r
    have hr2 : r = false := by rw [← hr]; simp [c1, c2, c3, c4]
    clear hr
    subst hr2
    have e1 : (me.size : Int) ≤ 16 := by omega
    have e2 := ne_empty c2
    have e3 : (ta.size : Int) ≤ 2048 := by omega
    have e4 : (sn == 0) = false := by simpa using c4
    clear c1 c2 c3 c4
    go_enter Tryz.func38, Tryz.ntmps38
    go_wp2_with (first
      | (refine wpl_box_at rfl 25 (.tmp 0) rfl _ rfl ?_; intro w1 hw; have B1 := hid_alloc0 hw; have HB := hid_grow hw; clear hw; have m0 : w1.cell? ⟨w.heap.size, 0, none⟩ = some (.string me) := B1.cell 0; have m1 : w1.cell? ⟨w.heap.size, 1, none⟩ = some (.string ta) := B1.cell 1; have m2 : w1.cell? ⟨w.heap.size, 2, none⟩ = some (.int .i64 sn) := B1.cell 2; have m3 : w1.cell? ⟨w.heap.size, 3, none⟩ = some (.string re) := B1.cell 3)
      | (go_at_call 68; (with_reducible refine (HA1.out _).mono ?_); rintro e w3 ⟨rfl, rfl⟩)
      | (go_at_call 68; (with_reducible refine (HA2.out _).mono ?_); rintro e w3 ⟨rfl, rfl⟩))
    all_goals
      go_ret2
      exact ⟨rfl, HB⟩
  · -- case 6
    generalize hr : (((decide (me.size ≤ 16) && true) && ((decide (ta.size ≠ 0) && decide (ta.size ≤ 2048)) && true)) && (decide (sn = 0) && decide (re.size = 0))) = r
    have hr2 : r = false := by rw [← hr]; simp [c1, c2, c3, c4, c5]
    clear hr
    subst hr2
    have e1 : (me.size : Int) ≤ 16 := by omega
    have e2 := ne_empty c2
    have e3 : (ta.size : Int) ≤ 2048 := by omega
    have e4 : (sn == 0) = true := by rw [c4]; rfl
    have e5 := ne_empty c5
    clear c1 c2 c3 c4 c5
    go_enter Tryz.func38, Tryz.ntmps38
    go_wp2_with (first
      | (refine wpl_box_at rfl 25 (.tmp 0) rfl _ rfl ?_; intro w1 hw; have B1 := hid_alloc0 hw; have HB := hid_grow hw; clear hw; have m0 : w1.cell? ⟨w.heap.size, 0, none⟩ = some (.string me) := B1.cell 0; have m1 : w1.cell? ⟨w.heap.size, 1, none⟩ = some (.string ta) := B1.cell 1; have m2 : w1.cell? ⟨w.heap.size, 2, none⟩ = some (.int .i64 sn) := B1.cell 2; have m3 : w1.cell? ⟨w.heap.size, 3, none⟩ = some (.string re) := B1.cell 3)
      | (go_at_call 68; (with_reducible refine (HA1.out _).mono ?_); rintro e w3 ⟨rfl, rfl⟩)
      | (go_at_call 68; (with_reducible refine (HA2.out _).mono ?_); rintro e w3 ⟨rfl, rfl⟩))
    all_goals
      go_ret2
      exact ⟨rfl, HB⟩
  · -- case 7
    generalize hr : (((decide (me.size ≤ 16) && true) && ((decide (ta.size ≠ 0) && decide (ta.size ≤ 2048)) && true)) && (decide (sn = 0) && decide (re.size = 0))) = r
    have hr2 : r = true := by rw [← hr]; simp [c1, c2, c3, c4, c5]
    clear hr
    subst hr2
    have e1 : (me.size : Int) ≤ 16 := by omega
    have e2 := ne_empty c2
    have e3 : (ta.size : Int) ≤ 2048 := by omega
    have e4 : (sn == 0) = true := by rw [c4]; rfl
    have e5 := is_empty c5
    clear c1 c2 c3 c4 c5
    go_enter Tryz.func38, Tryz.ntmps38
    go_wp2_with (first
      | (refine wpl_box_at rfl 25 (.tmp 0) rfl _ rfl ?_; intro w1 hw; have B1 := hid_alloc0 hw; have HB := hid_grow hw; clear hw; have m0 : w1.cell? ⟨w.heap.size, 0, none⟩ = some (.string me) := B1.cell 0; have m1 : w1.cell? ⟨w.heap.size, 1, none⟩ = some (.string ta) := B1.cell 1; have m2 : w1.cell? ⟨w.heap.size, 2, none⟩ = some (.int .i64 sn) := B1.cell 2; have m3 : w1.cell? ⟨w.heap.size, 3, none⟩ = some (.string re) := B1.cell 3)
      | (go_at_call 68; (with_reducible refine (HA1.out _).mono ?_); rintro e w3 ⟨rfl, rfl⟩)
      | (go_at_call 68; (with_reducible refine (HA2.out _).mono ?_); rintro e w3 ⟨rfl, rfl⟩))
    all_goals
      go_ret2
      exact ⟨rfl, HB⟩
end Go.Proofs.YtbehakabglegjaaGreatDoor
