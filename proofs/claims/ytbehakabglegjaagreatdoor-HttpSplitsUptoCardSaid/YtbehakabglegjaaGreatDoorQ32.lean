/- Layer 9: the document's start: an answer's first line. An error's number. The frame of a law's statement: a row's post, where the call only laid new blocks. -/
import Derived.Test.YtbehakabglegjaaGreatDoorQ31
import Derived.OpenShut
import Derived.ShutString
import Derived.HandedShaped
import Derived.Test.YtbehakabglegjaaGreatDoorQ00
namespace Go.Proofs.YtbehakabglegjaaGreatDoor
open Go.RowKit Go.PlainAid
set_option linter.unusedVariables false
set_option linter.unusedSimpArgs false
theorem line_ans (n : Nat) (re : ByteArray) : (((⟨#[72, 84, 84, 80, 47, 49, 46, 49, 32]⟩ : ByteArray) ++ txt (Lib.itoa (n : Int)) ++ (⟨#[32]⟩ : ByteArray)) ++ re) ++ (⟨#[13, 10]⟩ : ByteArray) = txt (protoL ++ 32 :: Lib.itoa (n : Int) ++ 32 :: bl re ++ crlf) := by
  apply ext_bytes
  simp only [ByteArray.data_append, Array.toList_append]
  show (protoL ++ [32]) ++ Lib.itoa (n : Int) ++ [32] ++ bl re ++ crlf = protoL ++ 32 :: Lib.itoa (n : Int) ++ 32 :: bl re ++ crlf
  simp
set_option maxRecDepth 100000 in
set_option maxHeartbeats 16000000 in
theorem rstart_ans {me ta re : ByteArray} {n : Nat} {hs bd : Value} {w : World} (hs1 : re.size ≤ 1099511627776) (hn : n ≤ 9223372036854775807) (hn1 : 100 ≤ n) (hm0 : me.size = 0) :
    Calls Tryz.prog 38 #[.agg #[.string me, .string ta, .int .i64 (n : Int), .string re, hs, bd]] w fun e w' => e = .returned (.tuple #[.string (txt (startL ⟨me, ta, n, re, [], []⟩ ++ crlf)), .bool (startB ⟨me, ta, n, re, [], []⟩)]) ∧ Below w.heap.size w w' := by
  have hL : startL ⟨me, ta, n, re, [], []⟩ ++ crlf = protoL ++ 32 :: Lib.itoa (n : Int) ++ 32 :: bl re ++ crlf := by unfold startL; rw [if_neg (by simpa using hm0)]
  have hB : startB ⟨me, ta, n, re, [], []⟩ = ((decide (ta.size = 0) && (decide (100 ≤ (n : Int)) && decide ((n : Int) ≤ 599))) && (bl re).all isTextB) := by unfold startB; rw [if_neg (by simpa using hm0)]
  rw [hL, hB, ← line_ans]
  have HA1 : Hid (∀ w, Calls Tryz.prog 68 #[.string re, .int .i64 4] w fun e w' => e = .returned (.bool ((bl re).all isTextB)) ∧ w = w') := Lib.hid fun w => all4_any re w (by omega)
  have HD : Hid (∀ w, Calls Tryz.prog 40 #[.int .i64 (n : Int)] w fun e w' => e = .returned (.string (txt (Lib.itoa (n : Int)))) ∧ Below w.heap.size w w') := Lib.hid fun w => decimal_any hn
  have hlen : (txt (Lib.itoa (n : Int))).size ≤ 64 := by
    have := itoa_len (n := (n : Int)) ⟨by omega, by omega⟩
    exact Nat.le_trans this (by decide)
  generalize (bl re).all isTextB = b1 at HA1
  generalize txt (Lib.itoa (n : Int)) = dt at HD hlen
  have hne := is_empty hm0
  have n1 : ¬ 9223372036854775807 < 9 + dt.size := by omega
  have n2 : ¬ 9223372036854775807 < 9 + dt.size + 1 := by omega
  have n3 : ¬ 9223372036854775807 < 9 + dt.size + 1 + re.size := by omega
  have n4 : ¬ 9223372036854775807 < 9 + dt.size + 1 + re.size + 2 := by omega
  have e3 : (100 : Int) ≤ (n : Int) := by omega
  clear hL hB hs1 hm0 hn hn1 hlen
  have H : ta.size ≠ 0 ∨ (ta.size = 0 ∧ ¬ (n : Int) ≤ 599) ∨ (ta.size = 0 ∧ (n : Int) ≤ 599 ∧ b1 = false) ∨ (ta.size = 0 ∧ (n : Int) ≤ 599 ∧ b1 = true) := by
    by_cases c1 : ta.size = 0 <;> by_cases c2 : (n : Int) ≤ 599 <;> cases b1 <;> simp [c1, c2]
  rcases H with c1 | ⟨c1, c2⟩ | ⟨c1, c2, rfl⟩ | ⟨c1, c2, rfl⟩
  · generalize hr : ((decide (ta.size = 0) && (decide (100 ≤ (n : Int)) && decide ((n : Int) ≤ 599))) && b1) = r
    have hr2 : r = false := by rw [← hr]; simp [e3, c1]
    clear hr
    subst hr2
    have e1 := ne_empty c1
    clear c1
    go_enter Tryz.func38, Tryz.ntmps38
    go_wp2_with (first
      | (refine wpl_box_at rfl 25 (.tmp 0) rfl _ rfl ?_; intro w1 hw; have B1 := hid_alloc0 hw; have HB := hid_grow hw; clear hw; have m0 : w1.cell? ⟨w.heap.size, 0, none⟩ = some (.string me) := B1.cell 0; have m1 : w1.cell? ⟨w.heap.size, 1, none⟩ = some (.string ta) := B1.cell 1; have m2 : w1.cell? ⟨w.heap.size, 2, none⟩ = some (.int .i64 (n : Int)) := B1.cell 2; have m3 : w1.cell? ⟨w.heap.size, 3, none⟩ = some (.string re) := B1.cell 3)
      | (go_at_call 68; (with_reducible refine (HA1.out _).mono ?_); rintro e w3 ⟨rfl, rfl⟩))
    all_goals
      refine wp_region_S (S := fun w' => w'.cell? ⟨w.heap.size, 2, none⟩ = some (.int .i64 (n : Int)) ∧ w'.cell? ⟨w.heap.size, 3, none⟩ = some (.string re)) (by kernel_rfl) (fun w5 hh => ⟨(box_heap hh B1).cell 2, (box_heap hh B1).cell 3⟩) (fun w5 hh hbb HS0 => ?_)
      replace HB := HB.trans ((hbb _ (Nat.le_refl _)).mono HB.size)
      replace B1 := box_heap hh B1
      clear hh hbb m0 m1 m2 m3
      refine TKC 0 76 rfl ?_
      try simp only [Act.put, zA, zB, zC]
      refine TKC 1 77 rfl ?_ (by (intro w hSw; (try dsimp only at hSw); have q1 := hSw.1; go_simp; try with_reducible rfl))
      try simp only [Act.put, zA, zB, zC]
      refine TKC 5 81 rfl ?_
      try simp only [Act.put, zA, zB, zC]
      refine TKC 6 82 rfl ?_ (by (intro w hSw; (try dsimp only at hSw); have q1 := hSw.2; go_simp; try with_reducible rfl))
      try simp only [Act.put, zA, zB, zC]
      refine TKC 9 85 rfl ?_
      try simp only [Act.put, zA, zB, zC]
      refine wpAnyH_ready (rs := [2]) (by kernel_rfl) (by simp) ?_
      refine AllReadyH.cons (o := ⟨some 78, _, _, _, _, _⟩) rfl (fun K hK => ?_) AllReadyH.nil
      go_simp
      (go_at_call 40; (with_reducible refine (HD.out _).mono ?_); rintro e w6 ⟨rfl, hb⟩)
      replace B1 := IBox.below B1 hb (IBox.lt B1)
      replace HB := HB.trans (hb.mono HB.size)
      clear hb
      replace HS0 : w6.cell? ⟨w.heap.size, 2, none⟩ = some (.int .i64 (n : Int)) ∧ w6.cell? ⟨w.heap.size, 3, none⟩ = some (.string re) := ⟨B1.cell 2, B1.cell 3⟩
      refine hK.out _ _ HS0 (fun hS2 => ?_)
      clear hK K hS2
      try simp only [Act.put, zA, zB, zC]
      refine TKC 3 79 rfl ?_
      try simp only [Act.put, zA, zB, zC]
      refine TKC 4 80 rfl ?_
      try simp only [Act.put, zA, zB, zC]
      refine TKC 7 83 rfl ?_
      try simp only [Act.put, zA, zB, zC]
      refine TKC 8 84 rfl ?_
      try simp only [Act.put, zA, zB, zC]
      refine TKC 10 2 rfl ?_
      try simp only [Act.put, zA, zB, zC]
      refine TKC 11 3 rfl ?_
      try simp only [Act.put, zA, zB, zC]
      refine wpAnyH_done (by kernel_rfl) ?_ _
      clear HS0
      go_wp2
      go_ret2
      first | exact ⟨rfl, HB⟩ | exact ⟨by (refine Eq.trans (b := Ending.returned (.tuple #[_, .bool (decide ((n : Int) ≤ 599))])) rfl ?_); rw [e4], HB⟩
  · generalize hr : ((decide (ta.size = 0) && (decide (100 ≤ (n : Int)) && decide ((n : Int) ≤ 599))) && b1) = r
    have hr2 : r = false := by rw [← hr]; simp [e3, c1, c2]
    clear hr
    subst hr2
    have e1 := is_empty c1
    have e2 : ¬ (n : Int) ≤ 599 := c2; have e4 := decide_eq_false e2
    clear c1 c2
    go_enter Tryz.func38, Tryz.ntmps38
    go_wp2_with (first
      | (refine wpl_box_at rfl 25 (.tmp 0) rfl _ rfl ?_; intro w1 hw; have B1 := hid_alloc0 hw; have HB := hid_grow hw; clear hw; have m0 : w1.cell? ⟨w.heap.size, 0, none⟩ = some (.string me) := B1.cell 0; have m1 : w1.cell? ⟨w.heap.size, 1, none⟩ = some (.string ta) := B1.cell 1; have m2 : w1.cell? ⟨w.heap.size, 2, none⟩ = some (.int .i64 (n : Int)) := B1.cell 2; have m3 : w1.cell? ⟨w.heap.size, 3, none⟩ = some (.string re) := B1.cell 3)
      | (go_at_call 68; (with_reducible refine (HA1.out _).mono ?_); rintro e w3 ⟨rfl, rfl⟩))
    all_goals
      refine wp_region_S (S := fun w' => w'.cell? ⟨w.heap.size, 2, none⟩ = some (.int .i64 (n : Int)) ∧ w'.cell? ⟨w.heap.size, 3, none⟩ = some (.string re)) (by kernel_rfl) (fun w5 hh => ⟨(box_heap hh B1).cell 2, (box_heap hh B1).cell 3⟩) (fun w5 hh hbb HS0 => ?_)
      replace HB := HB.trans ((hbb _ (Nat.le_refl _)).mono HB.size)
      replace B1 := box_heap hh B1
      clear hh hbb m0 m1 m2 m3
      refine TKC 0 76 rfl ?_
      try simp only [Act.put, zA, zB, zC]
      refine TKC 1 77 rfl ?_ (by (intro w hSw; (try dsimp only at hSw); have q1 := hSw.1; go_simp; try with_reducible rfl))
      try simp only [Act.put, zA, zB, zC]
      refine TKC 5 81 rfl ?_
      try simp only [Act.put, zA, zB, zC]
      refine TKC 6 82 rfl ?_ (by (intro w hSw; (try dsimp only at hSw); have q1 := hSw.2; go_simp; try with_reducible rfl))
      try simp only [Act.put, zA, zB, zC]
      refine TKC 9 85 rfl ?_
      try simp only [Act.put, zA, zB, zC]
      refine wpAnyH_ready (rs := [2]) (by kernel_rfl) (by simp) ?_
      refine AllReadyH.cons (o := ⟨some 78, _, _, _, _, _⟩) rfl (fun K hK => ?_) AllReadyH.nil
      go_simp
      (go_at_call 40; (with_reducible refine (HD.out _).mono ?_); rintro e w6 ⟨rfl, hb⟩)
      replace B1 := IBox.below B1 hb (IBox.lt B1)
      replace HB := HB.trans (hb.mono HB.size)
      clear hb
      replace HS0 : w6.cell? ⟨w.heap.size, 2, none⟩ = some (.int .i64 (n : Int)) ∧ w6.cell? ⟨w.heap.size, 3, none⟩ = some (.string re) := ⟨B1.cell 2, B1.cell 3⟩
      refine hK.out _ _ HS0 (fun hS2 => ?_)
      clear hK K hS2
      try simp only [Act.put, zA, zB, zC]
      refine TKC 3 79 rfl ?_
      try simp only [Act.put, zA, zB, zC]
      refine TKC 4 80 rfl ?_
      try simp only [Act.put, zA, zB, zC]
      refine TKC 7 83 rfl ?_
      try simp only [Act.put, zA, zB, zC]
      refine TKC 8 84 rfl ?_
      try simp only [Act.put, zA, zB, zC]
      refine TKC 10 2 rfl ?_
      try simp only [Act.put, zA, zB, zC]
      refine TKC 11 3 rfl ?_
      try simp only [Act.put, zA, zB, zC]
      refine wpAnyH_done (by kernel_rfl) ?_ _
      clear HS0
      go_wp2
      go_ret2
      first | exact ⟨rfl, HB⟩ | exact ⟨by (refine Eq.trans (b := Ending.returned (.tuple #[_, .bool (decide ((n : Int) ≤ 599))])) rfl ?_); rw [e4], HB⟩
  · generalize hr : ((decide (ta.size = 0) && (decide (100 ≤ (n : Int)) && decide ((n : Int) ≤ 599))) && false) = r
    have hr2 : r = false := by rw [← hr]; simp [e3, c1, c2]
    clear hr
    subst hr2
    have e1 := is_empty c1
    have e2 := c2
    clear c1 c2
    go_enter Tryz.func38, Tryz.ntmps38
    go_wp2_with (first
      | (refine wpl_box_at rfl 25 (.tmp 0) rfl _ rfl ?_; intro w1 hw; have B1 := hid_alloc0 hw; have HB := hid_grow hw; clear hw; have m0 : w1.cell? ⟨w.heap.size, 0, none⟩ = some (.string me) := B1.cell 0; have m1 : w1.cell? ⟨w.heap.size, 1, none⟩ = some (.string ta) := B1.cell 1; have m2 : w1.cell? ⟨w.heap.size, 2, none⟩ = some (.int .i64 (n : Int)) := B1.cell 2; have m3 : w1.cell? ⟨w.heap.size, 3, none⟩ = some (.string re) := B1.cell 3)
      | (go_at_call 68; (with_reducible refine (HA1.out _).mono ?_); rintro e w3 ⟨rfl, rfl⟩))
    all_goals
      refine wp_region_S (S := fun w' => w'.cell? ⟨w.heap.size, 2, none⟩ = some (.int .i64 (n : Int)) ∧ w'.cell? ⟨w.heap.size, 3, none⟩ = some (.string re)) (by kernel_rfl) (fun w5 hh => ⟨(box_heap hh B1).cell 2, (box_heap hh B1).cell 3⟩) (fun w5 hh hbb HS0 => ?_)
      replace HB := HB.trans ((hbb _ (Nat.le_refl _)).mono HB.size)
      replace B1 := box_heap hh B1
      clear hh hbb m0 m1 m2 m3
      refine TKC 0 76 rfl ?_
      try simp only [Act.put, zA, zB, zC]
      refine TKC 1 77 rfl ?_ (by (intro w hSw; (try dsimp only at hSw); have q1 := hSw.1; go_simp; try with_reducible rfl))
      try simp only [Act.put, zA, zB, zC]
      refine TKC 5 81 rfl ?_
      try simp only [Act.put, zA, zB, zC]
      refine TKC 6 82 rfl ?_ (by (intro w hSw; (try dsimp only at hSw); have q1 := hSw.2; go_simp; try with_reducible rfl))
      try simp only [Act.put, zA, zB, zC]
      refine TKC 9 85 rfl ?_
      try simp only [Act.put, zA, zB, zC]
      refine wpAnyH_ready (rs := [2]) (by kernel_rfl) (by simp) ?_
      refine AllReadyH.cons (o := ⟨some 78, _, _, _, _, _⟩) rfl (fun K hK => ?_) AllReadyH.nil
      go_simp
      (go_at_call 40; (with_reducible refine (HD.out _).mono ?_); rintro e w6 ⟨rfl, hb⟩)
      replace B1 := IBox.below B1 hb (IBox.lt B1)
      replace HB := HB.trans (hb.mono HB.size)
      clear hb
      replace HS0 : w6.cell? ⟨w.heap.size, 2, none⟩ = some (.int .i64 (n : Int)) ∧ w6.cell? ⟨w.heap.size, 3, none⟩ = some (.string re) := ⟨B1.cell 2, B1.cell 3⟩
      refine hK.out _ _ HS0 (fun hS2 => ?_)
      clear hK K hS2
      try simp only [Act.put, zA, zB, zC]
      refine TKC 3 79 rfl ?_
      try simp only [Act.put, zA, zB, zC]
      refine TKC 4 80 rfl ?_
      try simp only [Act.put, zA, zB, zC]
      refine TKC 7 83 rfl ?_
      try simp only [Act.put, zA, zB, zC]
      refine TKC 8 84 rfl ?_
      try simp only [Act.put, zA, zB, zC]
      refine TKC 10 2 rfl ?_
      try simp only [Act.put, zA, zB, zC]
      refine TKC 11 3 rfl ?_
      try simp only [Act.put, zA, zB, zC]
      refine wpAnyH_done (by kernel_rfl) ?_ _
      clear HS0
      go_wp2
      go_ret2
      first | exact ⟨rfl, HB⟩ | exact ⟨by (refine Eq.trans (b := Ending.returned (.tuple #[_, .bool (decide ((n : Int) ≤ 599))])) rfl ?_); rw [e4], HB⟩
  · generalize hr : ((decide (ta.size = 0) && (decide (100 ≤ (n : Int)) && decide ((n : Int) ≤ 599))) && true) = r
    have hr2 : r = true := by rw [← hr]; simp [e3, c1, c2]
    clear hr
    subst hr2
    have e1 := is_empty c1
    have e2 := c2
    clear c1 c2
    go_enter Tryz.func38, Tryz.ntmps38
    go_wp2_with (first
      | (refine wpl_box_at rfl 25 (.tmp 0) rfl _ rfl ?_; intro w1 hw; have B1 := hid_alloc0 hw; have HB := hid_grow hw; clear hw; have m0 : w1.cell? ⟨w.heap.size, 0, none⟩ = some (.string me) := B1.cell 0; have m1 : w1.cell? ⟨w.heap.size, 1, none⟩ = some (.string ta) := B1.cell 1; have m2 : w1.cell? ⟨w.heap.size, 2, none⟩ = some (.int .i64 (n : Int)) := B1.cell 2; have m3 : w1.cell? ⟨w.heap.size, 3, none⟩ = some (.string re) := B1.cell 3)
      | (go_at_call 68; (with_reducible refine (HA1.out _).mono ?_); rintro e w3 ⟨rfl, rfl⟩))
    all_goals
      refine wp_region_S (S := fun w' => w'.cell? ⟨w.heap.size, 2, none⟩ = some (.int .i64 (n : Int)) ∧ w'.cell? ⟨w.heap.size, 3, none⟩ = some (.string re)) (by kernel_rfl) (fun w5 hh => ⟨(box_heap hh B1).cell 2, (box_heap hh B1).cell 3⟩) (fun w5 hh hbb HS0 => ?_)
      replace HB := HB.trans ((hbb _ (Nat.le_refl _)).mono HB.size)
      replace B1 := box_heap hh B1
      clear hh hbb m0 m1 m2 m3
      refine TKC 0 76 rfl ?_
      try simp only [Act.put, zA, zB, zC]
      refine TKC 1 77 rfl ?_ (by (intro w hSw; (try dsimp only at hSw); have q1 := hSw.1; go_simp; try with_reducible rfl))
      try simp only [Act.put, zA, zB, zC]
      refine TKC 5 81 rfl ?_
      try simp only [Act.put, zA, zB, zC]
      refine TKC 6 82 rfl ?_ (by (intro w hSw; (try dsimp only at hSw); have q1 := hSw.2; go_simp; try with_reducible rfl))
      try simp only [Act.put, zA, zB, zC]
      refine TKC 9 85 rfl ?_
      try simp only [Act.put, zA, zB, zC]
      refine wpAnyH_ready (rs := [2]) (by kernel_rfl) (by simp) ?_
      refine AllReadyH.cons (o := ⟨some 78, _, _, _, _, _⟩) rfl (fun K hK => ?_) AllReadyH.nil
      go_simp
      (go_at_call 40; (with_reducible refine (HD.out _).mono ?_); rintro e w6 ⟨rfl, hb⟩)
      replace B1 := IBox.below B1 hb (IBox.lt B1)
      replace HB := HB.trans (hb.mono HB.size)
      clear hb
      replace HS0 : w6.cell? ⟨w.heap.size, 2, none⟩ = some (.int .i64 (n : Int)) ∧ w6.cell? ⟨w.heap.size, 3, none⟩ = some (.string re) := ⟨B1.cell 2, B1.cell 3⟩
      refine hK.out _ _ HS0 (fun hS2 => ?_)
      clear hK K hS2
      try simp only [Act.put, zA, zB, zC]
      refine TKC 3 79 rfl ?_
      try simp only [Act.put, zA, zB, zC]
      refine TKC 4 80 rfl ?_
      try simp only [Act.put, zA, zB, zC]
      refine TKC 7 83 rfl ?_
      try simp only [Act.put, zA, zB, zC]
      refine TKC 8 84 rfl ?_
      try simp only [Act.put, zA, zB, zC]
      refine TKC 10 2 rfl ?_
      try simp only [Act.put, zA, zB, zC]
      refine TKC 11 3 rfl ?_
      try simp only [Act.put, zA, zB, zC]
      refine wpAnyH_done (by kernel_rfl) ?_ _
      clear HS0
      go_wp2
      go_ret2
      first | exact ⟨rfl, HB⟩ | exact ⟨by (refine Eq.trans (b := Ending.returned (.tuple #[_, .bool (decide ((n : Int) ≤ 599))])) rfl ?_); rw [e4], HB⟩
end Go.Proofs.YtbehakabglegjaaGreatDoor
namespace Go.Proofs.YtbehakabglegjaaGreatDoor
open Go.RowKit
set_option linter.unusedVariables false

theorem code_info : (Tryz.prog.info? 31).map (fun i => i.comparable) = some true := by kernel_rfl
theorem eql_code (a b : Int) (w : World) : (binOp .eql 28 (.iface 31 (.int .i64 a)) (.iface 31 (.int .i64 b))).run Tryz.prog w = .ok (.bool (a == b)) w := by
  obtain ⟨i, hi, hc⟩ := Option.map_eq_some_iff.1 code_info
  exact run_eql_iface_int w a b Tryz.underlying28 Tryz.underlying31 hi hc

theorem code_nil (w : World) : Calls Tryz.prog 12 #[.nilIface] w fun e w' => e = .returned (.int .i64 0) ∧ w = w' := by
  go_enter Tryz.func12, Tryz.ntmps12
  go_wp2
  go_ret
  exact ⟨rfl, rfl⟩
theorem code_1 (w : World) : Calls Tryz.prog 12 #[.iface 31 (.int .i64 1)] w fun e w' => e = .returned (.int .i64 1) ∧ w = w' := by
  have he := eql_code
  go_enter Tryz.func12, Tryz.ntmps12
  go_wp2
  go_ret
  exact ⟨rfl, rfl⟩
theorem code_2 (w : World) : Calls Tryz.prog 12 #[.iface 31 (.int .i64 2)] w fun e w' => e = .returned (.int .i64 2) ∧ w = w' := by
  have he := eql_code
  go_enter Tryz.func12, Tryz.ntmps12
  go_wp2
  go_ret
  exact ⟨rfl, rfl⟩
end Go.Proofs.YtbehakabglegjaaGreatDoor
namespace Go.Proofs.YtbehakabglegjaaGreatDoor
open Go.RowKit
variable {H : Type} {enc : TypeId × Value → H} {P : Program}

theorem post_of_below {f : Func} {s : ChangeSpec} {apart fresh handsOn : Bool} {W W' : World} {args : Array Value} {v : Value} {ds gs : List (DataW H)} {before pa pv : List MemPlace}
    (hW : DataW.Whole enc P f.params.toList s.vars apart W args.toList ds gs before)
    (hres : ∀ (b : Nat) (sp : Nat → Bool) (hd : Bool), DataW.TrodAll enc P W' b sp hd f.resultTypes.toList (v.resultList f.resultTypes.size) (s.fn H (ds ++ gs)).results [])
    (hargs : ∀ sp : Nat → Bool, (∀ p ∈ before, sp p.block = true) → DataW.TrodAll enc P W' 0 sp true f.params.toList args.toList (s.fn H (ds ++ gs)).args pa)
    (hvars : ∀ sp : Nat → Bool, (∀ p ∈ before, sp p.block = true) → DataW.TrodVars enc P W' sp s.vars (s.fn H (ds ++ gs)).vars pv)
    (hps : before = pa ++ pv) (hb : Below W.heap.size W W') : s.post enc P f apart fresh handsOn false W args v W' := by
  have hold : ∀ p ∈ before, (fun b => decide (b < W.heap.size)) p.block = true := fun p hp => by simpa using hW.lt p hp
  refine ⟨ds, gs, before, [], pa, pv, hW, hres _ _ _, hargs _ hold, hvars _ hold, World.keptBut_mono (fun p hp => ⟨hp, ?_⟩) (hb.frame (· ∈ before)), fun h => by cases h⟩
  rw [hps, List.mem_append] at hp
  exact Or.inr hp

theorem own : ownKnob Tryz.prog.godebug = none := by kernel_rfl
end Go.Proofs.YtbehakabglegjaaGreatDoor
