/- Layer 9: the document's reader: has it stopped, the byte that stands here. -/
import Derived.Test.YtbehakabglegjaaGreatDoorQ05
import Derived.Test.YtbehakabglegjaaGreatDoorQZip
namespace Go.Proofs.YtbehakabglegjaaGreatDoor
open Go.RowKit Go.PlainAid
set_option linter.unusedVariables false
set_option linter.unusedSimpArgs false
theorem one_c : (Tryz.prog.info? 31).map (·.size) = some 1 := by kernel_rfl
section
variable {n g : Nat} {R : Rd} {b : List UInt8} {A : Option Addr} {cp : Nat} {hs bd : Value} {w : World} {c : UInt8}
theorem rstop_no (M : RdM n g R b A cp hs bd w) (h1 : R.bad = 0) (h2 : R.more = false) : Calls Tryz.prog 84 #[.pointer (some ⟨g, 0, none⟩)] w fun e w' => e = .returned (.bool false) ∧ w' = w := by
  have c2 : w.cell? ⟨g, 2, none⟩ = some (.int .i64 0) := by rw [← h1]; exact M.box.cell 2
  have c3 : w.cell? ⟨g, 3, none⟩ = some (.bool false) := by rw [← h2]; exact M.box.cell 3
  clear M h1 h2
  go_enter Tryz.func84, Tryz.ntmps84
  go_wp2
  go_ret
  exact ⟨rfl, rfl⟩
theorem rstop_yes (M : RdM n g R b A cp hs bd w) (h : ¬ (R.bad = 0 ∧ R.more = false)) : Calls Tryz.prog 84 #[.pointer (some ⟨g, 0, none⟩)] w fun e w' => e = .returned (.bool true) ∧ w' = w := by
  by_cases h1 : R.bad = 0
  · have h2 : R.more = true := by
      cases h3 : R.more
      · exact absurd ⟨h1, h3⟩ h
      · rfl
    have c2 : w.cell? ⟨g, 2, none⟩ = some (.int .i64 0) := by rw [← h1]; exact M.box.cell 2
    have c3 : w.cell? ⟨g, 3, none⟩ = some (.bool true) := by rw [← h2]; exact M.box.cell 3
    clear M h1 h2 h
    go_enter Tryz.func84, Tryz.ntmps84
    go_wp2
    go_ret
    exact ⟨rfl, rfl⟩
  · have c2 : w.cell? ⟨g, 2, none⟩ = some (.int .i64 R.bad) := M.box.cell 2
    generalize R.bad = x at *
    have a1 : (x == 0) = false := by rw [beq_eq_false_iff_ne]; exact h1
    have a2 : ¬ x = 0 := h1
    clear M h h1
    go_enter Tryz.func84, Tryz.ntmps84
    go_wp2
    go_ret
    exact ⟨rfl, rfl⟩
set_option maxRecDepth 100000 in
set_option maxHeartbeats 4000000 in
theorem peek_none (M : RdM n g R b A cp hs bd w) (hp : pkB b R = none) (hl : b.length ≤ 1099511627776) (hat : R.at_ ≤ 1099511627776) : Calls Tryz.prog 82 #[.pointer (some ⟨g, 0, none⟩)] w fun e w' => e = .returned (.tuple #[.int .u8 0, .bool false]) ∧ RdM n g (pkN b R) b A cp hs bd w' ∧ Below n w w' := by
  have HB := Below.refl n w
  by_cases hn : R.bad = 0 ∧ R.more = false
  · obtain ⟨h1, h2⟩ := id hn
    have HA := Lib.hid h1
    have HM := Lib.hid h2
    unfold pkB at hp
    rw [if_pos hn] at hp
    by_cases hlt : R.at_ < b.length
    · obtain ⟨c, hc⟩ : ∃ c, b[R.at_]? = some c := ⟨_, List.getElem?_eq_getElem hlt⟩
      rw [hc] at hp
      simp only at hp
      have h3 : R.head = true ∧ 8192 ≤ R.at_ := Classical.byContradiction fun x => by rw [if_neg x] at hp; cases hp
      obtain ⟨h3, h4⟩ := h3
      have HE : Hid (({ R with bad := 2 } : Rd) = pkN b R) := Lib.hid (by unfold pkN; rw [if_pos hn, if_pos hlt])
      have hi : ¬ (b.length : Int) ≤ (R.at_ : Int) := by omega
      have hi4 : (8192 : Int) ≤ (R.at_ : Int) := by omega
      have H3 := Lib.hid h3
      clear hp hc hn h1 h2 h3 h4
      go_enter Tryz.func82, Tryz.ntmps82
      go_wp2_with (first
        | (go_at_call 84; (refine (rstop_no M HA.out HM.out).mono ?_); rintro e w1 ⟨rfl, rfl⟩))
      refine wp_region_S (S := fun w' => w'.cell? ⟨g, 0, none⟩ = some (.slice A b.length cp) ∧ w'.cell? ⟨g, 1, none⟩ = some (.int .i64 (R.at_ : Int))) (by kernel_rfl) (fun w2 hh => ⟨(box_heap hh M.box).cell 0, (box_heap hh M.box).cell 1⟩) (fun w2 hh hbb HS0 => ?_)
      have hb := hbb _ (Nat.le_refl _)
      replace HB := HB.trans (hb.mono M.nw)
      replace M := M.below hb
      clear hh hbb hb
      refine TKC 0 6 rfl ?_
      try simp only [Act.put, zA, zB, zC]
      refine TKC 1 7 rfl ?_
      try simp only [Act.put, zA, zB, zC]
      refine TKC 2 8 rfl ?_
      try simp only [Act.put, zA, zB, zC]
      refine TKC 3 9 rfl ?_ (by (intro w hSw; (try dsimp only at hSw); have q1 := hSw.2; go_simp; try with_reducible rfl))
      try simp only [Act.put, zA, zB, zC]
      refine TKC 4 10 rfl ?_
      try simp only [Act.put, zA, zB, zC]
      refine TKC 5 11 rfl ?_
      try simp only [Act.put, zA, zB, zC]
      refine TKC 6 12 rfl ?_
      try simp only [Act.put, zA, zB, zC]
      refine TKC 7 13 rfl ?_ (by (intro w hSw; (try dsimp only at hSw); have q1 := hSw.1; go_simp; try with_reducible rfl))
      try simp only [Act.put, zA, zB, zC]
      refine TKC 8 14 rfl ?_
      try simp only [Act.put, zA, zB, zC]
      refine TKC 9 15 (v := .bool false) rfl ?_
      try simp only [Act.put, zA, zB, zC]
      refine wpAnyH_done (by kernel_rfl) ?_ _
      clear HS0
      have c4 : w2.cell? ⟨g, 4, none⟩ = some (.bool true) := by rw [← H3.out]; exact M.box.cell 4
      have c1 : w2.cell? ⟨g, 1, none⟩ = some (.int .i64 (R.at_ : Int)) := M.box.cell 1
      go_wp2_with (first
        | ((with_reducible refine is_store ?_); refine wpl_store_cell rfl 31 (.tmp 32) _ rfl g 2 rfl (.int .i64 2) rfl _ _ M.box (show 2 < 11 by decide) one_c rfl ?_; intro w3 hw; replace HB := HB.trans (M.low hw); replace M := M.s2 2 hw; clear hw))
      go_ret2
      exact ⟨rfl, by rw [← HE.out]; exact M, HB⟩
    · have HE : Hid (({ R with more := true } : Rd) = pkN b R) := Lib.hid (by unfold pkN; rw [if_pos hn, if_neg hlt])
      have hi : (b.length : Int) ≤ (R.at_ : Int) := by omega
      clear hp hn h1 h2 hlt
      go_enter Tryz.func82, Tryz.ntmps82
      go_wp2_with (first
        | (go_at_call 84; (refine (rstop_no M HA.out HM.out).mono ?_); rintro e w1 ⟨rfl, rfl⟩))
      refine wp_region_S (S := fun w' => w'.cell? ⟨g, 0, none⟩ = some (.slice A b.length cp) ∧ w'.cell? ⟨g, 1, none⟩ = some (.int .i64 (R.at_ : Int))) (by kernel_rfl) (fun w2 hh => ⟨(box_heap hh M.box).cell 0, (box_heap hh M.box).cell 1⟩) (fun w2 hh hbb HS0 => ?_)
      have hb := hbb _ (Nat.le_refl _)
      replace HB := HB.trans (hb.mono M.nw)
      replace M := M.below hb
      clear hh hbb hb
      refine TKC 0 6 rfl ?_
      try simp only [Act.put, zA, zB, zC]
      refine TKC 1 7 rfl ?_
      try simp only [Act.put, zA, zB, zC]
      refine TKC 2 8 rfl ?_
      try simp only [Act.put, zA, zB, zC]
      refine TKC 3 9 rfl ?_ (by (intro w hSw; (try dsimp only at hSw); have q1 := hSw.2; go_simp; try with_reducible rfl))
      try simp only [Act.put, zA, zB, zC]
      refine TKC 4 10 rfl ?_
      try simp only [Act.put, zA, zB, zC]
      refine TKC 5 11 rfl ?_
      try simp only [Act.put, zA, zB, zC]
      refine TKC 6 12 rfl ?_
      try simp only [Act.put, zA, zB, zC]
      refine TKC 7 13 rfl ?_ (by (intro w hSw; (try dsimp only at hSw); have q1 := hSw.1; go_simp; try with_reducible rfl))
      try simp only [Act.put, zA, zB, zC]
      refine TKC 8 14 rfl ?_
      try simp only [Act.put, zA, zB, zC]
      refine TKC 9 15 (v := .bool true) rfl ?_
      try simp only [Act.put, zA, zB, zC]
      refine wpAnyH_done (by kernel_rfl) ?_ _
      clear HS0
      go_wp2_with (first
        | ((with_reducible refine is_store ?_); refine wpl_store_cell rfl 4 (.tmp 18) _ rfl g 3 rfl (.bool true) rfl _ _ M.box (show 3 < 11 by decide) one_b rfl ?_; intro w3 hw; replace HB := HB.trans (M.low hw); replace M := M.s3 true hw; clear hw))
      go_ret2
      exact ⟨rfl, by rw [← HE.out]; exact M, HB⟩
  · have HN := Lib.hid hn
    have HE : Hid (R = pkN b R) := Lib.hid (by unfold pkN; rw [if_neg hn])
    clear hp hn
    go_enter Tryz.func82, Tryz.ntmps82
    go_wp2_with (first
      | (go_at_call 84; (refine (rstop_yes M HN.out).mono ?_); rintro e w1 ⟨rfl, rfl⟩))
    go_ret2
    exact ⟨rfl, by rw [← HE.out]; exact M, HB⟩
set_option maxRecDepth 100000 in
set_option maxHeartbeats 4000000 in
theorem peek_some (M : RdM n g R b A cp hs bd w) (hp : pkB b R = some c) (hl : b.length ≤ 1099511627776) : Calls Tryz.prog 82 #[.pointer (some ⟨g, 0, none⟩)] w fun e w' => e = .returned (.tuple #[.int .u8 (c.toNat : Int), .bool true]) ∧ RdM n g R b A cp hs bd w' ∧ Below n w w' := by
  have HB := Below.refl n w
  obtain ⟨h1, h2, h3, h4⟩ := pk_some hp
  have HA := Lib.hid h1
  have HM := Lib.hid h2
  have hlt : R.at_ < b.length := (List.getElem?_eq_some_iff.1 h3).1
  obtain ⟨bb, off, hA, hcell⟩ := M.row R.at_ c h3
  subst hA
  have hi : ¬ (b.length : Int) ≤ (R.at_ : Int) := by omega
  have HH := Lib.hid h4
  have HC := Lib.hid h3
  clear hp h1 h2 h3 h4 hcell
  cases hd : R.head
  · have HD := Lib.hid hd
    clear hd HH
    go_enter Tryz.func82, Tryz.ntmps82
    go_wp2_with (first
      | (go_at_call 84; (refine (rstop_no M HA.out HM.out).mono ?_); rintro e w1 ⟨rfl, rfl⟩))
    refine wp_region_S (S := fun w' => w'.cell? ⟨g, 0, none⟩ = some (.slice (some ⟨bb, off, none⟩) b.length cp) ∧ w'.cell? ⟨g, 1, none⟩ = some (.int .i64 (R.at_ : Int))) (by kernel_rfl) (fun w2 hh => ⟨(box_heap hh M.box).cell 0, (box_heap hh M.box).cell 1⟩) (fun w2 hh hbb HS0 => ?_)
    have hb := hbb _ (Nat.le_refl _)
    replace HB := HB.trans (hb.mono M.nw)
    replace M := M.below hb
    clear hh hbb hb
    refine TKC 0 6 rfl ?_
    try simp only [Act.put, zA, zB, zC]
    refine TKC 1 7 rfl ?_
    try simp only [Act.put, zA, zB, zC]
    refine TKC 2 8 rfl ?_
    try simp only [Act.put, zA, zB, zC]
    refine TKC 3 9 rfl ?_ (by (intro w hSw; (try dsimp only at hSw); have q1 := hSw.2; go_simp; try with_reducible rfl))
    try simp only [Act.put, zA, zB, zC]
    refine TKC 4 10 rfl ?_
    try simp only [Act.put, zA, zB, zC]
    refine TKC 5 11 rfl ?_
    try simp only [Act.put, zA, zB, zC]
    refine TKC 6 12 rfl ?_
    try simp only [Act.put, zA, zB, zC]
    refine TKC 7 13 rfl ?_ (by (intro w hSw; (try dsimp only at hSw); have q1 := hSw.1; go_simp; try with_reducible rfl))
    try simp only [Act.put, zA, zB, zC]
    refine TKC 8 14 rfl ?_
    try simp only [Act.put, zA, zB, zC]
    refine TKC 9 15 (v := .bool false) rfl ?_
    try simp only [Act.put, zA, zB, zC]
    refine wpAnyH_done (by kernel_rfl) ?_ _
    clear HS0
    have c4 : w2.cell? ⟨g, 4, none⟩ = some (.bool false) := by rw [← HD.out]; exact M.box.cell 4
    go_wp2
    clear c4
    obtain ⟨bb2, off2, e2, hcell⟩ := M.row R.at_ c HC.out
    injection e2 with e2
    injection e2 with e2 e3
    subst e2
    subst e3
    refine wp_region_S (S := fun w' => w'.cell? ⟨g, 0, none⟩ = some (.slice (some ⟨bb, off, none⟩) b.length cp) ∧ w'.cell? ⟨g, 1, none⟩ = some (.int .i64 (R.at_ : Int)) ∧ w'.cell? ⟨bb, off + R.at_, none⟩ = some (.int .u8 (c.toNat : Int))) (by kernel_rfl) (fun w3 hh => ⟨(box_heap hh M.box).cell 0, (box_heap hh M.box).cell 1, (World.cell?_of_block (by rw [hh])).trans hcell⟩) (fun w3 hh hbb HS0 => ?_)
    have hb := hbb _ (Nat.le_refl _)
    replace HB := HB.trans (hb.mono M.nw)
    replace M := M.below hb
    clear hh hbb hb hcell
    refine TKC 0 33 rfl ?_
    try simp only [Act.put, zA, zB, zC]
    refine TKC 1 34 rfl ?_
    try simp only [Act.put, zA, zB, zC]
    refine TKC 2 35 rfl ?_
    try simp only [Act.put, zA, zB, zC]
    refine TKC 3 36 rfl ?_ (by (intro w hSw; (try dsimp only at hSw); have q1 := hSw.1; go_simp; try with_reducible rfl))
    try simp only [Act.put, zA, zB, zC]
    refine TKC 4 37 rfl ?_
    try simp only [Act.put, zA, zB, zC]
    refine TKC 5 38 rfl ?_
    try simp only [Act.put, zA, zB, zC]
    refine TKC 6 39 rfl ?_
    try simp only [Act.put, zA, zB, zC]
    refine TKC 7 40 rfl ?_ (by (intro w hSw; (try dsimp only at hSw); have q1 := hSw.2.1; go_simp; try with_reducible rfl))
    try simp only [Act.put, zA, zB, zC]
    refine TKC 8 41 rfl ?_ (by (intro w hSw; (try dsimp only at hSw); have q2 : (R.at_ : Int) < (b.length : Int) := (by omega); have q3 : 0 ≤ (R.at_ : Int) := (by omega); have q4 : (R.at_ : Int).toNat = R.at_ := (by omega); go_simp; try with_reducible rfl))
    try simp only [Act.put, zA, zB, zC]
    refine TKC 9 42 rfl ?_ (by (intro w hSw; (try dsimp only at hSw); have q1 := hSw.2.2; go_simp; try with_reducible rfl))
    try simp only [Act.put, zA, zB, zC]
    refine TKC 10 2 rfl ?_
    try simp only [Act.put, zA, zB, zC]
    refine TKC 11 3 rfl ?_
    try simp only [Act.put, zA, zB, zC]
    refine wpAnyH_done (by kernel_rfl) ?_ _
    clear HS0
    go_wp2
    go_ret2
    exact ⟨rfl, M, HB⟩
  · have HD := Lib.hid hd
    have hi4 : ¬ (8192 : Int) ≤ (R.at_ : Int) := by have := HH.out hd; omega
    clear hd HH
    go_enter Tryz.func82, Tryz.ntmps82
    go_wp2_with (first
      | (go_at_call 84; (refine (rstop_no M HA.out HM.out).mono ?_); rintro e w1 ⟨rfl, rfl⟩))
    refine wp_region_S (S := fun w' => w'.cell? ⟨g, 0, none⟩ = some (.slice (some ⟨bb, off, none⟩) b.length cp) ∧ w'.cell? ⟨g, 1, none⟩ = some (.int .i64 (R.at_ : Int))) (by kernel_rfl) (fun w2 hh => ⟨(box_heap hh M.box).cell 0, (box_heap hh M.box).cell 1⟩) (fun w2 hh hbb HS0 => ?_)
    have hb := hbb _ (Nat.le_refl _)
    replace HB := HB.trans (hb.mono M.nw)
    replace M := M.below hb
    clear hh hbb hb
    refine TKC 0 6 rfl ?_
    try simp only [Act.put, zA, zB, zC]
    refine TKC 1 7 rfl ?_
    try simp only [Act.put, zA, zB, zC]
    refine TKC 2 8 rfl ?_
    try simp only [Act.put, zA, zB, zC]
    refine TKC 3 9 rfl ?_ (by (intro w hSw; (try dsimp only at hSw); have q1 := hSw.2; go_simp; try with_reducible rfl))
    try simp only [Act.put, zA, zB, zC]
    refine TKC 4 10 rfl ?_
    try simp only [Act.put, zA, zB, zC]
    refine TKC 5 11 rfl ?_
    try simp only [Act.put, zA, zB, zC]
    refine TKC 6 12 rfl ?_
    try simp only [Act.put, zA, zB, zC]
    refine TKC 7 13 rfl ?_ (by (intro w hSw; (try dsimp only at hSw); have q1 := hSw.1; go_simp; try with_reducible rfl))
    try simp only [Act.put, zA, zB, zC]
    refine TKC 8 14 rfl ?_
    try simp only [Act.put, zA, zB, zC]
    refine TKC 9 15 (v := .bool false) rfl ?_
    try simp only [Act.put, zA, zB, zC]
    refine wpAnyH_done (by kernel_rfl) ?_ _
    clear HS0
    have c4 : w2.cell? ⟨g, 4, none⟩ = some (.bool true) := by rw [← HD.out]; exact M.box.cell 4
    have c1 : w2.cell? ⟨g, 1, none⟩ = some (.int .i64 (R.at_ : Int)) := M.box.cell 1
    go_wp2
    clear c4 c1
    obtain ⟨bb2, off2, e2, hcell⟩ := M.row R.at_ c HC.out
    injection e2 with e2
    injection e2 with e2 e3
    subst e2
    subst e3
    refine wp_region_S (S := fun w' => w'.cell? ⟨g, 0, none⟩ = some (.slice (some ⟨bb, off, none⟩) b.length cp) ∧ w'.cell? ⟨g, 1, none⟩ = some (.int .i64 (R.at_ : Int)) ∧ w'.cell? ⟨bb, off + R.at_, none⟩ = some (.int .u8 (c.toNat : Int))) (by kernel_rfl) (fun w3 hh => ⟨(box_heap hh M.box).cell 0, (box_heap hh M.box).cell 1, (World.cell?_of_block (by rw [hh])).trans hcell⟩) (fun w3 hh hbb HS0 => ?_)
    have hb := hbb _ (Nat.le_refl _)
    replace HB := HB.trans (hb.mono M.nw)
    replace M := M.below hb
    clear hh hbb hb hcell
    refine TKC 0 33 rfl ?_
    try simp only [Act.put, zA, zB, zC]
    refine TKC 1 34 rfl ?_
    try simp only [Act.put, zA, zB, zC]
    refine TKC 2 35 rfl ?_
    try simp only [Act.put, zA, zB, zC]
    refine TKC 3 36 rfl ?_ (by (intro w hSw; (try dsimp only at hSw); have q1 := hSw.1; go_simp; try with_reducible rfl))
    try simp only [Act.put, zA, zB, zC]
    refine TKC 4 37 rfl ?_
    try simp only [Act.put, zA, zB, zC]
    refine TKC 5 38 rfl ?_
    try simp only [Act.put, zA, zB, zC]
    refine TKC 6 39 rfl ?_
    try simp only [Act.put, zA, zB, zC]
    refine TKC 7 40 rfl ?_ (by (intro w hSw; (try dsimp only at hSw); have q1 := hSw.2.1; go_simp; try with_reducible rfl))
    try simp only [Act.put, zA, zB, zC]
    refine TKC 8 41 rfl ?_ (by (intro w hSw; (try dsimp only at hSw); have q2 : (R.at_ : Int) < (b.length : Int) := (by omega); have q3 : 0 ≤ (R.at_ : Int) := (by omega); have q4 : (R.at_ : Int).toNat = R.at_ := (by omega); go_simp; try with_reducible rfl))
    try simp only [Act.put, zA, zB, zC]
    refine TKC 9 42 rfl ?_ (by (intro w hSw; (try dsimp only at hSw); have q1 := hSw.2.2; go_simp; try with_reducible rfl))
    try simp only [Act.put, zA, zB, zC]
    refine TKC 10 2 rfl ?_
    try simp only [Act.put, zA, zB, zC]
    refine TKC 11 3 rfl ?_
    try simp only [Act.put, zA, zB, zC]
    refine wpAnyH_done (by kernel_rfl) ?_ _
    clear HS0
    go_wp2
    go_ret2
    exact ⟨rfl, M, HB⟩
end
end Go.Proofs.YtbehakabglegjaaGreatDoor
