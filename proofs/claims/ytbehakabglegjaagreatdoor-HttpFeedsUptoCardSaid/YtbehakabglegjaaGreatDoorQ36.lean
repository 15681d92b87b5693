/- Layer 9: the document's reader: bytes of the body, a piece of it. -/
import Derived.Test.YtbehakabglegjaaGreatDoorQ32
import Derived.Test.YtbehakabglegjaaGreatDoorQ35
import Derived.Test.YtbehakabglegjaaGreatDoorQZip
namespace Go.Proofs.YtbehakabglegjaaGreatDoor
open Go.RowKit Go.PlainAid
set_option linter.unusedVariables false
set_option linter.unusedSimpArgs false
section
variable {n g : Nat} {R : Rd} {b : List UInt8} {A : Option Addr} {cp : Nat} {hs bd : Value} {w w' w8 w9 : World} {c : UInt8} {ans : Bool} {a k : Nat}
/-- So many bytes are taken. -/
def tkR (b : List UInt8) (R : Rd) (m : Nat) : Rd := if R.bad = 0 ∧ R.more = false then (if b.length < R.at_ + m then { R with more := true } else { R with m := { R.m with body := R.m.body ++ (b.drop R.at_).take m }, at_ := R.at_ + m }) else R
set_option maxRecDepth 100000 in
set_option maxHeartbeats 8000000 in
theorem rtake_any {m : Nat} (M : RdM n g R b A cp hs bd w) (hl : b.length ≤ 1099511627776) (hm : m ≤ 1099511627776) (hat : R.at_ ≤ 1099511627776) (hbl : R.m.body.length ≤ 1048576) (hb0 : b ≠ []) :
    Calls Tryz.prog 86 #[.pointer (some ⟨g, 0, none⟩), .int .i64 (m : Int)] w fun e w' => e = .returned (.tuple #[]) ∧ Below n w w' ∧ ∃ bd' : Value, RdM n g (tkR b R m) b A cp hs bd' w' := by
  obtain ⟨c0, hc0⟩ : ∃ c, b[0]? = some c := ⟨_, List.getElem?_eq_getElem (List.length_pos_iff.2 hb0)⟩
  obtain ⟨bb, off, hA, _⟩ := M.row 0 c0 hc0
  subst hA
  have HB := Below.refl n w
  by_cases hn : R.bad = 0 ∧ R.more = false
  · obtain ⟨h1, h2⟩ := id hn
    have HQ1 := Lib.hid h1
    have HQ2 := Lib.hid h2
    have hwr : IntKind.i64.wrap ((R.at_ : Int) + (m : Int)) = (R.at_ : Int) + (m : Int) := by rw [IntKind.wrap_i64]; omega
    by_cases hlt : b.length < R.at_ + m
    · have HE : Hid (({ R with more := true } : Rd) = tkR b R m) := Lib.hid (by unfold tkR; rw [if_pos hn, if_pos hlt])
      have hi : (b.length : Int) < (R.at_ : Int) + (m : Int) := by omega
      clear hn h1 h2 hc0 hlt
      go_enter Tryz.func86, Tryz.ntmps86
      go_wp2_with (first
        | (go_at_call 84; (refine (rstop_no M HQ1.out HQ2.out).mono ?_); rintro e w1 ⟨rfl, rfl⟩))
      refine wp_region_S (S := fun w' => w'.cell? ⟨g, 0, none⟩ = some (.slice (some ⟨bb, off, none⟩) b.length cp) ∧ w'.cell? ⟨g, 1, none⟩ = some (.int .i64 (R.at_ : Int))) (by kernel_rfl) (fun w2 hh => ⟨(box_heap hh M.box).cell 0, (box_heap hh M.box).cell 1⟩) (fun w2 hh hbb HS0 => ?_)
      have hb := hbb _ (Nat.le_refl _)
      replace HB := HB.trans (hb.mono M.nw)
      replace M := M.below hb
      clear hh hbb hb
      refine TKC 0 6 rfl ?_
      try simp only [Act.put, zA, zB, zC]
      refine TKC 1 7 rfl ?_
      try simp only [Act.put, zA, zB, zC]
      refine TKC 2 8 rfl ?_
      try simp only [Act.put, zA, zB, zC]
      refine TKC 3 9 rfl ?_ (by (intro w hSw; (try dsimp only at hSw); have q1 := hSw.2; go_simp; try with_reducible rfl))
      try simp only [Act.put, zA, zB, zC]
      refine TKC 4 10 rfl ?_
      try simp only [Act.put, zA, zB, zC]
      refine TKC 5 11 rfl ?_
      try simp only [Act.put, zA, zB, zC]
      refine TKC 6 12 rfl ?_
      try simp only [Act.put, zA, zB, zC]
      refine TKC 7 13 rfl ?_
      try simp only [Act.put, zA, zB, zC]
      refine TKC 8 14 rfl ?_
      try simp only [Act.put, zA, zB, zC]
      refine TKC 9 15 rfl ?_ (by (intro w hSw; (try dsimp only at hSw); have q1 := hSw.1; go_simp; try with_reducible rfl))
      try simp only [Act.put, zA, zB, zC]
      refine TKC 10 16 rfl ?_
      try simp only [Act.put, zA, zB, zC]
      refine TKC 11 17 (v := .bool true) rfl ?_
      try simp only [Act.put, zA, zB, zC]
      refine wpAnyH_done (by kernel_rfl) ?_ _
      clear HS0
      go_wp2_with (first
        | ((with_reducible refine is_store ?_); refine wpl_store_cell rfl 4 (.tmp 20) _ rfl g 3 rfl (.bool true) rfl _ _ M.box (show 3 < 11 by decide) one_b rfl ?_; intro w4 hw; replace HB := HB.trans (M.low hw); replace M := M.s3 true hw; clear hw))
      first | go_end0 | (refine bodyPost_ret (results_none rfl _ _ _) rfl ?_)
      exact ⟨rfl, HB, _, by rw [← HE.out]; exact M⟩
    · have HE : Hid (({ R with m := { R.m with body := R.m.body ++ (b.drop R.at_).take m }, at_ := R.at_ + m } : Rd) = tkR b R m) := Lib.hid (by unfold tkR; rw [if_pos hn, if_neg hlt])
      have HLT : Hid (R.at_ + m ≤ b.length) := Lib.hid (by omega)
      have HBL := Lib.hid hbl
      have hi : ¬ (b.length : Int) < (R.at_ : Int) + (m : Int) := by omega
      have hi2 : (R.at_ : Int) + (m : Int) ≤ (b.length : Int) := by omega
      have hcap := M.cap
      have hln : (b.length : Int) ≤ 1099511627776 := by omega
      have hwrA : IntKind.i64.wrap (R.at_ : Int) = (R.at_ : Int) := by rw [IntKind.wrap_i64]; omega
      clear hn h1 h2 hc0 hlt hbl
      by_cases hcp : cp = R.at_
      · obtain rfl : m = 0 := by have := HLT.out; omega
        subst hcp
        have hi9 : R.at_ ≤ b.length := HLT.out
        go_enter Tryz.func86, Tryz.ntmps86
        go_wp2_with (first
          | (go_at_call 84; (refine (rstop_no M HQ1.out HQ2.out).mono ?_); rintro e w1 ⟨rfl, rfl⟩))
        refine wp_region_S (S := fun w' => w'.cell? ⟨g, 0, none⟩ = some (.slice (some ⟨bb, off, none⟩) b.length R.at_) ∧ w'.cell? ⟨g, 1, none⟩ = some (.int .i64 (R.at_ : Int))) (by kernel_rfl) (fun w2 hh => ⟨(box_heap hh M.box).cell 0, (box_heap hh M.box).cell 1⟩) (fun w2 hh hbb HS0 => ?_)
        have hb := hbb _ (Nat.le_refl _)
        replace HB := HB.trans (hb.mono M.nw)
        replace M := M.below hb
        clear hh hbb hb
        refine TKC 0 6 rfl ?_
        try simp only [Act.put, zA, zB, zC]
        refine TKC 1 7 rfl ?_
        try simp only [Act.put, zA, zB, zC]
        refine TKC 2 8 rfl ?_
        try simp only [Act.put, zA, zB, zC]
        refine TKC 3 9 rfl ?_ (by (intro w hSw; (try dsimp only at hSw); have q1 := hSw.2; go_simp; try with_reducible rfl))
        try simp only [Act.put, zA, zB, zC]
        refine TKC 4 10 rfl ?_
        try simp only [Act.put, zA, zB, zC]
        refine TKC 5 11 rfl ?_
        try simp only [Act.put, zA, zB, zC]
        refine TKC 6 12 rfl ?_
        try simp only [Act.put, zA, zB, zC]
        refine TKC 7 13 rfl ?_
        try simp only [Act.put, zA, zB, zC]
        refine TKC 8 14 rfl ?_
        try simp only [Act.put, zA, zB, zC]
        refine TKC 9 15 rfl ?_ (by (intro w hSw; (try dsimp only at hSw); have q1 := hSw.1; go_simp; try with_reducible rfl))
        try simp only [Act.put, zA, zB, zC]
        refine TKC 10 16 rfl ?_
        try simp only [Act.put, zA, zB, zC]
        refine TKC 11 17 (v := .bool false) rfl ?_
        try simp only [Act.put, zA, zB, zC]
        refine wpAnyH_done (by kernel_rfl) ?_ _
        clear HS0
        go_wp2
        refine wp_region_S (S := fun w' => w'.cell? ⟨g, 0, none⟩ = some (.slice (some ⟨bb, off, none⟩) b.length R.at_) ∧ w'.cell? ⟨g, 1, none⟩ = some (.int .i64 (R.at_ : Int)) ∧ RowB w' (some ⟨bb, off, none⟩) b) (by kernel_rfl) (fun w3 hh => ⟨(box_heap hh M.box).cell 0, (box_heap hh M.box).cell 1, M.row.heap hh⟩) (fun w3 hh hbb HS0 => ?_)
        have hb := hbb _ (Nat.le_refl _)
        replace HB := HB.trans (hb.mono M.nw)
        replace M := M.below hb
        clear hh hbb hb
        refine TKC 0 21 rfl ?_
        try simp only [Act.put, zA, zB, zC]
        refine TKC 1 22 rfl ?_
        try simp only [Act.put, zA, zB, zC]
        refine TKC 2 23 rfl ?_
        try simp only [Act.put, zA, zB, zC]
        refine TKC 3 24 rfl ?_
        try simp only [Act.put, zA, zB, zC]
        refine TKC 4 25 rfl ?_
        try simp only [Act.put, zA, zB, zC]
        refine TKC 6 27 rfl ?_
        try simp only [Act.put, zA, zB, zC]
        refine TKC 7 28 rfl ?_
        try simp only [Act.put, zA, zB, zC]
        refine TKC 8 29 rfl ?_
        try simp only [Act.put, zA, zB, zC]
        refine TKC 9 30 rfl ?_ (by (intro w hSw; (try dsimp only at hSw); have q1 := hSw.1; go_simp; try with_reducible rfl))
        try simp only [Act.put, zA, zB, zC]
        refine TKC 10 31 rfl ?_
        try simp only [Act.put, zA, zB, zC]
        refine TKC 11 32 rfl ?_
        try simp only [Act.put, zA, zB, zC]
        refine TKC 12 33 rfl ?_
        try simp only [Act.put, zA, zB, zC]
        refine TKC 13 34 rfl ?_ (by (intro w hSw; (try dsimp only at hSw); have q1 := hSw.2.1; go_simp; try with_reducible rfl))
        try simp only [Act.put, zA, zB, zC]
        refine TKC 14 35 rfl ?_
        try simp only [Act.put, zA, zB, zC]
        refine TKC 15 36 rfl ?_
        try simp only [Act.put, zA, zB, zC]
        refine TKC 16 37 rfl ?_
        try simp only [Act.put, zA, zB, zC]
        refine TKC 17 38 rfl ?_ (by (intro w hSw; (try dsimp only at hSw); have q1 := hSw.2.1; go_simp; try with_reducible rfl))
        try simp only [Act.put, zA, zB, zC]
        refine TKC 18 39 rfl ?_
        try simp only [Act.put, zA, zB, zC]
        refine TKC 19 40 rfl ?_ (by (intro w hSw; (try dsimp only at hSw); have q0 := hwr; go_simp; try with_reducible rfl))
        try simp only [Act.put, zA, zB, zC]
        refine TKC 20 41 rfl ?_ (by (intro w hSw; (try dsimp only at hSw); have q2 : (R.at_ : Int) ≤ (R.at_ : Int) := (by omega); have q3 : 0 ≤ (R.at_ : Int) := (by omega); have q4 : ((R.at_ : Int)).toNat = R.at_ := (by omega); go_simp; try with_reducible rfl))
        try simp only [Act.put, zA, zB, zC]
        refine wpAnyH_ready (rs := [5]) (by kernel_rfl) (by simp) ?_
        refine AllReadyH.cons (o := ⟨some 26, _, _, _, _, _⟩) rfl (fun K hK => ?_) AllReadyH.nil
        have cg : World.cell? _ ⟨g, 10, none⟩ = some bd := M.box.cell 10
        go_simp
        clear cg
        refine hK.out _ _ HS0 (fun hS2 => ?_)
        clear hK K hS2
        try simp only [Act.put, zA, zB, zC]
        refine wpAnyH_ready (rs := [21]) (by kernel_rfl) (by simp) ?_
        refine AllReadyH.cons (o := ⟨some 42, _, _, _, _, _⟩) rfl (fun K hK => ?_) AllReadyH.nil
        simp only [Region.wanted, if_true]
        obtain ⟨ie, i1, i2, i3, i4⟩ := u8_info
        have hml : ((b.drop R.at_).take 0).length = 0 := by rw [List.take_zero]; rfl
        refine wp_append_own _ _ _ 23 rfl n 5 ie _ 1 1 Tryz.underlying23 i1 i2 i3 i4 rfl (by decide) bd R.m.body.length (Lib.byteCells R.m.body) rfl M.rb ⟨bb, off, none⟩ 0 0 (Lib.byteCells ((b.drop R.at_).take 0)) rfl (by rw [Lib.byteCells_length, hml, Nat.mul_one]) (fun j u hu => by rw [List.take_zero] at hu; cases hu) (bytes_one _) (by have := HBL.out; unfold maxLen; omega) (by have := HBL.out; omega) M.nw ?_
        intro v13 w13 h13 hg13 _
        have h14 : OwnB w13 n v13 (R.m.body ++ (b.drop R.at_).take 0) := by
          unfold OwnB
          rw [List.length_append, hml, Lib.byteCells_append]
          exact h13
        have HO13 := Lib.hid h14
        have HG13 := Lib.hid hg13
        have B13 := M.boxB hg13
        have hrow13 := M.row.bes (RdM.gbes hg13) (fun b9 o9 e9 x9 => by have := M.off b9 o9 e9; have := (own_in M.rb x9).1; omega)
        replace HB := HB.trans ((RdM.gbes hg13).below (fun q e => (own_in M.rb e).1) M.nw)
        replace HS0 : w13.cell? ⟨g, 0, none⟩ = some (.slice (some ⟨bb, off, none⟩) b.length R.at_) ∧ w13.cell? ⟨g, 1, none⟩ = some (.int .i64 (R.at_ : Int)) ∧ RowB w13 (some ⟨bb, off, none⟩) b := ⟨B13.cell 0, B13.cell 1, hrow13⟩
        clear h13 hg13 h14 hrow13 hml
        refine hK.out _ _ HS0 (fun hS2 => ?_)
        clear hK K hS2
        try simp only [Act.put, zA, zB, zC]
        refine TKC 22 43 rfl ?_
        try simp only [Act.put, zA, zB, zC]
        refine TKC 23 44 rfl ?_
        try simp only [Act.put, zA, zB, zC]
        refine TKC 24 45 rfl ?_
        try simp only [Act.put, zA, zB, zC]
        refine wpAnyH_ready (rs := [25]) (by kernel_rfl) (by simp) ?_
        refine AllReadyH.cons (o := ⟨none, _, _, _, _, _⟩) rfl (fun K hK => ?_) AllReadyH.nil
        simp only [Region.wanted, if_true]
        refine op_store_cell 23 _ _ rfl g 10 rfl v13 rfl _ _ B13 (show 10 < 11 by decide) one_sb (by obtain ⟨x1, x2, x3, _⟩ := own_slice HO13.out; rw [x3]; rfl) ?_
        intro w14 hw
        have hwb := (Bes.row (X := fun q => q = g) hw rfl).below (fun q e => by rw [show q = g from e]; exact M.gn) (Nat.le_trans M.nw HG13.out.size)
        replace HB := HB.trans hwb
        replace M := M.s10 HG13.out HO13.out hw
        clear hw hwb B13
        replace HS0 : w14.cell? ⟨g, 0, none⟩ = some (.slice (some ⟨bb, off, none⟩) b.length R.at_) ∧ w14.cell? ⟨g, 1, none⟩ = some (.int .i64 (R.at_ : Int)) ∧ RowB w14 (some ⟨bb, off, none⟩) b := ⟨M.box.cell 0, M.box.cell 1, M.row⟩
        refine hK.out _ _ HS0 (fun hS2 => ?_)
        clear hK K hS2
        try simp only [Act.put, zA, zB, zC]
        refine wpAnyH_done (by kernel_rfl) ?_ _
        clear HS0
        clear HO13 HG13
        have c1 : w14.cell? ⟨g, 1, none⟩ = some (.int .i64 (R.at_ : Int)) := M.box.cell 1
        go_wp2_with (first
          | ((with_reducible refine is_store ?_); refine wpl_store_cell rfl 3 (.tmp 54) _ rfl g 1 rfl (.int .i64 (R.at_ : Int)) rfl _ _ M.box (show 1 < 11 by decide) one_i rfl ?_; intro w15 hw; replace HB := HB.trans (M.low hw); replace M := M.s1 (R.at_ + 0) hw; clear hw c1))
        first | go_end0 | (refine bodyPost_ret (results_none rfl _ _ _) rfl ?_)
        exact ⟨rfl, HB, _, by rw [← HE.out]; exact M⟩
      · go_enter Tryz.func86, Tryz.ntmps86
        go_wp2_with (first
          | (go_at_call 84; (refine (rstop_no M HQ1.out HQ2.out).mono ?_); rintro e w1 ⟨rfl, rfl⟩))
        refine wp_region_S (S := fun w' => w'.cell? ⟨g, 0, none⟩ = some (.slice (some ⟨bb, off, none⟩) b.length cp) ∧ w'.cell? ⟨g, 1, none⟩ = some (.int .i64 (R.at_ : Int))) (by kernel_rfl) (fun w2 hh => ⟨(box_heap hh M.box).cell 0, (box_heap hh M.box).cell 1⟩) (fun w2 hh hbb HS0 => ?_)
        have hb := hbb _ (Nat.le_refl _)
        replace HB := HB.trans (hb.mono M.nw)
        replace M := M.below hb
        clear hh hbb hb
        refine TKC 0 6 rfl ?_
        try simp only [Act.put, zA, zB, zC]
        refine TKC 1 7 rfl ?_
        try simp only [Act.put, zA, zB, zC]
        refine TKC 2 8 rfl ?_
        try simp only [Act.put, zA, zB, zC]
        refine TKC 3 9 rfl ?_ (by (intro w hSw; (try dsimp only at hSw); have q1 := hSw.2; go_simp; try with_reducible rfl))
        try simp only [Act.put, zA, zB, zC]
        refine TKC 4 10 rfl ?_
        try simp only [Act.put, zA, zB, zC]
        refine TKC 5 11 rfl ?_
        try simp only [Act.put, zA, zB, zC]
        refine TKC 6 12 rfl ?_
        try simp only [Act.put, zA, zB, zC]
        refine TKC 7 13 rfl ?_
        try simp only [Act.put, zA, zB, zC]
        refine TKC 8 14 rfl ?_
        try simp only [Act.put, zA, zB, zC]
        refine TKC 9 15 rfl ?_ (by (intro w hSw; (try dsimp only at hSw); have q1 := hSw.1; go_simp; try with_reducible rfl))
        try simp only [Act.put, zA, zB, zC]
        refine TKC 10 16 rfl ?_
        try simp only [Act.put, zA, zB, zC]
        refine TKC 11 17 (v := .bool false) rfl ?_
        try simp only [Act.put, zA, zB, zC]
        refine wpAnyH_done (by kernel_rfl) ?_ _
        clear HS0
        go_wp2
        refine wp_region_S (S := fun w' => w'.cell? ⟨g, 0, none⟩ = some (.slice (some ⟨bb, off, none⟩) b.length cp) ∧ w'.cell? ⟨g, 1, none⟩ = some (.int .i64 (R.at_ : Int)) ∧ RowB w' (some ⟨bb, off, none⟩) b) (by kernel_rfl) (fun w3 hh => ⟨(box_heap hh M.box).cell 0, (box_heap hh M.box).cell 1, M.row.heap hh⟩) (fun w3 hh hbb HS0 => ?_)
        have hb := hbb _ (Nat.le_refl _)
        replace HB := HB.trans (hb.mono M.nw)
        replace M := M.below hb
        clear hh hbb hb
        refine TKC 0 21 rfl ?_
        try simp only [Act.put, zA, zB, zC]
        refine TKC 1 22 rfl ?_
        try simp only [Act.put, zA, zB, zC]
        refine TKC 2 23 rfl ?_
        try simp only [Act.put, zA, zB, zC]
        refine TKC 3 24 rfl ?_
        try simp only [Act.put, zA, zB, zC]
        refine TKC 4 25 rfl ?_
        try simp only [Act.put, zA, zB, zC]
        refine TKC 6 27 rfl ?_
        try simp only [Act.put, zA, zB, zC]
        refine TKC 7 28 rfl ?_
        try simp only [Act.put, zA, zB, zC]
        refine TKC 8 29 rfl ?_
        try simp only [Act.put, zA, zB, zC]
        refine TKC 9 30 rfl ?_ (by (intro w hSw; (try dsimp only at hSw); have q1 := hSw.1; go_simp; try with_reducible rfl))
        try simp only [Act.put, zA, zB, zC]
        refine TKC 10 31 rfl ?_
        try simp only [Act.put, zA, zB, zC]
        refine TKC 11 32 rfl ?_
        try simp only [Act.put, zA, zB, zC]
        refine TKC 12 33 rfl ?_
        try simp only [Act.put, zA, zB, zC]
        refine TKC 13 34 rfl ?_ (by (intro w hSw; (try dsimp only at hSw); have q1 := hSw.2.1; go_simp; try with_reducible rfl))
        try simp only [Act.put, zA, zB, zC]
        refine TKC 14 35 rfl ?_
        try simp only [Act.put, zA, zB, zC]
        refine TKC 15 36 rfl ?_
        try simp only [Act.put, zA, zB, zC]
        refine TKC 16 37 rfl ?_
        try simp only [Act.put, zA, zB, zC]
        refine TKC 17 38 rfl ?_ (by (intro w hSw; (try dsimp only at hSw); have q1 := hSw.2.1; go_simp; try with_reducible rfl))
        try simp only [Act.put, zA, zB, zC]
        refine TKC 18 39 rfl ?_
        try simp only [Act.put, zA, zB, zC]
        refine TKC 19 40 (v := .int .i64 ((R.at_ : Int) + (m : Int))) rfl ?_ (by (intro w hSw; (try dsimp only at hSw); have q0 := hwr; go_simp; try with_reducible rfl))
        try simp only [Act.put, zA, zB, zC]
        refine TKC 20 41 (v := .slice (some ⟨bb, off + R.at_, none⟩) m (cp - R.at_)) rfl ?_ (by (intro w hSw; (try dsimp only at hSw); have q2 : (R.at_ : Int) + (m : Int) ≤ (cp : Int) := (by have := HLT.out; omega); have q3 : 0 ≤ (R.at_ : Int) := (by omega); have q4 : ((R.at_ : Int)).toNat = R.at_ := (by omega); have q5 : ((R.at_ : Int) + (m : Int)).toNat = R.at_ + m := (by omega); have q6 : 0 ≤ (R.at_ : Int) + (m : Int) := (by omega); have q7 : (R.at_ : Int) ≤ (R.at_ : Int) + (m : Int) := (by omega); have q8 : R.at_ + m - R.at_ = m := (by omega); have q9 : ¬ cp = R.at_ := hcp; go_simp; try with_reducible rfl))
        try simp only [Act.put, zA, zB, zC]
        refine wpAnyH_ready (rs := [5]) (by kernel_rfl) (by simp) ?_
        refine AllReadyH.cons (o := ⟨some 26, _, _, _, _, _⟩) rfl (fun K hK => ?_) AllReadyH.nil
        have cg : World.cell? _ ⟨g, 10, none⟩ = some bd := M.box.cell 10
        go_simp
        clear cg
        refine hK.out _ _ HS0 (fun hS2 => ?_)
        clear hK K hS2
        try simp only [Act.put, zA, zB, zC]
        refine wpAnyH_ready (rs := [21]) (by kernel_rfl) (by simp) ?_
        refine AllReadyH.cons (o := ⟨some 42, _, _, _, _, _⟩) rfl (fun K hK => ?_) AllReadyH.nil
        simp only [Region.wanted, if_true]
        obtain ⟨ie, i1, i2, i3, i4⟩ := u8_info
        have hml : ((b.drop R.at_).take m).length = m := by rw [List.length_take, List.length_drop]; have := HLT.out; omega
        refine wp_append_own _ _ _ 23 rfl n 5 ie _ 1 1 Tryz.underlying23 i1 i2 i3 i4 rfl (by decide) bd R.m.body.length (Lib.byteCells R.m.body) rfl M.rb ⟨bb, off + R.at_, none⟩ m (cp - R.at_) (Lib.byteCells ((b.drop R.at_).take m)) rfl (by rw [Lib.byteCells_length, hml, Nat.mul_one]) (fun j u hu => by
          have hj : j < m := by
            have := (List.getElem?_eq_some_iff.1 hu).1
            rw [Lib.byteCells_length, List.length_take] at this
            omega
          have h2 : ∃ d, b[R.at_ + j]? = some d ∧ u = .int .u8 (d.toNat : Int) := by
            unfold Lib.byteCells at hu
            rw [List.getElem?_map, List.getElem?_take, if_pos hj, List.getElem?_drop] at hu
            obtain ⟨d, h3, h4⟩ := Option.map_eq_some_iff.1 hu
            exact ⟨d, h3, h4.symm⟩
          obtain ⟨d, h3, rfl⟩ := h2
          obtain ⟨b9, o9, e9, h9⟩ := M.row _ d h3
          injection e9 with e9
          injection e9 with e8 e9
          subst e8
          subst e9
          have hadd : (⟨bb, off + R.at_, none⟩ : Addr).add j = ⟨bb, off + (R.at_ + j), none⟩ := by rw [Addr.add_lit, Nat.add_assoc]
          rw [hadd]
          exact h9) (bytes_one _) (by have := HBL.out; unfold maxLen; omega) (by have := HBL.out; omega) M.nw ?_
        intro v13 w13 h13 hg13 _
        have h14 : OwnB w13 n v13 (R.m.body ++ (b.drop R.at_).take m) := by
          unfold OwnB
          rw [List.length_append, hml, Lib.byteCells_append]
          exact h13
        have HO13 := Lib.hid h14
        have HG13 := Lib.hid hg13
        have B13 := M.boxB hg13
        have hrow13 := M.row.bes (RdM.gbes hg13) (fun b9 o9 e9 x9 => by have := M.off b9 o9 e9; have := (own_in M.rb x9).1; omega)
        replace HB := HB.trans ((RdM.gbes hg13).below (fun q e => (own_in M.rb e).1) M.nw)
        replace HS0 : w13.cell? ⟨g, 0, none⟩ = some (.slice (some ⟨bb, off, none⟩) b.length cp) ∧ w13.cell? ⟨g, 1, none⟩ = some (.int .i64 (R.at_ : Int)) ∧ RowB w13 (some ⟨bb, off, none⟩) b := ⟨B13.cell 0, B13.cell 1, hrow13⟩
        clear h13 hg13 h14 hrow13 hml
        refine hK.out _ _ HS0 (fun hS2 => ?_)
        clear hK K hS2
        try simp only [Act.put, zA, zB, zC]
        refine TKC 22 43 rfl ?_
        try simp only [Act.put, zA, zB, zC]
        refine TKC 23 44 rfl ?_
        try simp only [Act.put, zA, zB, zC]
        refine TKC 24 45 rfl ?_
        try simp only [Act.put, zA, zB, zC]
        refine wpAnyH_ready (rs := [25]) (by kernel_rfl) (by simp) ?_
        refine AllReadyH.cons (o := ⟨none, _, _, _, _, _⟩) rfl (fun K hK => ?_) AllReadyH.nil
        simp only [Region.wanted, if_true]
        refine op_store_cell 23 _ _ rfl g 10 rfl v13 rfl _ _ B13 (show 10 < 11 by decide) one_sb (by obtain ⟨x1, x2, x3, _⟩ := own_slice HO13.out; rw [x3]; rfl) ?_
        intro w14 hw
        have hwb := (Bes.row (X := fun q => q = g) hw rfl).below (fun q e => by rw [show q = g from e]; exact M.gn) (Nat.le_trans M.nw HG13.out.size)
        replace HB := HB.trans hwb
        replace M := M.s10 HG13.out HO13.out hw
        clear hw hwb B13
        replace HS0 : w14.cell? ⟨g, 0, none⟩ = some (.slice (some ⟨bb, off, none⟩) b.length cp) ∧ w14.cell? ⟨g, 1, none⟩ = some (.int .i64 (R.at_ : Int)) ∧ RowB w14 (some ⟨bb, off, none⟩) b := ⟨M.box.cell 0, M.box.cell 1, M.row⟩
        refine hK.out _ _ HS0 (fun hS2 => ?_)
        clear hK K hS2
        try simp only [Act.put, zA, zB, zC]
        refine wpAnyH_done (by kernel_rfl) ?_ _
        clear HS0
        clear HO13 HG13
        have c1 : w14.cell? ⟨g, 1, none⟩ = some (.int .i64 (R.at_ : Int)) := M.box.cell 1
        go_wp2_with (first
          | ((with_reducible refine is_store ?_); refine wpl_store_cell rfl 3 (.tmp 54) _ rfl g 1 rfl (.int .i64 ((R.at_ : Int) + (m : Int))) rfl _ _ M.box (show 1 < 11 by decide) one_i rfl ?_; intro w15 hw; replace HB := HB.trans (M.low hw); replace M := M.s1 (R.at_ + m) hw; clear hw c1))
        first | go_end0 | (refine bodyPost_ret (results_none rfl _ _ _) rfl ?_)
        exact ⟨rfl, HB, _, by rw [← HE.out]; exact M⟩
  · have HQ1 := Lib.hid hn
    have HE : Hid (R = tkR b R m) := Lib.hid (by unfold tkR; rw [if_neg hn])
    clear hn hc0
    go_enter Tryz.func86, Tryz.ntmps86
    go_wp2_with (first
      | (go_at_call 84; (refine (rstop_yes M HQ1.out).mono ?_); rintro e w1 ⟨rfl, rfl⟩))
    first | go_end0 | (refine bodyPost_ret (results_none rfl _ _ _) rfl ?_)
    exact ⟨rfl, HB, _, by rw [← HE.out]; exact M⟩
theorem wt_cr {m : Ms} {tok : List UInt8} {left N ab : Int} (h13 : b[k]? = some 13) (ht : 0 < tok.length) : Wt b ans a k ⟨#[13]⟩ 32 false (fun i => match i with | 0 => bF ans a k 9 tok m left N ab | _ => bF ans a (k + 1) 10 [] m left N ab) := by
  have hl : bl (⟨#[13]⟩ : ByteArray) = [13] := rfl
  refine ⟨fun i c hd hc hk => ?_, fun i c d hd hc hk hne => ?_, fun i hi => ?_, (fun i hi h => by cases h), fun i hi => ?_, .inr (.inr (.inr rfl))⟩
  · rw [hl] at hd
    match i, hd with
    | 0, hd =>
      obtain rfl : c = 13 := by simpa using hd.symm
      exact dig_end rfl ht
    | i + 1, hd => simp at hd
  · rw [hl] at hd
    match i, hd with
    | 0, hd =>
      obtain rfl : d = 13 := by simpa using hd.symm
      rw [Nat.add_zero, h13] at hc
      exact absurd (Option.some.inj hc).symm hne
    | i + 1, hd => simp at hd
  · have hi2 : i < 1 := hi
    obtain rfl : i = 0 := by omega
    rfl
  · have hi2 : i < 1 := hi
    obtain rfl : i = 0 := by omega
    rfl
/-- Behind a piece's bytes. -/
def stT (ans : Bool) (a k : Nat) (m : Ms) (left N ab : Int) : Nat → Fs
  | 0 => bF ans a k 12 [] m left N ab
  | 1 => bF ans a (k + 1) 13 [] m left N ab
  | _ => if N = 0 then eF ans a (k + 2) m else bF ans a (k + 2) 9 [] m left 0 ab
theorem wt_tail {m : Ms} {left N ab : Int} : Wt b ans a k ⟨#[13, 10]⟩ 32 false (stT ans a k m left N ab) := by
  have hl : bl (⟨#[13, 10]⟩ : ByteArray) = [13, 10] := rfl
  refine ⟨fun i c hd hc hk => ?_, fun i c d hd hc hk hne => ?_, fun i hi => ?_, (fun i hi h => by cases h), fun i hi => ?_, .inr (.inr (.inr rfl))⟩
  · rw [hl] at hd
    match i, hd with
    | 0, hd =>
      obtain rfl : c = 13 := by simpa using hd.symm
      exact tail_put rfl
    | 1, hd =>
      obtain rfl : c = 10 := by simpa using hd.symm
      show oneS (bF ans a (k + 1) 13 [] m left N ab) 10 = .ok (if N = 0 then eF ans a (k + 2) m else bF ans a (k + 2) 9 [] m left 0 ab)
      by_cases hN : N = 0
      · rw [if_pos hN]; subst hN; exact last_end rfl
      · rw [if_neg hN]; exact last_more rfl hN
    | i + 2, hd => simp at hd
  · rw [hl] at hd
    match i, hd with
    | 0, hd =>
      obtain rfl : d = 13 := by simpa using hd.symm
      exact tail_bad (fun h => hne (UInt8.toNat_inj.1 h))
    | 1, hd =>
      obtain rfl : d = 10 := by simpa using hd.symm
      exact last_bad (fun h => hne (UInt8.toNat_inj.1 h))
    | i + 2, hd => simp at hd
  · have hi2 : i < 2 := hi
    match i, hi2 with
    | 0, _ => rfl
    | 1, _ => rfl
  · have hi2 : i < 2 := hi
    match i, hi2 with
    | 0, _ => rfl
    | 1, _ => rfl
/-- What becomes of the reader when a piece's bytes are taken. -/
theorem tk_piece {R : Rd} {m : Nat} {left ab : Int} (h1 : R.bad = 0) (h2 : R.more = false) (h : Atk b ans a R.at_ (if m = 0 then bF ans a R.at_ 12 [] R.m left 0 ab else bF ans a R.at_ 11 [] R.m (m : Int) (m : Int) ab)) : ∃ l2, RnF b ans a (tkR b R m).at_ (stT ans a (tkR b R m).at_ (tkR b R m).m l2 (m : Int) ab 0) (tkR b R m) ∧ (tkR b R m).head = R.head ∧ (tkR b R m).m.heads = R.m.heads ∧ R.at_ ≤ (tkR b R m).at_ ∧ (tkR b R m).m.body.length ≤ R.m.body.length + m := by
  by_cases hlt : b.length < R.at_ + m
  · have e : tkR b R m = { R with more := true } := by unfold tkR; rw [if_pos ⟨h1, h2⟩, if_pos hlt]
    rw [e]
    refine ⟨0, .inr ?_, rfl, rfl, Nat.le_refl _, Nat.le_add_right _ _⟩
    show Stp b ans a R.at_ R.bad true
    rw [h1]
    obtain ⟨k, rfl⟩ : ∃ k, m = k + 1 := ⟨m - 1, by have := h.1; omega⟩
    rw [if_neg (by omega), show ((k + 1 : Nat) : Int) = (k : Int) + 1 from rfl] at h
    obtain ⟨F, f1, f2⟩ := (Atk.piece k R.at_ R.m h).2 (by omega)
    exact .more f1 f2 h.1
  · have e : tkR b R m = { R with m := { R.m with body := R.m.body ++ (b.drop R.at_).take m }, at_ := R.at_ + m } := by unfold tkR; rw [if_pos ⟨h1, h2⟩, if_neg hlt]
    rw [e]
    have hbl : (R.m.body ++ (b.drop R.at_).take m).length ≤ R.m.body.length + m := by rw [List.length_append, List.length_take]; omega
    by_cases h0 : m = 0
    · subst h0
      rw [if_pos rfl] at h
      refine ⟨left, .inl ⟨h1, h2, rfl, ?_⟩, rfl, rfl, Nat.le_add_right _ _, hbl⟩
      show Atk b ans a (R.at_ + 0) (bF ans a (R.at_ + 0) 12 [] { R.m with body := R.m.body ++ (b.drop R.at_).take 0 } left ((0 : Nat) : Int) ab)
      rw [List.take_zero, List.append_nil]
      exact h
    · obtain ⟨k, rfl⟩ : ∃ k, m = k + 1 := ⟨m - 1, by omega⟩
      rw [if_neg h0, show ((k + 1 : Nat) : Int) = (k : Int) + 1 from rfl] at h
      exact ⟨0, .inl ⟨h1, h2, rfl, (Atk.piece k R.at_ R.m h).1 (by omega)⟩, rfl, rfl, Nat.le_add_right _ _, hbl⟩
theorem hex_ge (c : UInt8) : -1 ≤ hexB c := by unfold hexB; split <;> (try split) <;> (try split) <;> omega
theorem hex_13 : hexB 13 = -1 := by decide
/-- What a piece gives: is there another one? -/
def PcV2 (n g : Nat) (b : List UInt8) (A : Option Addr) (cp : Nat) (ans : Bool) (a f : Nat) (ab : Int) (w : World) (e : Ending) (w' : World) : Prop := Below n w w' ∧ ∃ (q : Bool) (R' : Rd) (hs' bd' : Value), e = .returned (.bool q) ∧ RdM n g R' b A cp hs' bd' w' ∧ R'.head = false ∧
  ((q = true ∧ Rn b ans a (fun k m => (∃ left, Atk b ans a k (bF ans a k 9 [] m left 0 ab)) ∧ m.body.length ≤ 65536 ∧ f < k ∧ m.heads.length ≤ 64) R') ∨ (q = false ∧ Rn b ans a (fun k m => Atk b ans a k (eF ans a k m) ∧ m.body.length ≤ 65536 ∧ f < k ∧ m.heads.length ≤ 64) R'))
set_option maxRecDepth 100000 in
set_option maxHeartbeats 16000000 in
theorem rchunk_any {left ab : Int} (M : RdM n g R b A cp hs bd w) (h1 : R.bad = 0) (h2 : R.more = false) (hA : Atk b ans a R.at_ (bF ans a R.at_ 9 [] R.m left 0 ab)) (hbl : R.m.body.length ≤ 65536) (h64 : R.m.heads.length ≤ 64) (hh : R.head = false) (hl : b.length ≤ 1099511627776) (hb0 : b ≠ []) :
    Calls Tryz.prog 87 #[.pointer (some ⟨g, 0, none⟩)] w (PcV2 n g b A cp ans a R.at_ ab w) := by
  obtain ⟨f, hf⟩ : ∃ f, R.at_ = f := ⟨_, rfl⟩
  have HB := Below.refl n w
  have HLB := Lib.hid hl
  have HBL := Lib.hid hbl
  have HB0 := Lib.hid hb0
  have H64 := Lib.hid h64
  have HR0 : Hid (f ≤ R.at_ ∧ ((R.bad = 0 ∧ R.more = false ∧ Atk b ans a R.at_ (bF ans a R.at_ 9 (sl b f R.at_) R.m left 0 ab)) ∨ Stp b ans a R.at_ R.bad R.more)) := Lib.hid ⟨by omega, .inl ⟨h1, h2, by rw [hf, sl_nil]; rw [← hf]; exact hA⟩⟩
  have HH0 := Lib.hid hh
  rw [hf]
  have HF0 := Lib.hid hf
  clear hl hbl hb0 h64 hh h1 h2 hA hf
  go_enter Tryz.func87, Tryz.ntmps87
  go_wp2
  go_loopw [3, 4] (fun nv dv wr => ∃ (N : Nat) (R1 : Rd), nv = .int .i64 (N : Int) ∧ dv = .int .i64 ((R1.at_ - f : Nat) : Int) ∧ RdM n g R1 b A cp hs bd wr ∧ Below n w wr ∧ R1.head = false ∧ R1.m = R.m ∧ R1.at_ - f ≤ 8 ∧ N + 1 ≤ 16 ^ (R1.at_ - f) ∧ Hid (f ≤ R1.at_ ∧ ((R1.bad = 0 ∧ R1.more = false ∧ Atk b ans a R1.at_ (bF ans a R1.at_ 9 (sl b f R1.at_) R.m left (N : Int) ab)) ∨ Stp b ans a R1.at_ R1.bad R1.more))) (fun _ _ wr => b.length - rdPos wr g)
  case atStart => exact ⟨0, R, rfl, (by rw [HF0.out, Nat.sub_self]; rfl), M, HB, HH0.out, rfl, (by rw [HF0.out]; omega), (by rw [HF0.out, Nat.sub_self]; exact Nat.le_refl _), HR0⟩
  case round =>
    clear HB M HR0 HH0
    obtain ⟨N, R1, rfl, rfl, M, HB, hh, hm, hd8, hn16, HR1⟩ := hrel
    have HHH := Lib.hid hh
    have HMM := Lib.hid hm
    have HM0 := Lib.hid M
    have hln := HLB.out
    have HLA : Hid (R1.at_ ≤ 1099511627776) := Lib.hid (by
      rcases HR1.out.2 with h | h
      · have := h.2.2.1; omega
      · have := h.le; omega)
    obtain ⟨t, ht⟩ : ∃ t, R1.at_ - f = t := ⟨_, rfl⟩
    rw [ht] at hd8 hn16 ⊢
    have HTT := Lib.hid ht
    have hpw : (16 : Nat) ^ t ≤ 4294967296 := (Nat.pow_le_pow_right (by omega) hd8 : (16 : Nat) ^ t ≤ 16 ^ 8)
    have HN16 := Lib.hid hn16
    have hN32 : (N : Int) ≤ 4294967296 := by omega
    clear hh hm ht hn16 hpw
    cases hp : pkB b R1
    · have HPB := Lib.hid hp
      have HST : Hid (Stp b ans a (pkN b R1).at_ (pkN b R1).bad (pkN b R1).more) := Lib.hid (Rn.none_ (ok := fun k m => Atk b ans a k (bF ans a k 9 (sl b f k) R.m left (N : Int) ab)) HR1.out.2 (fun h => ⟨_, h, rfl, rfl, fun x => by rw [HHH.out] at x; cases x⟩) hp)
      clear hp
      go_wp2_with (first
        | (go_at_call 82; (with_reducible refine (peek_none M HPB.out HLB.out HLA.out).mono ?_); rintro e w5 ⟨rfl, hm, hb⟩; replace M := hm; replace HB := HB.trans hb; clear hm hb))
      go_ret
      exact ⟨HB, false, pkN b R1, _, _, rfl, M, pkN_head.trans HHH.out, .inr ⟨rfl, .inr HST.out⟩⟩
    · rename_i c
      have HPB := Lib.hid hp
      obtain ⟨p1, p2, h, p3, p4⟩ := Rn.some_ (ok := fun k m => Atk b ans a k (bF ans a k 9 (sl b f k) R.m left (N : Int) ab)) HR1.out.2 hp
      have HFK := Lib.hid HR1.out.1
      have hlt : R1.at_ < b.length := (List.getElem?_eq_some_iff.1 p3).1
      have HSN : Hid (sl b f (R1.at_ + 1) = sl b f R1.at_ ++ [c]) := Lib.hid (sl_snoc p3 HR1.out.1)
      have HSL : Hid ((sl b f R1.at_).length = t) := Lib.hid (by rw [sl_len (Nat.le_of_lt hlt)]; exact HTT.out)
      have c1 : wr.cell? ⟨g, 1, none⟩ = some (.int .i64 (R1.at_ : Int)) := M.box.cell 1
      have HP := Lib.hid (show R1.bad = 0 ∧ R1.more = false from ⟨p1, p2⟩)
      have hal : (R1.at_ : Int) ≤ 1099511627776 := by have := HLA.out; omega
      clear hp p1 p2 p4
      by_cases a1 : c.toNat = 13
      · obtain rfl : c = 13 := UInt8.toNat_inj.1 a1
        have b1 : ((13 : UInt8).toNat : Int) = 13 := rfl
        by_cases a2 : 0 < t
        · have b2 : 0 < (t : Int) := by omega
          have HRN : Hid (RnF b ans a R1.at_ ((fun i => match i with | 0 => bF ans a R1.at_ 9 (sl b f R1.at_) R.m left (N : Int) ab | _ => bF ans a (R1.at_ + 1) 10 [] R.m left (N : Int) ab : Nat → Fs) 0) R1) := Lib.hid (.inl ⟨HP.out.1, HP.out.2, rfl, h⟩)
          have HWT : Hid (R1.bad = 0 → R1.more = false → Wt b ans a R1.at_ ⟨#[13]⟩ 32 R1.head (fun i => match i with | 0 => bF ans a R1.at_ 9 (sl b f R1.at_) R.m left (N : Int) ab | _ => bF ans a (R1.at_ + 1) 10 [] R.m left (N : Int) ab)) := Lib.hid fun _ _ => by
            rw [HHH.out]
            exact wt_cr p3 (by rw [HSL.out]; exact a2)
          have HFT : Hid (f < R1.at_) := Lib.hid (by have := HTT.out; omega)
          clear h p3 hlt c1
          go_wp2_with (first
            | (go_at_call 82; (with_reducible refine (peek_some M HPB.out HLB.out).mono ?_); rintro e w5 ⟨rfl, hm, hb⟩; replace M := hm; replace HB := HB.trans hb; clear hm hb)
            | (go_at_call 77; (with_reducible refine (rwant_any M HRN.out HWT.out HLB.out (by decide)).mono ?_); rintro e w9 ⟨rfl, hb, R9, hm9, hr9, e9, e10, e11⟩; replace M := hm9; replace HB := HB.trans hb; have HR9 := Lib.hid hr9; have HM9 := Lib.hid e9; have HH9 := Lib.hid e10; clear hm9 hr9 e9 e10 e11 hb HRN HWT))
          have HMR : Hid (R9.m = R.m) := Lib.hid (HM9.out.trans HMM.out)
          have HHR : Hid (R9.head = false) := Lib.hid (HH9.out.trans HHH.out)
          have HR9B : Hid ((R9.bad = 0 ∧ R9.more = false ∧ R9.at_ = R1.at_ + 1 ∧ Atk b ans a R9.at_ (bF ans a R9.at_ 10 [] R.m left (N : Int) ab)) ∨ Stp b ans a R9.at_ R9.bad R9.more) := Lib.hid (HR9.out.imp (fun h => ⟨h.1, h.2.1, h.2.2.1, by rw [h.2.2.1]; exact h.2.2.2⟩) id)
          have HLA9 : Hid (R9.at_ ≤ 1099511627776) := Lib.hid (by
            have := HLB.out
            rcases HR9B.out with h | h
            · have := h.2.2.2.1; omega
            · have := h.le; omega)
          cases hp : pkB b R9
          · have HPB := Lib.hid hp
            have HST : Hid (Stp b ans a (pkN b R9).at_ (pkN b R9).bad (pkN b R9).more) := Lib.hid (Rn.none_ (ok := fun k m => Atk b ans a k (bF ans a k 10 [] R.m left (N : Int) ab)) (HR9B.out.imp (fun h => ⟨h.1, h.2.1, h.2.2.2⟩) id) (fun h => ⟨_, h, rfl, rfl, fun x => by rw [HHR.out] at x; cases x⟩) hp)
            clear hp
            go_wp2_with (first
              | (go_at_call 82; (with_reducible refine (peek_none M HPB.out HLB.out HLA9.out).mono ?_); rintro e w10 ⟨rfl, hm, hb⟩; replace M := hm; replace HB := HB.trans hb; clear hm hb))
            go_ret
            exact ⟨HB, false, pkN b R9, _, _, rfl, M, pkN_head.trans HHR.out, .inr ⟨rfl, .inr HST.out⟩⟩
          · rename_i c
            have HPB := Lib.hid hp
            obtain ⟨p1, p2, h, p3, p4⟩ := Rn.some_ (ok := fun k m => k = R1.at_ + 1 ∧ Atk b ans a k (bF ans a k 10 [] R.m left (N : Int) ab)) (HR9B.out.imp (fun h => ⟨h.1, h.2.1, h.2.2⟩) id) hp
            have HAE := Lib.hid h.1
            replace h := h.2
            have HP9 := Lib.hid (show R9.bad = 0 ∧ R9.more = false from ⟨p1, p2⟩)
            have HTKL : Hid (R9.at_ < b.length ∧ b.length ≤ 1099511627776) := Lib.hid ⟨(List.getElem?_eq_some_iff.1 p3).1, HLB.out⟩
            have hal9 : (R9.at_ : Int) ≤ 1099511627776 := by have := HLA9.out; omega
            clear hp p1 p2 p4
            by_cases a3 : c.toNat = 10
            · have b3 : (c.toNat : Int) = 10 := by omega
              obtain ⟨bA, bc, hbde⟩ := bt_slice M.rb
              rw [HMR.out] at hbde
              have HBDE := Lib.hid hbde
              clear hbde
              have hbn : (R.m.body.length : Int) ≤ 65536 := by have := HBL.out; omega
              by_cases a4 : 65536 < R.m.body.length + N
              · have b4 : 65536 < (R.m.body.length : Int) + (N : Int) := by omega
                have HN : Hid (Stp b ans a R9.at_ 2 false) := Lib.hid (Stp.bad h rfl rfl p3 (sized_long a3 (by omega)) (by omega))
                clear h p3
                go_wp2_with (first
                  | (go_at_call 82; (with_reducible refine (peek_some M HPB.out HLB.out).mono ?_); rintro e w10 ⟨rfl, hm, hb⟩; replace M := hm; replace HB := HB.trans hb; clear hm hb; have c10 : w10.cell? ⟨g, 10, none⟩ = some (.slice bA R.m.body.length bc) := (by have h5 := M.box.cell 10; rw [← HBDE.out]; exact h5))
                  | ((with_reducible refine is_store ?_); refine wpl_store_cell rfl 31 (.tmp 72) _ rfl g 2 rfl (.int .i64 2) rfl _ _ M.box (show 2 < 11 by decide) one_c rfl ?_; intro w11 hw; replace HB := HB.trans (M.low hw); replace M := M.s2 2 hw; clear hw))
                go_ret
                exact ⟨HB, false, { R9 with bad := 2 }, _, _, rfl, M, HHR.out, .inr ⟨rfl, .inr (by show Stp b ans a R9.at_ 2 R9.more; rw [HP9.out.2]; exact HN.out)⟩⟩
              · have b4 : ¬ 65536 < (R.m.body.length : Int) + (N : Int) := by omega
                have HN : Hid (Atk b ans a (R9.at_ + 1) (if N = 0 then bF ans a (R9.at_ + 1) 12 [] R9.m left 0 ab else bF ans a (R9.at_ + 1) 11 [] R9.m (N : Int) (N : Int) ab)) := Lib.hid (by
                  rw [HMR.out]
                  by_cases h0 : N = 0
                  · rw [if_pos h0]
                    subst h0
                    exact h.step p3 (sized_zero a3 (by omega))
                  · rw [if_neg h0]
                    exact h.step p3 (sized_put a3 (by omega) (by omega)))
                clear h p3
                go_wp2_with (first
                  | (go_at_call 82; (with_reducible refine (peek_some M HPB.out HLB.out).mono ?_); rintro e w10 ⟨rfl, hm, hb⟩; replace M := hm; replace HB := HB.trans hb; clear hm hb; have c1 : w10.cell? ⟨g, 1, none⟩ = some (.int .i64 (R9.at_ : Int)) := M.box.cell 1; have c10 : w10.cell? ⟨g, 10, none⟩ = some (.slice bA R.m.body.length bc) := (by have h5 := M.box.cell 10; rw [← HBDE.out]; exact h5))
                  | ((with_reducible refine is_store ?_); refine wpl_store_cell rfl 3 (.tmp 79) _ rfl g 1 rfl (.int .i64 ((R9.at_ : Int) + 1)) rfl _ _ M.box (show 1 < 11 by decide) one_i rfl ?_; intro w11 hw; replace HB := HB.trans (M.low hw); replace M := M.s1 (R9.at_ + 1) hw; clear hw c1 c10)
                  | (go_at_call 86; go_loud (refine (rtake_any M HLB.out (by omega) (by have := HLA9.out; have := HTKL.out.1; have := HTKL.out.2; show R9.at_ + 1 ≤ _; omega) (by show R9.m.body.length ≤ _; rw [HMR.out]; have := HBL.out; omega) HB0.out).mono ?_); rintro e w12 ⟨rfl, hb, bd2, hm9⟩; replace M := hm9; replace HB := HB.trans hb; clear hm9 hb; obtain ⟨l2, hr10, k1, k2, k3, k4⟩ := tk_piece (R := { R9 with at_ := R9.at_ + 1 }) (m := N) HP9.out.1 HP9.out.2 HN.out; generalize tkR b { R9 with at_ := R9.at_ + 1 } N = R10 at *; have HRN := Lib.hid hr10; have HWT : Hid (R10.bad = 0 → R10.more = false → Wt b ans a R10.at_ ⟨#[13, 10]⟩ 32 R10.head (stT ans a R10.at_ R10.m l2 (N : Int) ab)) := Lib.hid (fun _ _ => (by rw [k1, HHR.out]; exact wt_tail)); have K1 : Hid (R10.head = false) := Lib.hid (k1.trans HHR.out); have K2 : Hid (R10.m.heads = R.m.heads) := Lib.hid (by rw [k2]; show R9.m.heads = _; rw [HMR.out]); have K3 : Hid (f < R10.at_) := Lib.hid (by have h5 : R9.at_ + 1 ≤ R10.at_ := k3; have := HAE.out; have := HFT.out; omega); have K4 : Hid (R10.m.body.length ≤ 65536) := Lib.hid (by have h5 : R10.m.body.length ≤ R9.m.body.length + N := k4; rw [HMR.out] at h5; omega); clear hr10 k1 k2 k3 k4 HN a4 b4 hbn)
                  | (go_at_call 77; (with_reducible refine (rwant_any M HRN.out HWT.out HLB.out (by decide)).mono ?_); rintro e w13 ⟨rfl, hb, R11, hm9, hr9, e9, e10, e11⟩; replace M := hm9; replace HB := HB.trans hb; have HR11 := Lib.hid hr9; have HM11 := Lib.hid e9; have HH11 := Lib.hid e10; clear hm9 hr9 e9 e10 e11 hb HRN HWT))
                have HF : Hid (∀ ok : Nat → Ms → Prop, (Atk b ans a (R10.at_ + 2) (if (N : Int) = 0 then eF ans a (R10.at_ + 2) R10.m else bF ans a (R10.at_ + 2) 9 [] R10.m l2 0 ab) → ok (R10.at_ + 2) R10.m) → Rn b ans a (fun k m => ok k m ∧ m.body.length ≤ 65536 ∧ f < k ∧ m.heads.length ≤ 64) R11) := Lib.hid fun ok hok => by
                  rcases HR11.out with h | h
                  · have h3 : R11.at_ = R10.at_ + 2 := h.2.2.1
                    refine .inl ⟨h.1, h.2.1, ?_, ?_, ?_, ?_⟩
                    · rw [h3, HM11.out]
                      exact hok h.2.2.2
                    · rw [HM11.out]; exact K4.out
                    · rw [h3]; have := K3.out; omega
                    · rw [HM11.out, K2.out]; exact H64.out
                  · exact .inr h
                by_cases hN0 : N = 0
                · have hb0 : ¬ 0 < (N : Int) := by omega
                  have HN0 := Lib.hid hN0
                  clear hN0
                  go_wp2
                  go_ret
                  exact ⟨HB, decide (0 < N), R11, _, _, rfl, M, HH11.out.trans K1.out, .inr ⟨decide_eq_false (by have := HN0.out; omega), HF.out (fun k m => Atk b ans a k (eF ans a k m)) (fun h => by rw [if_pos (by have := HN0.out; omega)] at h; exact h)⟩⟩
                · have hb0 : 0 < (N : Int) := by omega
                  have HN0 := Lib.hid hN0
                  clear hN0
                  go_wp2
                  go_ret
                  exact ⟨HB, decide (0 < N), R11, _, _, rfl, M, HH11.out.trans K1.out, .inl ⟨decide_eq_true (by have := HN0.out; omega), HF.out (fun k m => ∃ left, Atk b ans a k (bF ans a k 9 [] m left 0 ab)) (fun h => by rw [if_neg (by have := HN0.out; omega)] at h; exact ⟨l2, h⟩)⟩⟩
            · have b3 : ((c.toNat : Int) == 10) = false := by rw [beq_eq_false_iff_ne]; omega
              have HN : Hid (Stp b ans a R9.at_ 32 false) := Lib.hid (Stp.bad h rfl rfl p3 (sized_bad a3) (by omega))
              clear h p3
              go_wp2_with (first
                | (go_at_call 82; (with_reducible refine (peek_some M HPB.out HLB.out).mono ?_); rintro e w10 ⟨rfl, hm, hb⟩; replace M := hm; replace HB := HB.trans hb; clear hm hb)
                | ((with_reducible refine is_store ?_); refine wpl_store_cell rfl 31 (.tmp 60) _ rfl g 2 rfl (.int .i64 32) rfl _ _ M.box (show 2 < 11 by decide) one_c rfl ?_; intro w11 hw; replace HB := HB.trans (M.low hw); replace M := M.s2 32 hw; clear hw))
              go_ret
              exact ⟨HB, false, { R9 with bad := 32 }, _, _, rfl, M, HHR.out, .inr ⟨rfl, .inr (by show Stp b ans a R9.at_ 32 R9.more; rw [HP9.out.2]; exact HN.out)⟩⟩
        · have b2 : ¬ 0 < (t : Int) := by omega
          have HHX : Hid (∀ wx, Calls Tryz.prog 90 #[.int .u8 ((13 : UInt8).toNat : Int)] wx fun e w' => e = .returned (.int .i64 (-1)) ∧ wx = w') := Lib.hid fun wx => by have h := rhex_any 13 wx; rw [hex_13] at h; exact h
          have HN : Hid (Stp b ans a R1.at_ 32 false) := Lib.hid (Stp.bad h rfl rfl p3 (dig_bad (fun x => by have := HSL.out; omega) (.inl (by rw [hex_13]; omega))) (by omega))
          clear h p3 hlt
          go_wp2_with (first
            | (go_at_call 82; (with_reducible refine (peek_some M HPB.out HLB.out).mono ?_); rintro e w5 ⟨rfl, hm, hb⟩; replace M := hm; replace HB := HB.trans hb; clear hm hb; clear c1; have c1 : w5.cell? ⟨g, 1, none⟩ = some (.int .i64 (R1.at_ : Int)) := M.box.cell 1)
            | (go_at_call 90; (refine (HHX.out _).mono ?_); rintro e w9 ⟨rfl, rfl⟩)
            | ((with_reducible refine is_store ?_); refine wpl_store_cell rfl 31 (.tmp 33) _ rfl g 2 rfl (.int .i64 32) rfl _ _ M.box (show 2 < 11 by decide) one_c rfl ?_; intro w6 hw; replace HB := HB.trans (M.low hw); replace M := M.s2 32 hw; clear hw))
          go_ret
          exact ⟨HB, false, { R1 with bad := 32 }, _, _, rfl, M, HHH.out, .inr ⟨rfl, .inr (by show Stp b ans a R1.at_ 32 R1.more; rw [HP.out.2]; exact HN.out)⟩⟩
      · have b1 : ((c.toNat : Int) == 13) = false := by rw [beq_eq_false_iff_ne]; omega
        have hx1 := hex_ge c
        have hx2 := hexB_lt c
        obtain ⟨d, hd⟩ : ∃ d, hexB c = d := ⟨_, rfl⟩
        rw [hd] at hx1 hx2
        have HHX : Hid (∀ wx, Calls Tryz.prog 90 #[.int .u8 (c.toNat : Int)] wx fun e w' => e = .returned (.int .i64 d) ∧ wx = w') := Lib.hid fun wx => by have h := rhex_any c wx; rw [hd] at h; exact h
        have HHD := Lib.hid hd
        clear hd
        by_cases a3 : d < 0
        · have HN : Hid (Stp b ans a R1.at_ 32 false) := Lib.hid (Stp.bad h rfl rfl p3 (dig_bad (fun x => a1 x.1) (.inl (by rw [HHD.out]; exact a3))) (by omega))
          clear h p3 hlt
          go_wp2_with (first
            | (go_at_call 82; (with_reducible refine (peek_some M HPB.out HLB.out).mono ?_); rintro e w5 ⟨rfl, hm, hb⟩; replace M := hm; replace HB := HB.trans hb; clear hm hb; clear c1; have c1 : w5.cell? ⟨g, 1, none⟩ = some (.int .i64 (R1.at_ : Int)) := M.box.cell 1)
            | (go_at_call 90; (refine (HHX.out _).mono ?_); rintro e w9 ⟨rfl, rfl⟩)
            | ((with_reducible refine is_store ?_); refine wpl_store_cell rfl 31 (.tmp 33) _ rfl g 2 rfl (.int .i64 32) rfl _ _ M.box (show 2 < 11 by decide) one_c rfl ?_; intro w6 hw; replace HB := HB.trans (M.low hw); replace M := M.s2 32 hw; clear hw))
          go_ret
          exact ⟨HB, false, { R1 with bad := 32 }, _, _, rfl, M, HHH.out, .inr ⟨rfl, .inr (by show Stp b ans a R1.at_ 32 R1.more; rw [HP.out.2]; exact HN.out)⟩⟩
        · by_cases a4 : t = 8
          · have b4 : (t : Int) = 8 := by omega
            have HN : Hid (Stp b ans a R1.at_ 32 false) := Lib.hid (Stp.bad h rfl rfl p3 (dig_bad (fun x => a1 x.1) (.inr (by rw [HSL.out]; exact a4))) (by omega))
            clear h p3 hlt
            go_wp2_with (first
              | (go_at_call 82; (with_reducible refine (peek_some M HPB.out HLB.out).mono ?_); rintro e w5 ⟨rfl, hm, hb⟩; replace M := hm; replace HB := HB.trans hb; clear hm hb; clear c1; have c1 : w5.cell? ⟨g, 1, none⟩ = some (.int .i64 (R1.at_ : Int)) := M.box.cell 1)
              | (go_at_call 90; (refine (HHX.out _).mono ?_); rintro e w9 ⟨rfl, rfl⟩)
              | ((with_reducible refine is_store ?_); refine wpl_store_cell rfl 31 (.tmp 33) _ rfl g 2 rfl (.int .i64 32) rfl _ _ M.box (show 2 < 11 by decide) one_c rfl ?_; intro w6 hw; replace HB := HB.trans (M.low hw); replace M := M.s2 32 hw; clear hw))
            go_ret
            exact ⟨HB, false, { R1 with bad := 32 }, _, _, rfl, M, HHH.out, .inr ⟨rfl, .inr (by show Stp b ans a R1.at_ 32 R1.more; rw [HP.out.2]; exact HN.out)⟩⟩
          · have b4 : ((t : Int) == 8) = false := by rw [beq_eq_false_iff_ne]; omega
            obtain ⟨D, rfl⟩ : ∃ D : Nat, d = (D : Int) := ⟨d.toNat, by omega⟩
            have HN : Hid (Atk b ans a (R1.at_ + 1) _) := Lib.hid (h.step p3 (dig_put (by rw [HHD.out]; omega) (by rw [HSL.out]; exact a4)))
            rw [← HSN.out, HHD.out] at HN
            have HL1 := Lib.hid hlt
            have hwr1 : IntKind.i64.wrap (16 * (N : Int)) = 16 * (N : Int) := by rw [IntKind.wrap_i64]; omega
            have hwr2 : IntKind.i64.wrap (16 * (N : Int) + (D : Int)) = 16 * (N : Int) + (D : Int) := by rw [IntKind.wrap_i64]; omega
            have hD15 : (D : Int) ≤ 15 := hx2
            have HD15 := Lib.hid hD15
            have HD8 : Hid (t ≤ 8 ∧ t ≠ 8) := Lib.hid ⟨hd8, a4⟩
            clear h p3 hlt
            go_wp2_with (first
              | (go_at_call 82; (with_reducible refine (peek_some M HPB.out HLB.out).mono ?_); rintro e w5 ⟨rfl, hm, hb⟩; replace M := hm; replace HB := HB.trans hb; clear hm hb; clear c1; have c1 : w5.cell? ⟨g, 1, none⟩ = some (.int .i64 (R1.at_ : Int)) := M.box.cell 1)
              | (go_at_call 90; (refine (HHX.out _).mono ?_); rintro e w9 ⟨rfl, rfl⟩)
              | ((with_reducible refine is_store ?_); refine wpl_store_cell rfl 3 (.tmp 46) _ rfl g 1 rfl (.int .i64 ((R1.at_ : Int) + 1)) rfl _ _ M.box (show 1 < 11 by decide) one_i rfl ?_; intro w6 hw; replace HB := HB.trans (M.low hw); replace M := M.s1 (R1.at_ + 1) hw; clear hw c1))
            go_roundw
            case rel =>
              have hat1 : R1.at_ + 1 - f = t + 1 := by have := HFK.out; have := HTT.out; omega
              repeat apply Exists.intro
              refine ⟨⟨16 * N + D, { R1 with at_ := R1.at_ + 1 }, ?_, ?_, M, HB, HHH.out, HMM.out, ?_, ?_, Lib.hid ⟨(by show f ≤ R1.at_ + 1; have := HFK.out; omega), .inl ⟨HP.out.1, HP.out.2, ?_⟩⟩⟩, rfl⟩
              · show Value.int .i64 (16 * (N : Int) + (D : Int)) = _
                congr 1
              · show _ = Value.int .i64 ((R1.at_ + 1 - f : Nat) : Int)
                rw [hat1]
                rfl
              · show R1.at_ + 1 - f ≤ 8
                rw [hat1]
                have := HD8.out
                omega
              · show 16 * N + D + 1 ≤ 16 ^ (R1.at_ + 1 - f)
                rw [hat1, Nat.pow_succ]
                have := HN16.out
                have := HD15.out
                omega
              · have h5 := HN.out
                have e5 : (N : Int) * 16 + (D : Int) = ((16 * N + D : Nat) : Int) := by omega
                rw [e5] at h5
                exact h5
            case measure => (rw [rdPos_of HM0.out, rdPos_of M]; show b.length - (R1.at_ + 1) < _; have := HL1.out; omega)
end
end Go.Proofs.YtbehakabglegjaaGreatDoor
