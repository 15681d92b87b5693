/- Layer 9: an answer's first line, as it is written. Layer 9: the first header of a name: the program's and the document's. -/
import Derived.Sort.Grow
import Derived.Test.YtbehakabglegjaaGreatDoorQ17
import Derived.Test.YtbehakabglegjaaGreatDoorQ18
namespace Go.Proofs.YtbehakabglegjaaGreatDoor
open Go.RowKit Go.PlainAid
set_option linter.unusedVariables false
set_option linter.unusedSimpArgs false
theorem itoa_any {n : Int} (hn : -9223372036854775808 ≤ n ∧ n ≤ 9223372036854775807) {w : World} (hw : WhC w) : Calls Tryz.prog 37 #[.int .i64 n] w fun e w' => e = .returned (.string (txt (Lib.itoa n))) ∧ Below w.heap.size w w' :=
  (Tryz.strconv_Itoa n hn.1 hn.2 w hw.t10).mono fun e w' ⟨h1, k, os, h2⟩ => ⟨h1, by
    subst h2
    have h3 := below_dq (w := w) (n := k) rfl
    refine ⟨h3.os, h3.tape, h3.output, Nat.le_trans h3.size (by rw [«Sort».size_grow]; exact Nat.le_add_right _ _), fun q hq => ?_⟩
    rw [«Sort».heap_grow_old _ _ (Nat.lt_of_lt_of_le hq h3.size)]
    exact h3.block q hq⟩
theorem itoa_len {n : Int} (hn : -9223372036854775808 ≤ n ∧ n ≤ 9223372036854775807) : (Lib.itoa n).length ≤ 20 := by
  unfold Lib.itoa
  have h := fun u (hu : u < 10 ^ 19) => (dec_all u).2.2.2 19 (by decide) hu
  have e : (10 : Nat) ^ 19 = 10000000000000000000 := rfl
  rw [e] at h
  split
  · have := h n.natAbs (by omega)
    rw [List.length_cons]; omega
  · have := h n.toNat (by omega)
    omega
set_option maxRecDepth 100000 in
set_option maxHeartbeats 8000000 in
theorem start_ans {me ta re : ByteArray} {sn : Int} {hd : List (ByteArray × ByteArray)} {bo : List UInt8} {hs bd : Value} {w : World} (h1 : re.size ≤ 1099511627776) (hn : -9223372036854775808 ≤ sn ∧ sn ≤ 9223372036854775807) (hw : Wh w w.heap.size) (h0 : me.size = 0) :
    Calls Tryz.prog 31 #[.agg (Mm.cells ⟨⟨me, ta, sn, re, hd, bo⟩, hs, bd⟩)] w fun e w' => e = .returned (.tuple #[.string (txt (startL ⟨me, ta, sn, re, hd, bo⟩)), .bool (startB ⟨me, ta, sn, re, hd, bo⟩)]) ∧ Below w.heap.size w w' := by
  have HL : Hid (txt (startL ⟨me, ta, sn, re, hd, bo⟩) = ⟨#[72, 84, 84, 80, 47, 49, 46, 49, 32]⟩ ++ txt (Lib.itoa sn) ++ ⟨#[32]⟩ ++ re) := Lib.hid (by
    unfold startL
    rw [if_neg (by simpa using h0)]
    refine ext_bytes ?_
    simp [txt, bl, protoL])
  have HSB : Hid (startB ⟨me, ta, sn, re, hd, bo⟩ = ((decide (ta.size = 0) && (decide (100 ≤ sn) && decide (sn ≤ 599))) && (bl re).all isTextB)) := Lib.hid (by unfold startB; rw [if_neg (by simpa using h0)])
  have hme : me.toList.isEmpty = true := is_empty h0
  have hil := itoa_len hn
  have his : (txt (Lib.itoa sn)).size ≤ 20 := hil
  have g1 : ¬ 9223372036854775807 < 9 + (txt (Lib.itoa sn)).size := by omega
  have g2 : ¬ 9223372036854775807 < 9 + (txt (Lib.itoa sn)).size + 1 := by omega
  have g3 : ¬ 9223372036854775807 < 9 + (txt (Lib.itoa sn)).size + 1 + re.size := by omega
  have HF3 := Lib.hid (fun w => every_any 56 isTextB texts_any (by kernel_rfl) re w (by omega))
  have HI := Lib.hid hn
  have HW := Lib.hid hw
  clear h1 h0 hil his hn hw
  by_cases a1 : ta.size = 0
  · have hta := is_empty a1
    by_cases a2 : 100 ≤ sn
    · by_cases a3 : sn ≤ 599
      · by_cases a4 : (bl re).all isTextB = true
        · have HE3 : Hid (∀ w, Calls Tryz.prog 32 #[.string re, .func (.func 56) #[] #[]] w fun e w' => e = .returned (.bool true) ∧ w = w') := Lib.hid (fun w => by have h := HF3.out w; rw [show re.data.toList.all isTextB = true from a4] at h; exact h)
          have HS : Hid (startB ⟨me, ta, sn, re, hd, bo⟩ = true) := Lib.hid (by rw [HSB.out]; simp [a1, a2, a3, a4])
          clear HSB
          go_enter Tryz.func31, Tryz.ntmps31
          go_wp2_with (first
            | (refine wpl_box_at rfl 25 (.tmp 0) rfl _ rfl ?_; intro w1 hw; have B1 := hid_alloc0 hw; have HB := hid_grow hw; clear hw; have c0 : w1.cell? ⟨w.heap.size, 0, none⟩ = some (.string me) := B1.cell 0; have c1 : w1.cell? ⟨w.heap.size, 1, none⟩ = some (.string ta) := B1.cell 1; have c2 : w1.cell? ⟨w.heap.size, 2, none⟩ = some (.int .i64 sn) := B1.cell 2; have c3 : w1.cell? ⟨w.heap.size, 3, none⟩ = some (.string re) := B1.cell 3)
            | (go_at_call 32; (with_reducible refine (HE3.out _).mono ?_); rintro e w9 ⟨rfl, rfl⟩))
          have hst : ∀ w' : World, w'.heap = w1.heap → w'.cell? ⟨w.heap.size, 2, none⟩ = some (.int .i64 sn) ∧ w'.cell? ⟨w.heap.size, 3, none⟩ = some (.string re) := fun w' hh => ⟨(box_heap hh B1).cell 2, (box_heap hh B1).cell 3⟩
          refine wp_region_S (S := fun w' => w'.cell? ⟨w.heap.size, 2, none⟩ = some (.int .i64 sn) ∧ w'.cell? ⟨w.heap.size, 3, none⟩ = some (.string re)) (by kernel_rfl) (fun w2 hh => hst w2 hh) (fun w2 hh hbb HS0 => ?_)
          replace HB := HB.trans ((hbb _ (Nat.le_refl _)).mono HB.size)
          replace B1 := box_heap hh B1
          clear hh hbb hst
          refine TKC 0 71 rfl ?_
          try simp only [Act.put, zA, zB, zC]
          refine TKC 1 72 rfl ?_ (by (intro w hSw; (try dsimp only at hSw); have q1 := hSw.1; go_simp; try with_reducible rfl))
          try simp only [Act.put, zA, zB, zC]
          refine TKC 5 76 rfl ?_
          try simp only [Act.put, zA, zB, zC]
          refine TKC 6 77 rfl ?_ (by (intro w hSw; (try dsimp only at hSw); have q1 := hSw.2; go_simp; try with_reducible rfl))
          try simp only [Act.put, zA, zB, zC]
          refine TKC 8 79 rfl ?_
          try simp only [Act.put, zA, zB, zC]
          refine wpAnyH_ready (rs := [2]) (by kernel_rfl) (by simp) ?_
          refine AllReadyH.cons (o := ⟨some 73, _, _, _, _, _⟩) rfl (fun K hK => ?_) AllReadyH.nil
          go_simp
          (go_at_call 37; (refine (itoa_any HI.out (HW.out.at HB)).mono ?_); rintro e w10 ⟨rfl, hb⟩)
          replace B1 := IBox.below B1 hb (IBox.lt B1)
          replace HB := HB.trans (hb.mono HB.size)
          clear hb
          replace HS0 : w10.cell? ⟨w.heap.size, 2, none⟩ = some (.int .i64 sn) ∧ w10.cell? ⟨w.heap.size, 3, none⟩ = some (.string re) := ⟨B1.cell 2, B1.cell 3⟩
          generalize hN : (txt (Lib.itoa sn)) = N at *
          have HN := Lib.hid hN
          clear hN
          refine hK.out _ _ HS0 (fun hS2 => ?_)
          clear hK K hS2
          try simp only [Act.put, zA, zB, zC]
          refine TKC 3 74 rfl ?_
          try simp only [Act.put, zA, zB, zC]
          refine TKC 4 75 rfl ?_
          try simp only [Act.put, zA, zB, zC]
          refine TKC 7 78 rfl ?_
          try simp only [Act.put, zA, zB, zC]
          refine TKC 9 2 rfl ?_
          try simp only [Act.put, zA, zB, zC]
          refine TKC 10 3 rfl ?_
          try simp only [Act.put, zA, zB, zC]
          refine wpAnyH_done (by kernel_rfl) ?_ _
          go_wp2
          go_ret2
          exact ⟨by rw [HL.out, HS.out]; rfl, HB⟩
        · have a4f : (bl re).all isTextB = false := by simpa using a4
          have HE3 : Hid (∀ w, Calls Tryz.prog 32 #[.string re, .func (.func 56) #[] #[]] w fun e w' => e = .returned (.bool false) ∧ w = w') := Lib.hid (fun w => by have h := HF3.out w; rw [show re.data.toList.all isTextB = false from a4f] at h; exact h)
          have HS : Hid (startB ⟨me, ta, sn, re, hd, bo⟩ = false) := Lib.hid (by rw [HSB.out]; simp [a4f])
          clear HSB
          go_enter Tryz.func31, Tryz.ntmps31
          go_wp2_with (first
            | (refine wpl_box_at rfl 25 (.tmp 0) rfl _ rfl ?_; intro w1 hw; have B1 := hid_alloc0 hw; have HB := hid_grow hw; clear hw; have c0 : w1.cell? ⟨w.heap.size, 0, none⟩ = some (.string me) := B1.cell 0; have c1 : w1.cell? ⟨w.heap.size, 1, none⟩ = some (.string ta) := B1.cell 1; have c2 : w1.cell? ⟨w.heap.size, 2, none⟩ = some (.int .i64 sn) := B1.cell 2; have c3 : w1.cell? ⟨w.heap.size, 3, none⟩ = some (.string re) := B1.cell 3)
            | (go_at_call 32; (with_reducible refine (HE3.out _).mono ?_); rintro e w9 ⟨rfl, rfl⟩))
          have hst : ∀ w' : World, w'.heap = w1.heap → w'.cell? ⟨w.heap.size, 2, none⟩ = some (.int .i64 sn) ∧ w'.cell? ⟨w.heap.size, 3, none⟩ = some (.string re) := fun w' hh => ⟨(box_heap hh B1).cell 2, (box_heap hh B1).cell 3⟩
          refine wp_region_S (S := fun w' => w'.cell? ⟨w.heap.size, 2, none⟩ = some (.int .i64 sn) ∧ w'.cell? ⟨w.heap.size, 3, none⟩ = some (.string re)) (by kernel_rfl) (fun w2 hh => hst w2 hh) (fun w2 hh hbb HS0 => ?_)
          replace HB := HB.trans ((hbb _ (Nat.le_refl _)).mono HB.size)
          replace B1 := box_heap hh B1
          clear hh hbb hst
          refine TKC 0 71 rfl ?_
          try simp only [Act.put, zA, zB, zC]
          refine TKC 1 72 rfl ?_ (by (intro w hSw; (try dsimp only at hSw); have q1 := hSw.1; go_simp; try with_reducible rfl))
          try simp only [Act.put, zA, zB, zC]
          refine TKC 5 76 rfl ?_
          try simp only [Act.put, zA, zB, zC]
          refine TKC 6 77 rfl ?_ (by (intro w hSw; (try dsimp only at hSw); have q1 := hSw.2; go_simp; try with_reducible rfl))
          try simp only [Act.put, zA, zB, zC]
          refine TKC 8 79 rfl ?_
          try simp only [Act.put, zA, zB, zC]
          refine wpAnyH_ready (rs := [2]) (by kernel_rfl) (by simp) ?_
          refine AllReadyH.cons (o := ⟨some 73, _, _, _, _, _⟩) rfl (fun K hK => ?_) AllReadyH.nil
          go_simp
          (go_at_call 37; (refine (itoa_any HI.out (HW.out.at HB)).mono ?_); rintro e w10 ⟨rfl, hb⟩)
          replace B1 := IBox.below B1 hb (IBox.lt B1)
          replace HB := HB.trans (hb.mono HB.size)
          clear hb
          replace HS0 : w10.cell? ⟨w.heap.size, 2, none⟩ = some (.int .i64 sn) ∧ w10.cell? ⟨w.heap.size, 3, none⟩ = some (.string re) := ⟨B1.cell 2, B1.cell 3⟩
          generalize hN : (txt (Lib.itoa sn)) = N at *
          have HN := Lib.hid hN
          clear hN
          refine hK.out _ _ HS0 (fun hS2 => ?_)
          clear hK K hS2
          try simp only [Act.put, zA, zB, zC]
          refine TKC 3 74 rfl ?_
          try simp only [Act.put, zA, zB, zC]
          refine TKC 4 75 rfl ?_
          try simp only [Act.put, zA, zB, zC]
          refine TKC 7 78 rfl ?_
          try simp only [Act.put, zA, zB, zC]
          refine TKC 9 2 rfl ?_
          try simp only [Act.put, zA, zB, zC]
          refine TKC 10 3 rfl ?_
          try simp only [Act.put, zA, zB, zC]
          refine wpAnyH_done (by kernel_rfl) ?_ _
          go_wp2
          go_ret2
          exact ⟨by rw [HL.out, HS.out]; rfl, HB⟩
      · have HS : Hid (startB ⟨me, ta, sn, re, hd, bo⟩ = false) := Lib.hid (by rw [HSB.out]; simp [a3])
        clear HSB
        go_enter Tryz.func31, Tryz.ntmps31
        go_wp2_with (first
          | (refine wpl_box_at rfl 25 (.tmp 0) rfl _ rfl ?_; intro w1 hw; have B1 := hid_alloc0 hw; have HB := hid_grow hw; clear hw; have c0 : w1.cell? ⟨w.heap.size, 0, none⟩ = some (.string me) := B1.cell 0; have c1 : w1.cell? ⟨w.heap.size, 1, none⟩ = some (.string ta) := B1.cell 1; have c2 : w1.cell? ⟨w.heap.size, 2, none⟩ = some (.int .i64 sn) := B1.cell 2; have c3 : w1.cell? ⟨w.heap.size, 3, none⟩ = some (.string re) := B1.cell 3))
        have hst : ∀ w' : World, w'.heap = w1.heap → w'.cell? ⟨w.heap.size, 2, none⟩ = some (.int .i64 sn) ∧ w'.cell? ⟨w.heap.size, 3, none⟩ = some (.string re) := fun w' hh => ⟨(box_heap hh B1).cell 2, (box_heap hh B1).cell 3⟩
        refine wp_region_S (S := fun w' => w'.cell? ⟨w.heap.size, 2, none⟩ = some (.int .i64 sn) ∧ w'.cell? ⟨w.heap.size, 3, none⟩ = some (.string re)) (by kernel_rfl) (fun w2 hh => hst w2 hh) (fun w2 hh hbb HS0 => ?_)
        replace HB := HB.trans ((hbb _ (Nat.le_refl _)).mono HB.size)
        replace B1 := box_heap hh B1
        clear hh hbb hst
        refine TKC 0 71 rfl ?_
        try simp only [Act.put, zA, zB, zC]
        refine TKC 1 72 rfl ?_ (by (intro w hSw; (try dsimp only at hSw); have q1 := hSw.1; go_simp; try with_reducible rfl))
        try simp only [Act.put, zA, zB, zC]
        refine TKC 5 76 rfl ?_
        try simp only [Act.put, zA, zB, zC]
        refine TKC 6 77 rfl ?_ (by (intro w hSw; (try dsimp only at hSw); have q1 := hSw.2; go_simp; try with_reducible rfl))
        try simp only [Act.put, zA, zB, zC]
        refine TKC 8 79 rfl ?_
        try simp only [Act.put, zA, zB, zC]
        refine wpAnyH_ready (rs := [2]) (by kernel_rfl) (by simp) ?_
        refine AllReadyH.cons (o := ⟨some 73, _, _, _, _, _⟩) rfl (fun K hK => ?_) AllReadyH.nil
        go_simp
        (go_at_call 37; (refine (itoa_any HI.out (HW.out.at HB)).mono ?_); rintro e w10 ⟨rfl, hb⟩)
        replace B1 := IBox.below B1 hb (IBox.lt B1)
        replace HB := HB.trans (hb.mono HB.size)
        clear hb
        replace HS0 : w10.cell? ⟨w.heap.size, 2, none⟩ = some (.int .i64 sn) ∧ w10.cell? ⟨w.heap.size, 3, none⟩ = some (.string re) := ⟨B1.cell 2, B1.cell 3⟩
        generalize hN : (txt (Lib.itoa sn)) = N at *
        have HN := Lib.hid hN
        clear hN
        refine hK.out _ _ HS0 (fun hS2 => ?_)
        clear hK K hS2
        try simp only [Act.put, zA, zB, zC]
        refine TKC 3 74 rfl ?_
        try simp only [Act.put, zA, zB, zC]
        refine TKC 4 75 rfl ?_
        try simp only [Act.put, zA, zB, zC]
        refine TKC 7 78 rfl ?_
        try simp only [Act.put, zA, zB, zC]
        refine TKC 9 2 rfl ?_
        try simp only [Act.put, zA, zB, zC]
        refine TKC 10 3 rfl ?_
        try simp only [Act.put, zA, zB, zC]
        refine wpAnyH_done (by kernel_rfl) ?_ _
        go_wp2
        go_ret2
        exact ⟨by rw [HL.out, HS.out]; rfl, HB⟩
    · have HS : Hid (startB ⟨me, ta, sn, re, hd, bo⟩ = false) := Lib.hid (by rw [HSB.out]; simp [a2])
      clear HSB
      go_enter Tryz.func31, Tryz.ntmps31
      go_wp2_with (first
        | (refine wpl_box_at rfl 25 (.tmp 0) rfl _ rfl ?_; intro w1 hw; have B1 := hid_alloc0 hw; have HB := hid_grow hw; clear hw; have c0 : w1.cell? ⟨w.heap.size, 0, none⟩ = some (.string me) := B1.cell 0; have c1 : w1.cell? ⟨w.heap.size, 1, none⟩ = some (.string ta) := B1.cell 1; have c2 : w1.cell? ⟨w.heap.size, 2, none⟩ = some (.int .i64 sn) := B1.cell 2; have c3 : w1.cell? ⟨w.heap.size, 3, none⟩ = some (.string re) := B1.cell 3))
      have hst : ∀ w' : World, w'.heap = w1.heap → w'.cell? ⟨w.heap.size, 2, none⟩ = some (.int .i64 sn) ∧ w'.cell? ⟨w.heap.size, 3, none⟩ = some (.string re) := fun w' hh => ⟨(box_heap hh B1).cell 2, (box_heap hh B1).cell 3⟩
      refine wp_region_S (S := fun w' => w'.cell? ⟨w.heap.size, 2, none⟩ = some (.int .i64 sn) ∧ w'.cell? ⟨w.heap.size, 3, none⟩ = some (.string re)) (by kernel_rfl) (fun w2 hh => hst w2 hh) (fun w2 hh hbb HS0 => ?_)
      replace HB := HB.trans ((hbb _ (Nat.le_refl _)).mono HB.size)
      replace B1 := box_heap hh B1
      clear hh hbb hst
      refine TKC 0 71 rfl ?_
      try simp only [Act.put, zA, zB, zC]
      refine TKC 1 72 rfl ?_ (by (intro w hSw; (try dsimp only at hSw); have q1 := hSw.1; go_simp; try with_reducible rfl))
      try simp only [Act.put, zA, zB, zC]
      refine TKC 5 76 rfl ?_
      try simp only [Act.put, zA, zB, zC]
      refine TKC 6 77 rfl ?_ (by (intro w hSw; (try dsimp only at hSw); have q1 := hSw.2; go_simp; try with_reducible rfl))
      try simp only [Act.put, zA, zB, zC]
      refine TKC 8 79 rfl ?_
      try simp only [Act.put, zA, zB, zC]
      refine wpAnyH_ready (rs := [2]) (by kernel_rfl) (by simp) ?_
      refine AllReadyH.cons (o := ⟨some 73, _, _, _, _, _⟩) rfl (fun K hK => ?_) AllReadyH.nil
      go_simp
      (go_at_call 37; (refine (itoa_any HI.out (HW.out.at HB)).mono ?_); rintro e w10 ⟨rfl, hb⟩)
      replace B1 := IBox.below B1 hb (IBox.lt B1)
      replace HB := HB.trans (hb.mono HB.size)
      clear hb
      replace HS0 : w10.cell? ⟨w.heap.size, 2, none⟩ = some (.int .i64 sn) ∧ w10.cell? ⟨w.heap.size, 3, none⟩ = some (.string re) := ⟨B1.cell 2, B1.cell 3⟩
      generalize hN : (txt (Lib.itoa sn)) = N at *
      have HN := Lib.hid hN
      clear hN
      refine hK.out _ _ HS0 (fun hS2 => ?_)
      clear hK K hS2
      try simp only [Act.put, zA, zB, zC]
      refine TKC 3 74 rfl ?_
      try simp only [Act.put, zA, zB, zC]
      refine TKC 4 75 rfl ?_
      try simp only [Act.put, zA, zB, zC]
      refine TKC 7 78 rfl ?_
      try simp only [Act.put, zA, zB, zC]
      refine TKC 9 2 rfl ?_
      try simp only [Act.put, zA, zB, zC]
      refine TKC 10 3 rfl ?_
      try simp only [Act.put, zA, zB, zC]
      refine wpAnyH_done (by kernel_rfl) ?_ _
      go_wp2
      go_ret2
      exact ⟨by rw [HL.out, HS.out]; rfl, HB⟩
  · have hta := ne_empty a1
    have HS : Hid (startB ⟨me, ta, sn, re, hd, bo⟩ = false) := Lib.hid (by rw [HSB.out]; simp [a1])
    clear HSB
    go_enter Tryz.func31, Tryz.ntmps31
    go_wp2_with (first
      | (refine wpl_box_at rfl 25 (.tmp 0) rfl _ rfl ?_; intro w1 hw; have B1 := hid_alloc0 hw; have HB := hid_grow hw; clear hw; have c0 : w1.cell? ⟨w.heap.size, 0, none⟩ = some (.string me) := B1.cell 0; have c1 : w1.cell? ⟨w.heap.size, 1, none⟩ = some (.string ta) := B1.cell 1; have c2 : w1.cell? ⟨w.heap.size, 2, none⟩ = some (.int .i64 sn) := B1.cell 2; have c3 : w1.cell? ⟨w.heap.size, 3, none⟩ = some (.string re) := B1.cell 3))
    have hst : ∀ w' : World, w'.heap = w1.heap → w'.cell? ⟨w.heap.size, 2, none⟩ = some (.int .i64 sn) ∧ w'.cell? ⟨w.heap.size, 3, none⟩ = some (.string re) := fun w' hh => ⟨(box_heap hh B1).cell 2, (box_heap hh B1).cell 3⟩
    refine wp_region_S (S := fun w' => w'.cell? ⟨w.heap.size, 2, none⟩ = some (.int .i64 sn) ∧ w'.cell? ⟨w.heap.size, 3, none⟩ = some (.string re)) (by kernel_rfl) (fun w2 hh => hst w2 hh) (fun w2 hh hbb HS0 => ?_)
    replace HB := HB.trans ((hbb _ (Nat.le_refl _)).mono HB.size)
    replace B1 := box_heap hh B1
    clear hh hbb hst
    refine TKC 0 71 rfl ?_
    try simp only [Act.put, zA, zB, zC]
    refine TKC 1 72 rfl ?_ (by (intro w hSw; (try dsimp only at hSw); have q1 := hSw.1; go_simp; try with_reducible rfl))
    try simp only [Act.put, zA, zB, zC]
    refine TKC 5 76 rfl ?_
    try simp only [Act.put, zA, zB, zC]
    refine TKC 6 77 rfl ?_ (by (intro w hSw; (try dsimp only at hSw); have q1 := hSw.2; go_simp; try with_reducible rfl))
    try simp only [Act.put, zA, zB, zC]
    refine TKC 8 79 rfl ?_
    try simp only [Act.put, zA, zB, zC]
    refine wpAnyH_ready (rs := [2]) (by kernel_rfl) (by simp) ?_
    refine AllReadyH.cons (o := ⟨some 73, _, _, _, _, _⟩) rfl (fun K hK => ?_) AllReadyH.nil
    go_simp
    (go_at_call 37; (refine (itoa_any HI.out (HW.out.at HB)).mono ?_); rintro e w10 ⟨rfl, hb⟩)
    replace B1 := IBox.below B1 hb (IBox.lt B1)
    replace HB := HB.trans (hb.mono HB.size)
    clear hb
    replace HS0 : w10.cell? ⟨w.heap.size, 2, none⟩ = some (.int .i64 sn) ∧ w10.cell? ⟨w.heap.size, 3, none⟩ = some (.string re) := ⟨B1.cell 2, B1.cell 3⟩
    generalize hN : (txt (Lib.itoa sn)) = N at *
    have HN := Lib.hid hN
    clear hN
    refine hK.out _ _ HS0 (fun hS2 => ?_)
    clear hK K hS2
    try simp only [Act.put, zA, zB, zC]
    refine TKC 3 74 rfl ?_
    try simp only [Act.put, zA, zB, zC]
    refine TKC 4 75 rfl ?_
    try simp only [Act.put, zA, zB, zC]
    refine TKC 7 78 rfl ?_
    try simp only [Act.put, zA, zB, zC]
    refine TKC 9 2 rfl ?_
    try simp only [Act.put, zA, zB, zC]
    refine TKC 10 3 rfl ?_
    try simp only [Act.put, zA, zB, zC]
    refine wpAnyH_done (by kernel_rfl) ?_ _
    go_wp2
    go_ret2
    exact ⟨by rw [HL.out, HS.out]; rfl, HB⟩
end Go.Proofs.YtbehakabglegjaaGreatDoor
namespace Go.Proofs.YtbehakabglegjaaGreatDoor
open Go.RowKit Go.PlainAid
set_option linter.unusedVariables false
set_option linter.unusedSimpArgs false
section
variable {ops : Array Oper} {rest : List Oper} {o : Oper} {a : Act} {w : World} {Q : Exit → Act → World → Prop}
/-- A row of the call's own grows by a byte. -/
theorem wpl_own1 (hgd : o.guard = none) (s x : Operand) (ho : o.op = .call { callee := .builtin .append, args := #[s, x], argTypes := #[23, 23] }) {base : Nat} {v : Value} {l : List UInt8} (HO : OwnB w base v l) (hn : l.length ≤ 140737488355327) (hb : base ≤ w.heap.size)
    {g1 : Nat} {c : UInt8} (IB : IBox w g1 5 #[.int .u8 (c.toNat : Int)]) (h1 : a.eval s = v) (h2 : a.eval x = .slice (some ⟨g1, 0, none⟩) 1 1)
    (h : ∀ v' w', OwnB w' base v' (l ++ [c]) → Below base w w' → wpList Tryz.prog ops Q rest (a.put o.dst v') w') : wpList Tryz.prog ops Q (o :: rest) a w := by
  refine wpl_append_bytes hgd s x 23 ho Tryz.underlying23 base v l h1 HO g1 1 [c] 5 1 rfl h2 ?_ (by simp; omega) hb ?_
  · intro j u hu
    have := one_byte IB j u (by simpa [Lib.byteCells] using hu)
    have hadd : (⟨g1, 0, none⟩ : Addr).add j = ⟨g1, j, none⟩ := by unfold Addr.add; split <;> simp_all
    rw [hadd] at this
    exact this
  · intro v' w' h3 _ h5
    exact h v' w' h3 h5
end
/-- What the walks ask of a message among the arguments. -/
structure MgAt (w : World) (x : Mm) : Prop where
  hd : HdAt w x.hs x.m.heads
  bt : BtAt w x.bd x.m.body
  hl : x.m.heads.length ≤ 140737488355328
  bz : x.m.body.length ≤ 140737488355328
  hz : ∀ p ∈ x.m.heads, p.1.size ≤ 140737488355328 ∧ p.2.size ≤ 140737488355328
  mz : x.m.meth.size ≤ 140737488355328 ∧ x.m.targ.size ≤ 140737488355328 ∧ x.m.reas.size ≤ 140737488355328
  st : -9223372036854775808 ≤ x.m.stat ∧ x.m.stat ≤ 9223372036854775807
theorem HdAt.below {w w' : World} {v : Value} {l : List (ByteArray × ByteArray)} (h : HdAt w v l) (hb : Below w.heap.size w w') : HdAt w' v l := h.bes (X := fun _ => False) (Bes.of_below hb) (fun _ _ z => z)
theorem MgAt.below {w w' : World} {x : Mm} (h : MgAt w x) (hb : Below w.heap.size w w') : MgAt w' x := ⟨h.hd.below hb, h.bt.bes (X := fun _ => False) (Bes.of_below hb) (fun _ _ z => z), h.hl, h.bz, h.hz, h.mz, h.st⟩
/-- What Header gives. -/
def hdAns (o : Option ByteArray) : Value := match o with | some v => .tuple #[.string v, .bool true] | none => .tuple #[.string ⟨#[]⟩, .bool false]
theorem find_next {l : List (ByteArray × ByteArray)} {i : Nat} {p : ByteArray × ByteArray} {name : ByteArray} (hp : l[i]? = some p) (h : (l.take i).find? (fun p => alikeB (bl p.1) (bl name)) = none) :
    (alikeB (bl p.1) (bl name) = true → headerS l name = some p.2) ∧ (alikeB (bl p.1) (bl name) = false → (l.take (i + 1)).find? (fun p => alikeB (bl p.1) (bl name)) = none) := by
  have e : l.take (i + 1) = l.take i ++ [p] := by rw [List.take_add_one, hp]; rfl
  have e2 : l = l.take i ++ (p :: l.drop (i + 1)) := by
    have h1 := (List.getElem?_eq_some_iff.1 hp).1
    have h2 := (List.getElem?_eq_some_iff.1 hp).2
    rw [← h2, List.getElem_cons_drop, List.take_append_drop]
  refine ⟨fun ha => ?_, fun ha => ?_⟩
  · unfold headerS
    conv => lhs; rw [e2]
    rw [List.find?_append, h, List.find?_cons_of_pos (by exact ha)]
    rfl
  · rw [e, List.find?_append, h, List.find?_cons_of_neg (by rw [ha]; simp)]
    rfl
theorem find_end {l : List (ByteArray × ByteArray)} {name : ByteArray} (h : (l.take l.length).find? (fun p => alikeB (bl p.1) (bl name)) = none) : headerS l name = none := by
  rw [List.take_length] at h
  unfold headerS
  rw [h]
  rfl
set_option maxRecDepth 100000 in
set_option maxHeartbeats 8000000 in
theorem header_any {x : Mm} {name : ByteArray} {w : World} (hm : MgAt w x) (hn : name.size ≤ 140737488355328) : Calls Tryz.prog 17 #[.agg x.cells, .string name] w fun e w' => e = .returned (hdAns (headerS x.m.heads name)) ∧ Below w.heap.size w w' := by
  obtain ⟨hA, hc, hhs, hcells⟩ := id hm.hd
  have HM := Lib.hid hm
  have HL := Lib.hid hm.hl
  have HNM := Lib.hid hn
  have hcell : x.cells = #[.string x.m.meth, .string x.m.targ, .int .i64 x.m.stat, .string x.m.reas, .slice hA x.m.heads.length hc, x.bd] := by unfold Mm.cells; rw [hhs]
  rw [hcell]
  clear hm hn hcells hcell
  go_enter Tryz.func17, Tryz.ntmps17
  go_wp2_with (refine wpl_box_at rfl 25 (.tmp 0) rfl _ rfl ?_; intro w1 hw; have B1 := hid_alloc0 hw; have HB := hid_grow hw; clear hw; have c4 : w1.cell? ⟨w.heap.size, 4, none⟩ = some (.slice hA x.m.heads.length hc) := B1.cell 4)
  go_loopw [11] (fun iv wr => ∃ i : Nat, iv = .int .i64 (i : Int) ∧ i ≤ x.m.heads.length ∧ (x.m.heads.take i).find? (fun p => alikeB (bl p.1) (bl name)) = none ∧ Below w.heap.size w wr) (fun iv _ => match iv with | .int _ i => (x.m.heads.length - i.toNat) | _ => 0)
  case atStart => exact ⟨0, rfl, Nat.zero_le _, rfl, HB⟩
  case round =>
    clear HB c4 B1
    obtain ⟨i, rfl, hi, hfn, HB⟩ := hrel
    have hl := HL.out
    by_cases hlt : i < x.m.heads.length
    · obtain ⟨p, hp⟩ : ∃ p, x.m.heads[i]? = some p := ⟨_, List.getElem?_eq_getElem hlt⟩
      obtain ⟨f1, f2⟩ := find_next hp hfn
      have hpz := HM.out.hz p (List.mem_of_getElem? hp)
      obtain ⟨A2, c2, hv2, hcells⟩ := HM.out.hd.below HB
      obtain ⟨gh, off, hA2, e1, e2⟩ := hcells i p hp
      rw [hhs] at hv2
      injection hv2 with v1 v2 v3
      clear v2 v3
      subst v1
      subst hA2
      obtain ⟨pn, pv⟩ := p
      obtain ⟨z1, z2⟩ : pn.size ≤ 140737488355328 ∧ pv.size ≤ 140737488355328 := hpz
      clear hcells hfn
      have hrow : wr.rangeAt gh (off + i * 2) (hdA pn pv).toList := fun j v hv => by
        have hj : j = 0 ∨ j = 1 := by
          have := (List.getElem?_eq_some_iff.1 hv).1
          have e : (hdA pn pv).toList.length = 2 := rfl
          omega
        rcases hj with rfl | rfl
        · have : v = .string pn := (Option.some.inj hv).symm
          rw [this]; exact e1
        · have : v = .string pv := (Option.some.inj hv).symm
          rw [this]; exact e2
      have hnz := HNM.out
      have halk := fun w => alike_any pn name w (by omega) (by omega)
      cases ha : alikeB (bl pn) (bl name)
      · have HC : Hid (∀ w, Calls Tryz.prog 36 #[.string pn, .string name] w fun e w' => e = .returned (.bool false) ∧ Below w.heap.size w w') := Lib.hid fun w => by have h := halk w; rw [show alikeB pn.data.toList name.data.toList = false from ha] at h; exact h
        have HF := Lib.hid (f2 ha)
        clear f1 f2 ha halk hp
        go_wp2_with (first
          | ((with_reducible refine is_load ?_); refine wpl_load_arr rfl 51 (.tmp 13) rfl gh (off + i * 2) rfl (hdA pn pv) _ hrow Tryz.underlying51 rfl info_hd2 ?_)
          | (refine wpl_newbox 7 rfl rfl 51 rfl rfl (.tmp 14) rfl _ zeroHd (hdA pn pv) rfl rfl info_hd2 rfl (hd_one _ _) ?_; intro w5 hw; have hb := hid_grow hw; have B8 := (hid_alloc hw).1; replace HB := HB.trans (hb.mono HB.size); clear hb hw e1 e2; have c80 : w5.cell? ⟨wr.heap.size, 0, none⟩ = some (.string pn) := B8.cell 0; have c81 : w5.cell? ⟨wr.heap.size, 1, none⟩ = some (.string pv) := B8.cell 1)
          | (go_at_call 36; (with_reducible refine (HC.out _).mono ?_); rintro e w6 ⟨rfl, hb⟩; replace B8 := IBox.below B8 hb (IBox.lt B8); replace HB := HB.trans (hb.mono HB.size); clear hb; clear c80 c81; have c81 : w6.cell? ⟨wr.heap.size, 1, none⟩ = some (.string pv) := B8.cell 1))
        go_roundw
        case rel => exact ⟨i + 1, rfl, by omega, HF.out, HB⟩
        case measure => (simp only; omega)
      · have HC : Hid (∀ w, Calls Tryz.prog 36 #[.string pn, .string name] w fun e w' => e = .returned (.bool true) ∧ Below w.heap.size w w') := Lib.hid fun w => by have h := halk w; rw [show alikeB pn.data.toList name.data.toList = true from ha] at h; exact h
        have HF := Lib.hid (f1 ha)
        clear f1 f2 ha halk hp
        go_wp2_with (first
          | ((with_reducible refine is_load ?_); refine wpl_load_arr rfl 51 (.tmp 13) rfl gh (off + i * 2) rfl (hdA pn pv) _ hrow Tryz.underlying51 rfl info_hd2 ?_)
          | (refine wpl_newbox 7 rfl rfl 51 rfl rfl (.tmp 14) rfl _ zeroHd (hdA pn pv) rfl rfl info_hd2 rfl (hd_one _ _) ?_; intro w5 hw; have hb := hid_grow hw; have B8 := (hid_alloc hw).1; replace HB := HB.trans (hb.mono HB.size); clear hb hw e1 e2; have c80 : w5.cell? ⟨wr.heap.size, 0, none⟩ = some (.string pn) := B8.cell 0; have c81 : w5.cell? ⟨wr.heap.size, 1, none⟩ = some (.string pv) := B8.cell 1)
          | (go_at_call 36; (with_reducible refine (HC.out _).mono ?_); rintro e w6 ⟨rfl, hb⟩; replace B8 := IBox.below B8 hb (IBox.lt B8); replace HB := HB.trans (hb.mono HB.size); clear hb; clear c80 c81; have c81 : w6.cell? ⟨wr.heap.size, 1, none⟩ = some (.string pv) := B8.cell 1))
        go_ret2
        exact ⟨by rw [HF.out]; rfl, HB⟩
    · obtain rfl : i = x.m.heads.length := by omega
      have HF := Lib.hid (find_end hfn)
      clear hfn
      go_wp2
      go_ret2
      exact ⟨by rw [HF.out]; rfl, HB⟩
/-- The document's text in small letters. -/
theorem low_take {l : List UInt8} {i : Nat} {c : UInt8} (h : l[i]? = some c) : lowL (l.take (i + 1)) = lowL (l.take i) ++ [lowB c] := by
  rw [List.take_add_one, h]
  unfold lowL
  rw [List.map_append]
  rfl
set_option maxRecDepth 100000 in
set_option maxHeartbeats 8000000 in
theorem rlower_any (s : ByteArray) (w : World) (hs : s.size ≤ 140737488355328) : Calls Tryz.prog 43 #[.string s] w fun e w' => e = .returned (.string (txt (lowL s.data.toList))) ∧ Below w.heap.size w w' := by
  have hbs := get_bt s
  have HS := Lib.hid hs
  clear hs
  have HE : Hid (lowL (s.data.toList.take s.size) = lowL s.data.toList) := Lib.hid (by rw [show s.size = s.data.toList.length from rfl, List.take_length])
  go_enter Tryz.func43, Tryz.ntmps43
  go_wp2
  go_loopw [4, 3, 5] (fun iv tv cv wr => ∃ i : Nat, iv = .int .i64 (i : Int) ∧ i ≤ s.size ∧ OwnB wr w.heap.size tv (lowL (s.data.toList.take i)) ∧ Below w.heap.size w wr) (fun iv _ _ _ => match iv with | .int _ i => (s.size - i.toNat) | _ => 0)
  case atStart => exact ⟨0, rfl, Nat.zero_le _, OwnB.nil _ _, Below.refl _ _⟩
  case round =>
    obtain ⟨i, rfl, hi, HO, HB⟩ := hrel
    have hs := HS.out
    have hlen : (lowL (s.data.toList.take i)).length = i := by unfold lowL; rw [List.length_map, List.length_take]; exact Nat.min_eq_left hi
    by_cases hlt : i < s.size
    · obtain ⟨c, hc⟩ : ∃ c, s.data.toList[i]? = some c := ⟨_, List.getElem?_eq_getElem (show i < s.data.toList.length from hlt)⟩
      have hcb := bt_at hc
      have HN := Lib.hid (low_take hc)
      have HLN := Lib.hid hlen
      clear hc hlen
      by_cases h1 : 65 ≤ c.toNat ∧ c.toNat ≤ 90
      · have HUP := Lib.hid (lowB_up h1.1 h1.2)
        obtain ⟨a1, a2⟩ := h1
        go_wp2_with (first
          | ((with_reducible refine is_slice ?_); refine wpl_u8 rfl (.tmp 24) rfl (lowB c) (by rw [HUP.out]; rfl) ?_; intro w1 hb B9; replace HO := HO.below hb; replace HB := HB.trans (hb.mono HB.size); clear hb)
          | (at_builtin; refine wpl_own1 rfl (.tmp 23) (.tmp 25) rfl HO (by rw [HLN.out]; omega) HB.size B9 rfl rfl ?_; intro v3 w3 ho hb; replace HO := ho; replace HB := HB.trans hb; clear ho hb B9))
        go_roundw
        case rel => exact ⟨i + 1, rfl, by omega, by rw [HN.out]; exact HO, HB⟩
        case measure => (simp only; omega)
      · have HSM := Lib.hid (lowB_same h1)
        by_cases a1 : 65 ≤ c.toNat <;> by_cases a2 : c.toNat ≤ 90
        all_goals first
          | (exfalso; omega)
          | skip
        all_goals
          clear h1
          go_wp2_with (first
            | ((with_reducible refine is_slice ?_); refine wpl_u8 rfl (.tmp 24) rfl c rfl ?_; intro w1 hb B9; replace HO := HO.below hb; replace HB := HB.trans (hb.mono HB.size); clear hb)
            | (at_builtin; refine wpl_own1 rfl (.tmp 23) (.tmp 25) rfl HO (by rw [HLN.out]; omega) HB.size B9 rfl rfl ?_; intro v3 w3 ho hb; replace HO := ho; replace HB := HB.trans hb; clear ho hb B9))
          go_roundw
          case rel => exact ⟨i + 1, rfl, by omega, by rw [HN.out, HSM.out]; exact HO, HB⟩
          case measure => (simp only; omega)
    · obtain rfl : i = s.size := by omega
      rw [HE.out] at HO
      go_wp2_with ((with_reducible refine is_convert ?_); refine wpl_own_text rfl (.tmp 27) 23 9 rfl Tryz.underlying23 Tryz.underlying9 _ _ _ rfl HO ?_)
      go_ret
      exact ⟨rfl, HB⟩
end Go.Proofs.YtbehakabglegjaaGreatDoor
