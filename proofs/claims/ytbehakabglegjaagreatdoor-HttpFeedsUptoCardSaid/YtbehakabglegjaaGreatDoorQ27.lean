/- Layer 9: an answer's first line, as it is written. -/
import Derived.Sort.Grow
import Derived.Test.YtbehakabglegjaaGreatDoorQ26
import Derived.Test.YtbehakabglegjaaGreatDoorQZip
namespace Go.Proofs.YtbehakabglegjaaGreatDoor
open Go.RowKit Go.PlainAid
set_option linter.unusedVariables false
set_option linter.unusedSimpArgs false
theorem itoa_any {n : Int} (hn : -9223372036854775808 ≤ n ∧ n ≤ 9223372036854775807) {w : World} (hw : WhC w) : Calls Tryz.prog 37 #[.int .i64 n] w fun e w' => e = .returned (.string (txt (Lib.itoa n))) ∧ Below w.heap.size w w' :=
  (Tryz.strconv_Itoa n hn.1 hn.2 w hw.t10).mono fun e w' ⟨h1, k, os, h2⟩ => ⟨h1, by
    subst h2
    have h3 := below_dq (w := w) (n := k) rfl
    refine ⟨h3.os, h3.tape, h3.output, Nat.le_trans h3.size (by rw [«Sort».size_grow]; exact Nat.le_add_right _ _), fun q hq => ?_⟩
    rw [«Sort».heap_grow_old _ _ (Nat.lt_of_lt_of_le hq h3.size)]
    exact h3.block q hq⟩
theorem itoa_len {n : Int} (hn : -9223372036854775808 ≤ n ∧ n ≤ 9223372036854775807) : (Lib.itoa n).length ≤ 20 := by
  unfold Lib.itoa
  have h := fun u (hu : u < 10 ^ 19) => (dec_all u).2.2.2 19 (by decide) hu
  have e : (10 : Nat) ^ 19 = 10000000000000000000 := rfl
  rw [e] at h
  split
  · have := h n.natAbs (by omega)
    rw [List.length_cons]; omega
  · have := h n.toNat (by omega)
    omega
set_option maxRecDepth 100000 in
set_option maxHeartbeats 8000000 in
theorem start_ans {me ta re : ByteArray} {sn : Int} {hd : List (ByteArray × ByteArray)} {bo : List UInt8} {hs bd : Value} {w : World} (h1 : re.size ≤ 1099511627776) (hn : -9223372036854775808 ≤ sn ∧ sn ≤ 9223372036854775807) (hw : Wh w w.heap.size) (h0 : me.size = 0) :
    Calls Tryz.prog 31 #[.agg (Mm.cells ⟨⟨me, ta, sn, re, hd, bo⟩, hs, bd⟩)] w fun e w' => e = .returned (.tuple #[.string (txt (startL ⟨me, ta, sn, re, hd, bo⟩)), .bool (startB ⟨me, ta, sn, re, hd, bo⟩)]) ∧ Below w.heap.size w w' := by
  have HL : Hid (txt (startL ⟨me, ta, sn, re, hd, bo⟩) = ⟨#[72, 84, 84, 80, 47, 49, 46, 49, 32]⟩ ++ txt (Lib.itoa sn) ++ ⟨#[32]⟩ ++ re) := Lib.hid (by
    unfold startL
    rw [if_neg (by simpa using h0)]
    refine ext_bytes ?_
    simp [txt, bl, protoL])
  have HSB : Hid (startB ⟨me, ta, sn, re, hd, bo⟩ = ((decide (ta.size = 0) && (decide (100 ≤ sn) && decide (sn ≤ 599))) && (bl re).all isTextB)) := Lib.hid (by unfold startB; rw [if_neg (by simpa using h0)])
  have hme : me.toList.isEmpty = true := is_empty h0
  have hil := itoa_len hn
  have his : (txt (Lib.itoa sn)).size ≤ 20 := hil
  have g1 : ¬ 9223372036854775807 < 9 + (txt (Lib.itoa sn)).size := by omega
  have g2 : ¬ 9223372036854775807 < 9 + (txt (Lib.itoa sn)).size + 1 := by omega
  have g3 : ¬ 9223372036854775807 < 9 + (txt (Lib.itoa sn)).size + 1 + re.size := by omega
  have HF3 := Lib.hid (fun w => every_any 56 isTextB texts_any (by kernel_rfl) re w (by omega))
  have HI := Lib.hid hn
  have HW := Lib.hid hw
  clear h1 h0 hil his hn hw
  by_cases a1 : ta.size = 0
  · have hta := is_empty a1
    by_cases a2 : 100 ≤ sn
    · by_cases a3 : sn ≤ 599
      · by_cases a4 : (bl re).all isTextB = true
        · have HE3 : Hid (∀ w, Calls Tryz.prog 32 #[.string re, .func (.func 56) #[] #[]] w fun e w' => e = .returned (.bool true) ∧ w = w') := Lib.hid (fun w => by have h := HF3.out w; rw [show re.data.toList.all isTextB = true from a4] at h; exact h)
          have HS : Hid (startB ⟨me, ta, sn, re, hd, bo⟩ = true) := Lib.hid (by rw [HSB.out]; simp [a1, a2, a3, a4])
          clear HSB
          go_enter Tryz.func31, Tryz.ntmps31
          go_wp2_with (first
            | (refine wpl_box_at rfl 25 (.tmp 0) rfl _ rfl ?_; intro w1 hw; have B1 := hid_alloc0 hw; have HB := hid_grow hw; clear hw; have c0 : w1.cell? ⟨w.heap.size, 0, none⟩ = some (.string me) := B1.cell 0; have c1 : w1.cell? ⟨w.heap.size, 1, none⟩ = some (.string ta) := B1.cell 1; have c2 : w1.cell? ⟨w.heap.size, 2, none⟩ = some (.int .i64 sn) := B1.cell 2; have c3 : w1.cell? ⟨w.heap.size, 3, none⟩ = some (.string re) := B1.cell 3)
            | (go_at_call 32; (with_reducible refine (HE3.out _).mono ?_); rintro e w9 ⟨rfl, rfl⟩))
          have hst : ∀ w' : World, w'.heap = w1.heap → w'.cell? ⟨w.heap.size, 2, none⟩ = some (.int .i64 sn) ∧ w'.cell? ⟨w.heap.size, 3, none⟩ = some (.string re) := fun w' hh => ⟨(box_heap hh B1).cell 2, (box_heap hh B1).cell 3⟩
          refine wp_region_S (S := fun w' => w'.cell? ⟨w.heap.size, 2, none⟩ = some (.int .i64 sn) ∧ w'.cell? ⟨w.heap.size, 3, none⟩ = some (.string re)) (by kernel_rfl) (fun w2 hh => hst w2 hh) (fun w2 hh hbb HS0 => ?_)
          replace HB := HB.trans ((hbb _ (Nat.le_refl _)).mono HB.size)
          replace B1 := box_heap hh B1
          clear hh hbb hst
          refine TKC 0 71 rfl ?_
          try simp only [Act.put, zA, zB, zC]
          refine TKC 1 72 rfl ?_ (by (intro w hSw; (try dsimp only at hSw); have q1 := hSw.1; go_simp; try with_reducible rfl))
          try simp only [Act.put, zA, zB, zC]
          refine TKC 5 76 rfl ?_
          try simp only [Act.put, zA, zB, zC]
          refine TKC 6 77 rfl ?_ (by (intro w hSw; (try dsimp only at hSw); have q1 := hSw.2; go_simp; try with_reducible rfl))
          try simp only [Act.put, zA, zB, zC]
          refine TKC 8 79 rfl ?_
          try simp only [Act.put, zA, zB, zC]
          refine wpAnyH_ready (rs := [2]) (by kernel_rfl) (by simp) ?_
          refine AllReadyH.cons (o := ⟨some 73, _, _, _, _, _⟩) rfl (fun K hK => ?_) AllReadyH.nil
          go_simp
          (go_at_call 37; (refine (itoa_any HI.out (HW.out.at HB)).mono ?_); rintro e w10 ⟨rfl, hb⟩)
          replace B1 := zI B1 hb
          replace HB := zT HB hb
          clear hb
          replace HS0 : w10.cell? ⟨w.heap.size, 2, none⟩ = some (.int .i64 sn) ∧ w10.cell? ⟨w.heap.size, 3, none⟩ = some (.string re) := ⟨B1.cell 2, B1.cell 3⟩
          generalize hN : (txt (Lib.itoa sn)) = N at *
          have HN := Lib.hid hN
          clear hN
          refine hK.out _ _ HS0 (fun hS2 => ?_)
          clear hK K hS2
          try simp only [Act.put, zA, zB, zC]
          refine TKC 3 74 rfl ?_
          try simp only [Act.put, zA, zB, zC]
          refine TKC 4 75 rfl ?_
          try simp only [Act.put, zA, zB, zC]
          refine TKC 7 78 rfl ?_
          try simp only [Act.put, zA, zB, zC]
          refine TKC 9 2 rfl ?_
          try simp only [Act.put, zA, zB, zC]
          refine TKC 10 3 rfl ?_
          try simp only [Act.put, zA, zB, zC]
          refine wpAnyH_done (by kernel_rfl) ?_ _
          go_wp2
          go_ret2
          exact ⟨by rw [HL.out, HS.out]; rfl, HB⟩
        · have a4f : (bl re).all isTextB = false := by simpa using a4
          have HE3 : Hid (∀ w, Calls Tryz.prog 32 #[.string re, .func (.func 56) #[] #[]] w fun e w' => e = .returned (.bool false) ∧ w = w') := Lib.hid (fun w => by have h := HF3.out w; rw [show re.data.toList.all isTextB = false from a4f] at h; exact h)
          have HS : Hid (startB ⟨me, ta, sn, re, hd, bo⟩ = false) := Lib.hid (by rw [HSB.out]; simp [a4f])
          clear HSB
          go_enter Tryz.func31, Tryz.ntmps31
          go_wp2_with (first
            | (refine wpl_box_at rfl 25 (.tmp 0) rfl _ rfl ?_; intro w1 hw; have B1 := hid_alloc0 hw; have HB := hid_grow hw; clear hw; have c0 : w1.cell? ⟨w.heap.size, 0, none⟩ = some (.string me) := B1.cell 0; have c1 : w1.cell? ⟨w.heap.size, 1, none⟩ = some (.string ta) := B1.cell 1; have c2 : w1.cell? ⟨w.heap.size, 2, none⟩ = some (.int .i64 sn) := B1.cell 2; have c3 : w1.cell? ⟨w.heap.size, 3, none⟩ = some (.string re) := B1.cell 3)
            | (go_at_call 32; (with_reducible refine (HE3.out _).mono ?_); rintro e w9 ⟨rfl, rfl⟩))
          have hst : ∀ w' : World, w'.heap = w1.heap → w'.cell? ⟨w.heap.size, 2, none⟩ = some (.int .i64 sn) ∧ w'.cell? ⟨w.heap.size, 3, none⟩ = some (.string re) := fun w' hh => ⟨(box_heap hh B1).cell 2, (box_heap hh B1).cell 3⟩
          refine wp_region_S (S := fun w' => w'.cell? ⟨w.heap.size, 2, none⟩ = some (.int .i64 sn) ∧ w'.cell? ⟨w.heap.size, 3, none⟩ = some (.string re)) (by kernel_rfl) (fun w2 hh => hst w2 hh) (fun w2 hh hbb HS0 => ?_)
          replace HB := HB.trans ((hbb _ (Nat.le_refl _)).mono HB.size)
          replace B1 := box_heap hh B1
          clear hh hbb hst
          refine TKC 0 71 rfl ?_
          try simp only [Act.put, zA, zB, zC]
          refine TKC 1 72 rfl ?_ (by (intro w hSw; (try dsimp only at hSw); have q1 := hSw.1; go_simp; try with_reducible rfl))
          try simp only [Act.put, zA, zB, zC]
          refine TKC 5 76 rfl ?_
          try simp only [Act.put, zA, zB, zC]
          refine TKC 6 77 rfl ?_ (by (intro w hSw; (try dsimp only at hSw); have q1 := hSw.2; go_simp; try with_reducible rfl))
          try simp only [Act.put, zA, zB, zC]
          refine TKC 8 79 rfl ?_
          try simp only [Act.put, zA, zB, zC]
          refine wpAnyH_ready (rs := [2]) (by kernel_rfl) (by simp) ?_
          refine AllReadyH.cons (o := ⟨some 73, _, _, _, _, _⟩) rfl (fun K hK => ?_) AllReadyH.nil
          go_simp
          (go_at_call 37; (refine (itoa_any HI.out (HW.out.at HB)).mono ?_); rintro e w10 ⟨rfl, hb⟩)
          replace B1 := zI B1 hb
          replace HB := zT HB hb
          clear hb
          replace HS0 : w10.cell? ⟨w.heap.size, 2, none⟩ = some (.int .i64 sn) ∧ w10.cell? ⟨w.heap.size, 3, none⟩ = some (.string re) := ⟨B1.cell 2, B1.cell 3⟩
          generalize hN : (txt (Lib.itoa sn)) = N at *
          have HN := Lib.hid hN
          clear hN
          refine hK.out _ _ HS0 (fun hS2 => ?_)
          clear hK K hS2
          try simp only [Act.put, zA, zB, zC]
          refine TKC 3 74 rfl ?_
          try simp only [Act.put, zA, zB, zC]
          refine TKC 4 75 rfl ?_
          try simp only [Act.put, zA, zB, zC]
          refine TKC 7 78 rfl ?_
          try simp only [Act.put, zA, zB, zC]
          refine TKC 9 2 rfl ?_
          try simp only [Act.put, zA, zB, zC]
          refine TKC 10 3 rfl ?_
          try simp only [Act.put, zA, zB, zC]
          refine wpAnyH_done (by kernel_rfl) ?_ _
          go_wp2
          go_ret2
          exact ⟨by rw [HL.out, HS.out]; rfl, HB⟩
      · have HS : Hid (startB ⟨me, ta, sn, re, hd, bo⟩ = false) := Lib.hid (by rw [HSB.out]; simp [a3])
        clear HSB
        go_enter Tryz.func31, Tryz.ntmps31
        go_wp2_with (first
          | (refine wpl_box_at rfl 25 (.tmp 0) rfl _ rfl ?_; intro w1 hw; have B1 := hid_alloc0 hw; have HB := hid_grow hw; clear hw; have c0 : w1.cell? ⟨w.heap.size, 0, none⟩ = some (.string me) := B1.cell 0; have c1 : w1.cell? ⟨w.heap.size, 1, none⟩ = some (.string ta) := B1.cell 1; have c2 : w1.cell? ⟨w.heap.size, 2, none⟩ = some (.int .i64 sn) := B1.cell 2; have c3 : w1.cell? ⟨w.heap.size, 3, none⟩ = some (.string re) := B1.cell 3))
        have hst : ∀ w' : World, w'.heap = w1.heap → w'.cell? ⟨w.heap.size, 2, none⟩ = some (.int .i64 sn) ∧ w'.cell? ⟨w.heap.size, 3, none⟩ = some (.string re) := fun w' hh => ⟨(box_heap hh B1).cell 2, (box_heap hh B1).cell 3⟩
        refine wp_region_S (S := fun w' => w'.cell? ⟨w.heap.size, 2, none⟩ = some (.int .i64 sn) ∧ w'.cell? ⟨w.heap.size, 3, none⟩ = some (.string re)) (by kernel_rfl) (fun w2 hh => hst w2 hh) (fun w2 hh hbb HS0 => ?_)
        replace HB := HB.trans ((hbb _ (Nat.le_refl _)).mono HB.size)
        replace B1 := box_heap hh B1
        clear hh hbb hst
        refine TKC 0 71 rfl ?_
        try simp only [Act.put, zA, zB, zC]
        refine TKC 1 72 rfl ?_ (by (intro w hSw; (try dsimp only at hSw); have q1 := hSw.1; go_simp; try with_reducible rfl))
        try simp only [Act.put, zA, zB, zC]
        refine TKC 5 76 rfl ?_
        try simp only [Act.put, zA, zB, zC]
        refine TKC 6 77 rfl ?_ (by (intro w hSw; (try dsimp only at hSw); have q1 := hSw.2; go_simp; try with_reducible rfl))
        try simp only [Act.put, zA, zB, zC]
        refine TKC 8 79 rfl ?_
        try simp only [Act.put, zA, zB, zC]
        refine wpAnyH_ready (rs := [2]) (by kernel_rfl) (by simp) ?_
        refine AllReadyH.cons (o := ⟨some 73, _, _, _, _, _⟩) rfl (fun K hK => ?_) AllReadyH.nil
        go_simp
        (go_at_call 37; (refine (itoa_any HI.out (HW.out.at HB)).mono ?_); rintro e w10 ⟨rfl, hb⟩)
        replace B1 := zI B1 hb
        replace HB := zT HB hb
        clear hb
        replace HS0 : w10.cell? ⟨w.heap.size, 2, none⟩ = some (.int .i64 sn) ∧ w10.cell? ⟨w.heap.size, 3, none⟩ = some (.string re) := ⟨B1.cell 2, B1.cell 3⟩
        generalize hN : (txt (Lib.itoa sn)) = N at *
        have HN := Lib.hid hN
        clear hN
        refine hK.out _ _ HS0 (fun hS2 => ?_)
        clear hK K hS2
        try simp only [Act.put, zA, zB, zC]
        refine TKC 3 74 rfl ?_
        try simp only [Act.put, zA, zB, zC]
        refine TKC 4 75 rfl ?_
        try simp only [Act.put, zA, zB, zC]
        refine TKC 7 78 rfl ?_
        try simp only [Act.put, zA, zB, zC]
        refine TKC 9 2 rfl ?_
        try simp only [Act.put, zA, zB, zC]
        refine TKC 10 3 rfl ?_
        try simp only [Act.put, zA, zB, zC]
        refine wpAnyH_done (by kernel_rfl) ?_ _
        go_wp2
        go_ret2
        exact ⟨by rw [HL.out, HS.out]; rfl, HB⟩
    · have HS : Hid (startB ⟨me, ta, sn, re, hd, bo⟩ = false) := Lib.hid (by rw [HSB.out]; simp [a2])
      clear HSB
      go_enter Tryz.func31, Tryz.ntmps31
      go_wp2_with (first
        | (refine wpl_box_at rfl 25 (.tmp 0) rfl _ rfl ?_; intro w1 hw; have B1 := hid_alloc0 hw; have HB := hid_grow hw; clear hw; have c0 : w1.cell? ⟨w.heap.size, 0, none⟩ = some (.string me) := B1.cell 0; have c1 : w1.cell? ⟨w.heap.size, 1, none⟩ = some (.string ta) := B1.cell 1; have c2 : w1.cell? ⟨w.heap.size, 2, none⟩ = some (.int .i64 sn) := B1.cell 2; have c3 : w1.cell? ⟨w.heap.size, 3, none⟩ = some (.string re) := B1.cell 3))
      have hst : ∀ w' : World, w'.heap = w1.heap → w'.cell? ⟨w.heap.size, 2, none⟩ = some (.int .i64 sn) ∧ w'.cell? ⟨w.heap.size, 3, none⟩ = some (.string re) := fun w' hh => ⟨(box_heap hh B1).cell 2, (box_heap hh B1).cell 3⟩
      refine wp_region_S (S := fun w' => w'.cell? ⟨w.heap.size, 2, none⟩ = some (.int .i64 sn) ∧ w'.cell? ⟨w.heap.size, 3, none⟩ = some (.string re)) (by kernel_rfl) (fun w2 hh => hst w2 hh) (fun w2 hh hbb HS0 => ?_)
      replace HB := HB.trans ((hbb _ (Nat.le_refl _)).mono HB.size)
      replace B1 := box_heap hh B1
      clear hh hbb hst
      refine TKC 0 71 rfl ?_
      try simp only [Act.put, zA, zB, zC]
      refine TKC 1 72 rfl ?_ (by (intro w hSw; (try dsimp only at hSw); have q1 := hSw.1; go_simp; try with_reducible rfl))
      try simp only [Act.put, zA, zB, zC]
      refine TKC 5 76 rfl ?_
      try simp only [Act.put, zA, zB, zC]
      refine TKC 6 77 rfl ?_ (by (intro w hSw; (try dsimp only at hSw); have q1 := hSw.2; go_simp; try with_reducible rfl))
      try simp only [Act.put, zA, zB, zC]
      refine TKC 8 79 rfl ?_
      try simp only [Act.put, zA, zB, zC]
      refine wpAnyH_ready (rs := [2]) (by kernel_rfl) (by simp) ?_
      refine AllReadyH.cons (o := ⟨some 73, _, _, _, _, _⟩) rfl (fun K hK => ?_) AllReadyH.nil
      go_simp
      (go_at_call 37; (refine (itoa_any HI.out (HW.out.at HB)).mono ?_); rintro e w10 ⟨rfl, hb⟩)
      replace B1 := zI B1 hb
      replace HB := zT HB hb
      clear hb
      replace HS0 : w10.cell? ⟨w.heap.size, 2, none⟩ = some (.int .i64 sn) ∧ w10.cell? ⟨w.heap.size, 3, none⟩ = some (.string re) := ⟨B1.cell 2, B1.cell 3⟩
      generalize hN : (txt (Lib.itoa sn)) = N at *
      have HN := Lib.hid hN
      clear hN
      refine hK.out _ _ HS0 (fun hS2 => ?_)
      clear hK K hS2
      try simp only [Act.put, zA, zB, zC]
      refine TKC 3 74 rfl ?_
      try simp only [Act.put, zA, zB, zC]
      refine TKC 4 75 rfl ?_
      try simp only [Act.put, zA, zB, zC]
      refine TKC 7 78 rfl ?_
      try simp only [Act.put, zA, zB, zC]
      refine TKC 9 2 rfl ?_
      try simp only [Act.put, zA, zB, zC]
      refine TKC 10 3 rfl ?_
      try simp only [Act.put, zA, zB, zC]
      refine wpAnyH_done (by kernel_rfl) ?_ _
      go_wp2
      go_ret2
      exact ⟨by rw [HL.out, HS.out]; rfl, HB⟩
  · have hta := ne_empty a1
    have HS : Hid (startB ⟨me, ta, sn, re, hd, bo⟩ = false) := Lib.hid (by rw [HSB.out]; simp [a1])
    clear HSB
    go_enter Tryz.func31, Tryz.ntmps31
    go_wp2_with (first
      | (refine wpl_box_at rfl 25 (.tmp 0) rfl _ rfl ?_; intro w1 hw; have B1 := hid_alloc0 hw; have HB := hid_grow hw; clear hw; have c0 : w1.cell? ⟨w.heap.size, 0, none⟩ = some (.string me) := B1.cell 0; have c1 : w1.cell? ⟨w.heap.size, 1, none⟩ = some (.string ta) := B1.cell 1; have c2 : w1.cell? ⟨w.heap.size, 2, none⟩ = some (.int .i64 sn) := B1.cell 2; have c3 : w1.cell? ⟨w.heap.size, 3, none⟩ = some (.string re) := B1.cell 3))
    have hst : ∀ w' : World, w'.heap = w1.heap → w'.cell? ⟨w.heap.size, 2, none⟩ = some (.int .i64 sn) ∧ w'.cell? ⟨w.heap.size, 3, none⟩ = some (.string re) := fun w' hh => ⟨(box_heap hh B1).cell 2, (box_heap hh B1).cell 3⟩
    refine wp_region_S (S := fun w' => w'.cell? ⟨w.heap.size, 2, none⟩ = some (.int .i64 sn) ∧ w'.cell? ⟨w.heap.size, 3, none⟩ = some (.string re)) (by kernel_rfl) (fun w2 hh => hst w2 hh) (fun w2 hh hbb HS0 => ?_)
    replace HB := HB.trans ((hbb _ (Nat.le_refl _)).mono HB.size)
    replace B1 := box_heap hh B1
    clear hh hbb hst
    refine TKC 0 71 rfl ?_
    try simp only [Act.put, zA, zB, zC]
    refine TKC 1 72 rfl ?_ (by (intro w hSw; (try dsimp only at hSw); have q1 := hSw.1; go_simp; try with_reducible rfl))
    try simp only [Act.put, zA, zB, zC]
    refine TKC 5 76 rfl ?_
    try simp only [Act.put, zA, zB, zC]
    refine TKC 6 77 rfl ?_ (by (intro w hSw; (try dsimp only at hSw); have q1 := hSw.2; go_simp; try with_reducible rfl))
    try simp only [Act.put, zA, zB, zC]
    refine TKC 8 79 rfl ?_
    try simp only [Act.put, zA, zB, zC]
    refine wpAnyH_ready (rs := [2]) (by kernel_rfl) (by simp) ?_
    refine AllReadyH.cons (o := ⟨some 73, _, _, _, _, _⟩) rfl (fun K hK => ?_) AllReadyH.nil
    go_simp
    (go_at_call 37; (refine (itoa_any HI.out (HW.out.at HB)).mono ?_); rintro e w10 ⟨rfl, hb⟩)
    replace B1 := zI B1 hb
    replace HB := zT HB hb
    clear hb
    replace HS0 : w10.cell? ⟨w.heap.size, 2, none⟩ = some (.int .i64 sn) ∧ w10.cell? ⟨w.heap.size, 3, none⟩ = some (.string re) := ⟨B1.cell 2, B1.cell 3⟩
    generalize hN : (txt (Lib.itoa sn)) = N at *
    have HN := Lib.hid hN
    clear hN
    refine hK.out _ _ HS0 (fun hS2 => ?_)
    clear hK K hS2
    try simp only [Act.put, zA, zB, zC]
    refine TKC 3 74 rfl ?_
    try simp only [Act.put, zA, zB, zC]
    refine TKC 4 75 rfl ?_
    try simp only [Act.put, zA, zB, zC]
    refine TKC 7 78 rfl ?_
    try simp only [Act.put, zA, zB, zC]
    refine TKC 9 2 rfl ?_
    try simp only [Act.put, zA, zB, zC]
    refine TKC 10 3 rfl ?_
    try simp only [Act.put, zA, zB, zC]
    refine wpAnyH_done (by kernel_rfl) ?_ _
    go_wp2
    go_ret2
    exact ⟨by rw [HL.out, HS.out]; rfl, HB⟩
end Go.Proofs.YtbehakabglegjaaGreatDoor
