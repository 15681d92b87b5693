/- Layer 9: a feed's steps at a piece's size. -/
import Derived.Test.YtbehakabglegjaaGreatDoorQ11
import Derived.Test.YtbehakabglegjaaGreatDoorQ07
import Derived.Test.YtbehakabglegjaaGreatDoorQZip
namespace Go.Proofs.YtbehakabglegjaaGreatDoor
open Go.RowKit Go.PlainAid
set_option linter.unusedVariables false
set_option linter.unusedSimpArgs false
set_option maxRecDepth 100000 in
set_option maxHeartbeats 4000000 in
theorem sized_any {base : Bs} {g : Nat} {F : Fs} {nx tk hs bd wh : Value} {L : List Mm} {w : World} {c : UInt8} (h : FdM base g F nx tk hs bd wh L w) (hj : FJ F) (hx : F.next = 10) :
    Calls Tryz.prog 152 #[.pointer (some ⟨g, 0, none⟩), .int .u8 (c.toNat : Int)] w (StV base g F c w) := by
  have HT := Lib.hid hj.tok
  have HBD := Lib.hid hj.body
  obtain ⟨hz1, hz2⟩ := hj.size
  have HS : Hid (stepS F c = sizedS F c) := Lib.hid (by unfold stepS; rw [hx]; rfl)
  clear hj hx
  obtain ⟨A, cp, htk⟩ := bt_slice h.2.rt
  subst htk
  have B := h.1
  have R := Lib.hid h.2
  have HB := Bl.refl base w
  clear h
  have c14 : w.cell? ⟨g, 14, none⟩ = some (.int .i64 F.size) := B.cell 14
  obtain ⟨bA, bc, hbv⟩ := bt_slice R.out.rb
  subst hbv
  have c11 : w.cell? ⟨g, 11, none⟩ = some (.slice bA F.m.body.length bc) := B.cell 11
  by_cases h1 : c.toNat = 10
  · have h65 := HBD.out
    have hwr : IntKind.i64.wrap ((F.m.body.length : Int) + F.size) = (F.m.body.length : Int) + F.size := (by rw [IntKind.wrap_i64]; omega)
    have hwr2 : IntKind.i64.wrap (F.m.body.length : Int) = (F.m.body.length : Int) := (by rw [IntKind.wrap_i64]; omega)
    by_cases h2 : 65536 < F.m.body.length + F.size
    · have HV : Hid (sizedS F c = .bad 2) := Lib.hid (by unfold sizedS; rw [if_neg (by omega), if_pos h2])
      go_enter Tryz.func152, Tryz.ntmps152
      have hcell : ∀ w' : World, w'.heap = w.heap → w'.cell? ⟨g, 11, none⟩ = some (.slice bA F.m.body.length bc) ∧ w'.cell? ⟨g, 14, none⟩ = some (.int .i64 F.size) := fun w' hh => ⟨(box_heap hh B).cell 11, (box_heap hh B).cell 14⟩
      clear c11 c14
      go_wp2
      refine wp_region_S (S := fun w' => w'.cell? ⟨g, 11, none⟩ = some (.slice bA F.m.body.length bc) ∧ w'.cell? ⟨g, 14, none⟩ = some (.int .i64 F.size)) (by kernel_rfl) (fun w2 hh => hcell w2 hh) (fun w2 hh hbb HSS => ?_)
      replace HB := HB.trans (Bl.of (hbb _ (Nat.le_refl _)) R.out.bl R.out.avl)
      replace R := Lib.hid (R.out.below (hbb _ (Nat.le_refl _)))
      replace B : IBox w2 g 81 (FdC F nx (.slice A F.tok.length cp) hs (.slice bA F.m.body.length bc) wh) := box_heap hh B
      clear hh hbb hcell
      refine TKC 0 10 rfl ?_
      try simp only [Act.put, zA, zB, zC]
      refine TKC 1 11 rfl ?_
      try simp only [Act.put, zA, zB, zC]
      refine TKC 2 12 rfl ?_
      try simp only [Act.put, zA, zB, zC]
      refine TKC 3 13 rfl ?_
      try simp only [Act.put, zA, zB, zC]
      refine TKC 4 14 rfl ?_ (by (intro w hSw; (try dsimp only at hSw); have q1 := hSw.1; go_simp; try with_reducible rfl))
      try simp only [Act.put, zA, zB, zC]
      refine TKC 5 15 rfl ?_
      try simp only [Act.put, zA, zB, zC]
      refine TKC 6 16 rfl ?_
      try simp only [Act.put, zA, zB, zC]
      refine TKC 7 17 rfl ?_
      try simp only [Act.put, zA, zB, zC]
      refine TKC 8 18 rfl ?_
      try simp only [Act.put, zA, zB, zC]
      refine TKC 9 19 rfl ?_ (by (intro w hSw; (try dsimp only at hSw); have q1 := hSw.2; go_simp; try with_reducible rfl))
      try simp only [Act.put, zA, zB, zC]
      refine TKC 10 20 rfl ?_
      try simp only [Act.put, zA, zB, zC]
      refine TKC 11 21 rfl ?_
      try simp only [Act.put, zA, zB, zC]
      refine TKC 12 9 rfl ?_
      try simp only [Act.put, zA, zB, zC]
      refine wpAnyH_done (by kernel_rfl) ?_ _
      have c14 : w2.cell? ⟨g, 14, none⟩ = some (.int .i64 F.size) := B.cell 14
      clear HSS
      go_wp2
      go_ret2
      exact StV.bad (HS.out.trans HV.out) HB (fdm B R.out)
    · by_cases h3 : F.size = 0
      · have HV : Hid (sizedS F c = .ok { F with next := 12 }) := Lib.hid (by unfold sizedS; rw [if_neg (by omega), if_neg h2, if_pos h3])
        go_enter Tryz.func152, Tryz.ntmps152
        have hcell : ∀ w' : World, w'.heap = w.heap → w'.cell? ⟨g, 11, none⟩ = some (.slice bA F.m.body.length bc) ∧ w'.cell? ⟨g, 14, none⟩ = some (.int .i64 F.size) := fun w' hh => ⟨(box_heap hh B).cell 11, (box_heap hh B).cell 14⟩
        clear c11 c14
        go_wp2
        refine wp_region_S (S := fun w' => w'.cell? ⟨g, 11, none⟩ = some (.slice bA F.m.body.length bc) ∧ w'.cell? ⟨g, 14, none⟩ = some (.int .i64 F.size)) (by kernel_rfl) (fun w2 hh => hcell w2 hh) (fun w2 hh hbb HSS => ?_)
        replace HB := HB.trans (Bl.of (hbb _ (Nat.le_refl _)) R.out.bl R.out.avl)
        replace R := Lib.hid (R.out.below (hbb _ (Nat.le_refl _)))
        replace B : IBox w2 g 81 (FdC F nx (.slice A F.tok.length cp) hs (.slice bA F.m.body.length bc) wh) := box_heap hh B
        clear hh hbb hcell
        refine TKC 0 10 rfl ?_
        try simp only [Act.put, zA, zB, zC]
        refine TKC 1 11 rfl ?_
        try simp only [Act.put, zA, zB, zC]
        refine TKC 2 12 rfl ?_
        try simp only [Act.put, zA, zB, zC]
        refine TKC 3 13 rfl ?_
        try simp only [Act.put, zA, zB, zC]
        refine TKC 4 14 rfl ?_ (by (intro w hSw; (try dsimp only at hSw); have q1 := hSw.1; go_simp; try with_reducible rfl))
        try simp only [Act.put, zA, zB, zC]
        refine TKC 5 15 rfl ?_
        try simp only [Act.put, zA, zB, zC]
        refine TKC 6 16 rfl ?_
        try simp only [Act.put, zA, zB, zC]
        refine TKC 7 17 rfl ?_
        try simp only [Act.put, zA, zB, zC]
        refine TKC 8 18 rfl ?_
        try simp only [Act.put, zA, zB, zC]
        refine TKC 9 19 rfl ?_ (by (intro w hSw; (try dsimp only at hSw); have q1 := hSw.2; go_simp; try with_reducible rfl))
        try simp only [Act.put, zA, zB, zC]
        refine TKC 10 20 rfl ?_
        try simp only [Act.put, zA, zB, zC]
        refine TKC 11 21 rfl ?_
        try simp only [Act.put, zA, zB, zC]
        refine TKC 12 9 rfl ?_
        try simp only [Act.put, zA, zB, zC]
        refine wpAnyH_done (by kernel_rfl) ?_ _
        have c14 : w2.cell? ⟨g, 14, none⟩ = some (.int .i64 F.size) := B.cell 14
        clear HSS
        go_wp2
        go_ret2
        exact StV.ok (HS.out.trans HV.out) HB (fdm B (R.out.same rfl rfl rfl rfl)) rfl
      · have HV : Hid (sizedS F c = .ok { F with left := F.size, next := 11 }) := Lib.hid (by unfold sizedS; rw [if_neg (by omega), if_neg h2, if_neg h3])
        go_enter Tryz.func152, Tryz.ntmps152
        have hcell : ∀ w' : World, w'.heap = w.heap → w'.cell? ⟨g, 11, none⟩ = some (.slice bA F.m.body.length bc) ∧ w'.cell? ⟨g, 14, none⟩ = some (.int .i64 F.size) := fun w' hh => ⟨(box_heap hh B).cell 11, (box_heap hh B).cell 14⟩
        clear c11 c14
        go_wp2
        refine wp_region_S (S := fun w' => w'.cell? ⟨g, 11, none⟩ = some (.slice bA F.m.body.length bc) ∧ w'.cell? ⟨g, 14, none⟩ = some (.int .i64 F.size)) (by kernel_rfl) (fun w2 hh => hcell w2 hh) (fun w2 hh hbb HSS => ?_)
        replace HB := HB.trans (Bl.of (hbb _ (Nat.le_refl _)) R.out.bl R.out.avl)
        replace R := Lib.hid (R.out.below (hbb _ (Nat.le_refl _)))
        replace B : IBox w2 g 81 (FdC F nx (.slice A F.tok.length cp) hs (.slice bA F.m.body.length bc) wh) := box_heap hh B
        clear hh hbb hcell
        refine TKC 0 10 rfl ?_
        try simp only [Act.put, zA, zB, zC]
        refine TKC 1 11 rfl ?_
        try simp only [Act.put, zA, zB, zC]
        refine TKC 2 12 rfl ?_
        try simp only [Act.put, zA, zB, zC]
        refine TKC 3 13 rfl ?_
        try simp only [Act.put, zA, zB, zC]
        refine TKC 4 14 rfl ?_ (by (intro w hSw; (try dsimp only at hSw); have q1 := hSw.1; go_simp; try with_reducible rfl))
        try simp only [Act.put, zA, zB, zC]
        refine TKC 5 15 rfl ?_
        try simp only [Act.put, zA, zB, zC]
        refine TKC 6 16 rfl ?_
        try simp only [Act.put, zA, zB, zC]
        refine TKC 7 17 rfl ?_
        try simp only [Act.put, zA, zB, zC]
        refine TKC 8 18 rfl ?_
        try simp only [Act.put, zA, zB, zC]
        refine TKC 9 19 rfl ?_ (by (intro w hSw; (try dsimp only at hSw); have q1 := hSw.2; go_simp; try with_reducible rfl))
        try simp only [Act.put, zA, zB, zC]
        refine TKC 10 20 rfl ?_
        try simp only [Act.put, zA, zB, zC]
        refine TKC 11 21 rfl ?_
        try simp only [Act.put, zA, zB, zC]
        refine TKC 12 9 rfl ?_
        try simp only [Act.put, zA, zB, zC]
        refine wpAnyH_done (by kernel_rfl) ?_ _
        have c14 : w2.cell? ⟨g, 14, none⟩ = some (.int .i64 F.size) := B.cell 14
        clear HSS
        go_wp2_with (first
          | ((with_reducible refine is_store ?_); refine wpl_store_cell rfl 3 (.tmp 34) (.tmp 32) rfl g 13 rfl (.int .i64 F.size) rfl _ _ B (show 13 < 16 by decide) one_i rfl ?_; intro w4 hw; replace HB := HB.trans (R.out.store hw); replace R := Lib.hid (R.out.row (Bes.row (X := fun q => q = g) hw rfl)); replace B := hid_row hw B; simp only [FdC_13] at B; clear hw))
        go_ret2
        exact StV.ok (HS.out.trans HV.out) HB (fdm B (R.out.same rfl rfl rfl rfl)) rfl
  · have HV : Hid (sizedS F c = .bad 32) := Lib.hid (by unfold sizedS; rw [if_pos h1])
    go_enter Tryz.func152, Tryz.ntmps152
    go_wp2
    go_ret2
    exact StV.bad (HS.out.trans HV.out) HB (fdm B R.out)
theorem or_16 {s d : Int} (h1 : 0 ≤ s) (h2 : s < 4294967296) (h3 : 0 ≤ d) (h4 : d < 16) : bits BinOp.or IntKind.i64 (wrap64 (s * 16)) d = s * 16 + d := by
  obtain ⟨n, rfl⟩ := Int.eq_ofNat_of_zero_le h1
  obtain ⟨k, rfl⟩ := Int.eq_ofNat_of_zero_le h3
  have hn : n < 4294967296 := by omega
  have hk : k < 16 := by omega
  rw [show wrap64 ((n : Int) * 16) = ((n * 16 : Nat) : Int) by unfold wrap64; omega]
  unfold bits
  show IntKind.i64.wrap (((BitVec.ofInt 64 ((n * 16 : Nat) : Int) ||| BitVec.ofInt 64 (k : Int)).toNat : Nat) : Int) = _
  rw [BitVec.ofInt_natCast, BitVec.ofInt_natCast, BitVec.toNat_or, BitVec.toNat_ofNat, BitVec.toNat_ofNat, Nat.mod_eq_of_lt (by omega), Nat.mod_eq_of_lt (by omega), show n * 16 = n <<< 4 by rw [Nat.shiftLeft_eq], ← Nat.shiftLeft_add_eq_or_of_lt (by omega) n, Nat.shiftLeft_eq, IntKind.wrap_i64]
  omega
set_option maxRecDepth 100000 in
set_option maxHeartbeats 4000000 in
theorem digits_any {base : Bs} {g : Nat} {F : Fs} {nx tk hs bd wh : Value} {L : List Mm} {w : World} {c : UInt8} (h : FdM base g F nx tk hs bd wh L w) (hj : FJ F) (hx : F.next = 9) :
    Calls Tryz.prog 141 #[.pointer (some ⟨g, 0, none⟩), .int .u8 (c.toNat : Int)] w (StV base g F c w) := by
  have HT := Lib.hid hj.tok
  have HZ := Lib.hid hj.size
  have HD := Lib.hid (hj.dig hx)
  have HNX := Lib.hid hx
  have HS : Hid (stepS F c = digitsS F c) := Lib.hid (by unfold stepS; rw [hx]; rfl)
  clear hj hx
  obtain ⟨A, cp, htk⟩ := bt_slice h.2.rt
  subst htk
  have B := h.1
  have R := Lib.hid h.2
  have HB := Bl.refl base w
  clear h
  have c5 : w.cell? ⟨g, 5, none⟩ = some (.slice A F.tok.length cp) := B.cell 5
  have c14 : w.cell? ⟨g, 14, none⟩ = some (.int .i64 F.size) := B.cell 14
  by_cases h1 : c.toNat = 13 ∧ 0 < F.tok.length
  · have HV : Hid (digitsS F c = .ok { F with tok := [], next := 10 }) := Lib.hid (by unfold digitsS; rw [if_pos h1])
    by_cases a0 : c.toNat = 13 <;> by_cases a1 : 0 < F.tok.length
    all_goals first
      | (exfalso; omega)
      | skip
    all_goals clear h1
    all_goals
      go_enter Tryz.func141, Tryz.ntmps141
      go_wp2_with (first
        | (go_at_call 101; (have hM := fdm (F := F) B R.out); (with_reducible refine (taken_any hM).mono ?_); rintro e w4 ⟨rfl, ⟨tk4, hm⟩, hb⟩; replace B := hm.1; replace R := Lib.hid hm.2; replace HB := HB.trans hb; clear hm hb hM))
      go_ret2
      exact StV.ok (HS.out.trans HV.out) HB (fdm B (R.out.same rfl rfl rfl rfl)) rfl
  · obtain ⟨d, hd⟩ : ∃ d, hexB c = d := ⟨_, rfl⟩
    have hd15 := hexB_lt c
    rw [hd] at hd15
    by_cases h3 : c.toNat = 13
    · have hc : c = 13 := UInt8.toNat_inj.1 h3
      subst hc
      have hd2 : hexB 13 = -1 := by decide
      have HV : Hid (digitsS F 13 = .bad 32) := Lib.hid (by unfold digitsS; rw [if_neg h1, if_pos (by rw [hd2]; exact .inl (by decide))])
      have HH := Lib.hid hd2
      have a2 : ¬ 0 < F.tok.length := fun h => h1 ⟨h3, h⟩
      clear hd hd2 h1 hd15
      go_enter Tryz.func141, Tryz.ntmps141
      go_wp2_with (first
        | (go_at_call 73; (refine (hex_any 13 _).mono ?_); rintro e w9 ⟨rfl, rfl⟩; rw [HH.out]))
      go_ret2
      exact StV.bad (HS.out.trans HV.out) HB (fdm B R.out)
    by_cases h2 : d < 0 ∨ F.tok.length = 8
    · have HV : Hid (digitsS F c = .bad 32) := Lib.hid (by unfold digitsS; rw [if_neg h1, if_pos (by rw [hd]; exact h2)])
      have HH := Lib.hid hd
      clear hd
      clear h1
      by_cases a3 : d < 0 <;> by_cases a4 : (F.tok.length : Int) = 8
      all_goals first
        | (exfalso; omega)
        | skip
      all_goals clear h2
      all_goals
        go_enter Tryz.func141, Tryz.ntmps141
        go_wp2_with (first
          | (go_at_call 73; (with_reducible refine (hex_any c _).mono ?_); rintro e w9 ⟨rfl, rfl⟩; rw [HH.out]))
        go_ret2
        exact StV.bad (HS.out.trans HV.out) HB (fdm B R.out)
    · have HV : Hid (digitsS F c = .ok { F.put c with size := F.size * 16 + d, next := 9 }) := Lib.hid (by unfold digitsS; rw [if_neg h1, if_neg (by rw [hd]; exact h2), hd])
      have HH := Lib.hid hd
      clear hd
      clear h1
      have HBT : Hid (bits BinOp.or IntKind.i64 (wrap64 (F.size * 16)) d = F.size * 16 + d) := Lib.hid (or_16 HZ.out.1 HZ.out.2 (by omega) (by omega))
      by_cases a3 : d < 0 <;> by_cases a4 : (F.tok.length : Int) = 8
      all_goals first
        | (exfalso; omega)
        | skip
      all_goals clear h2
      all_goals
        go_enter Tryz.func141, Tryz.ntmps141
        go_wp2_with (first
          | (go_at_call 73; (with_reducible refine (hex_any c _).mono ?_); rintro e w9 ⟨rfl, rfl⟩; rw [HH.out])
          | ((with_reducible refine is_slice ?_); refine wpl_u8 rfl (.tmp 36) rfl c rfl ?_; intro w1 hb B9; replace B := zI B hb; replace HB := bl_add HB hb R.out; replace R := Lib.hid (R.out.below hb); clear hb)
          | (at_builtin; refine wpl_tok rfl (.tmp 35) (.tmp 37) rfl R.out B (by have := HT.out; omega) B9 rfl rfl ?_; intro A1 p1 w2 hr hB hb; replace HB := HB.trans hb; replace R := Lib.hid hr; replace B := hB; clear hr hB hb B9)
          | ((with_reducible refine is_store ?_); refine wpl_store_cell rfl 23 (.tmp 40) (.tmp 38) rfl g 5 rfl (.slice A1 (F.tok.length + 1) p1) rfl _ _ B (show 5 < 16 by decide) one_sb rfl ?_; intro w3 hw; replace HB := HB.trans (R.out.store hw); replace R := Lib.hid (R.out.row (Bes.row (X := fun q => q = g) hw rfl)); replace B := hid_row hw B; simp only [FdC_5] at B; clear hw; clear c14; have c14 : w3.cell? ⟨g, 14, none⟩ = some (.int .i64 F.size) := B.cell 14)
          | ((with_reducible refine is_store ?_); refine wpl_store_cell rfl 3 (.tmp 50) (.tmp 48) rfl g 14 rfl (.int .i64 (F.size * 16 + d)) (by rw [← HBT.out]; rfl) _ _ B (show 14 < 16 by decide) one_i rfl ?_; intro w4 hw; replace HB := HB.trans (R.out.store hw); replace R := Lib.hid (R.out.row (Bes.row (X := fun q => q = g) hw rfl)); replace B := hid_row hw B; simp only [FdC_14] at B; clear hw))
        all_goals first
          | (rename_i hh; exfalso; rcases hh with hh | hh; (· omega); (· simp at hh; omega))
          | (go_ret2; exact StV.ok (HS.out.trans HV.out) HB (fdm B (R.out.same rfl rfl rfl rfl)) rfl)
end Go.Proofs.YtbehakabglegjaaGreatDoor
