/- Layer 2: two values alike are found to be so Layer 3: the law CanonBack answers true. -/
import Derived.Test.YtnjhmnolngdfaaaGreatDoorQ20
import Derived.Test.YtnjhmnolngdfaaaGreatDoorQ23
import Derived.Test.YtnjhmnolngdfaaaGreatDoorQ16
import Derived.Test.YtnjhmnolngdfaaaGreatDoorQZip
namespace Go.Proofs.YtnjhmnolngdfaaaGreatDoor
section
open Go.RowKit Go.PlainAid
set_option linter.unusedVariables false
set_option linter.unusedSimpArgs false

set_option maxRecDepth 100000 in
set_option maxHeartbeats 8000000 in
theorem same_to (sz : Nat) : ∀ (j k : JV) (w : World), SizeOf.sizeOf j < sz → IsJV w j → IsJV w k → er j = er k →
    Calls Tryz.prog 17 #[.agg j.cells, .agg k.cells] w fun e w' => e = .returned (.bool true) ∧ Below w.heap.size w w' := by
  induction sz with
  | zero => intro j k w h; omega
  | succ sz ih =>
    intro j k w hsz HJ HK her
    obtain ⟨e0, e1, e2, e3, hL, hNS, hVS⟩ := er_parts her
    obtain ⟨l1, l2, l3, l4, l5⟩ := jv_lens HJ
    obtain ⟨m1, m2, m3, _, _⟩ := jv_lens HK
    have lenL : k.l.length = j.l.length := by rw [← erL_len, ← hL, erL_len]
    have lenV : k.vs.length = j.vs.length := by rw [← erL_len, ← hVS, erL_len]
    have E0 := Lib.hid e0
    have E1 := Lib.hid e1
    have E2 := Lib.hid e2
    have E3 := Lib.hid e3
    have E4 := Lib.hid (show k.v.Ln = j.v.Ln by omega)
    have E5 := Lib.hid (show k.v.Fn = j.v.Fn by omega)
    have HL := Lib.hid hL
    have HVS := Lib.hid hVS
    have HNS := Lib.hid hNS
    have LL := Lib.hid l1
    have LV := Lib.hid l2
    have KL := Lib.hid lenL
    have KV := Lib.hid lenV
    have SZ := Lib.hid hsz
    have IH := ih
    clear ih her e0 e1 e2 e3 hL hNS hVS l1 l2 l3 m1 m2 m3 lenL lenV hsz
    have HB := Below.refl w.heap.size w
    go_enter Tryz.func17, Tryz.ntmps17
    go_wp2_with (first
      | (refine wpl_box_at rfl 25 (.tmp 0) rfl _ rfl ?_; intro w1 hw; have hb := hid_grow hw; have B2 := (hid_alloc hw).1; replace HB := zT HB hb; replace HJ := HJ.below hb; replace HK := HK.below hb; clear hb hw; have c2_0 : w1.cell? ⟨_, 0, none⟩ = some (.int .i64 j.v.kind) := (B2.cell 0).trans (by rfl); have c2_1 : w1.cell? ⟨_, 1, none⟩ = some (.bool j.v.b) := (B2.cell 1).trans (by rfl); have c2_2 : w1.cell? ⟨_, 2, none⟩ = some (.int .i64 j.v.i) := (B2.cell 2).trans (by rfl); have c2_3 : w1.cell? ⟨_, 3, none⟩ = some (.string j.v.t) := (B2.cell 3).trans (by rfl); have c2_4 : w1.cell? ⟨_, 4, none⟩ = some (.slice j.v.LA j.v.Ln j.v.Lc) := (B2.cell 4).trans (by rfl); have c2_5 : w1.cell? ⟨_, 5, none⟩ = some (.slice j.v.FA j.v.Fn j.v.Fc) := (B2.cell 5).trans (by rfl); clear B2)
      | (refine wpl_box_at rfl 25 (.tmp 1) rfl _ rfl ?_; intro w1 hw; have hb := hid_grow hw; have B3 := (hid_alloc hw).1; replace HB := zT HB hb; replace HJ := HJ.below hb; replace HK := HK.below hb; replace c2_0 := cell_below hb c2_0; replace c2_1 := cell_below hb c2_1; replace c2_2 := cell_below hb c2_2; replace c2_3 := cell_below hb c2_3; replace c2_4 := cell_below hb c2_4; replace c2_5 := cell_below hb c2_5; clear hb hw; have c3_0 : w1.cell? ⟨_, 0, none⟩ = some (.int .i64 j.v.kind) := (B3.cell 0).trans (by rw [← E0.out]; rfl); have c3_1 : w1.cell? ⟨_, 1, none⟩ = some (.bool j.v.b) := (B3.cell 1).trans (by rw [← E1.out]; rfl); have c3_2 : w1.cell? ⟨_, 2, none⟩ = some (.int .i64 j.v.i) := (B3.cell 2).trans (by rw [← E2.out]; rfl); have c3_3 : w1.cell? ⟨_, 3, none⟩ = some (.string j.v.t) := (B3.cell 3).trans (by rw [← E3.out]; rfl); have c3_4 : w1.cell? ⟨_, 4, none⟩ = some (.slice k.v.LA j.v.Ln k.v.Lc) := (B3.cell 4).trans (by rw [← E4.out]; rfl); have c3_5 : w1.cell? ⟨_, 5, none⟩ = some (.slice k.v.FA j.v.Fn k.v.Fc) := (B3.cell 5).trans (by rw [← E5.out]; rfl); clear B3))
    clear c2_0 c2_1 c2_2 c2_3 c3_0 c3_1 c3_2 c3_3
    go_loopw [5] (fun i wr => ∃ q : Nat, q ≤ j.v.Ln ∧ i = .int .i64 q ∧ Hid (0 ≤ q) ∧ Below w1.heap.size w1 wr) (fun i _ => j.v.Ln - (intOf i).toNat)
    case atStart => exact ⟨0, Nat.zero_le _, rfl, Nat.zero_le _, Below.refl _ _⟩
    case round =>
      obtain ⟨q, hq, rfl, HQ, hb⟩ := hrel
      have HBW := Lib.hid hb
      replace HB := zT HB hb
      replace HJ := HJ.below hb
      replace HK := HK.below hb
      replace c2_4 := cell_below hb c2_4
      replace c2_5 := cell_below hb c2_5
      replace c3_4 := cell_below hb c3_4
      replace c3_5 := cell_below hb c3_5
      clear hb
      by_cases hlt : q < j.v.Ln
      · obtain ⟨bl, off, x, hA, hx, RX, HX⟩ := jv_elem HJ (show q < j.l.length by have := LL.out; omega)
        obtain ⟨bl2, off2, y, hA2, hy, RY, HY⟩ := jv_elem HK (show q < k.l.length by have := LL.out; have := KL.out; omega)
        have HER := Lib.hid (erL_get HL.out hx hy)
        have HSZ := Lib.hid (show SizeOf.sizeOf x < sz by have := size_l hx; have := SZ.out; omega)
        have hbd : 0 ≤ (q : Int) ∧ (q : Int) < j.v.Ln := by omega
        rw [hA] at c2_4
        rw [hA2] at c3_4
        clear hx hy hA hA2
        go_wp2
        refine wp_region_below (by kernel_rfl) (fun w2 hHeld => ?_)
        refine TKB 0 60 ?_ rfl ?_ ?_
        rotate_left
        · (intro w hSw; (try dsimp only at hSw); have := cell_below hSw c2_4; have := cell_below hSw c3_4; go_simp; try with_reducible rfl)
        try simp only [Act.put, zA, zB, zC]
        refine TKB 1 61 ?_ rfl ?_ ?_
        rotate_left
        · (intro w hSw; (try dsimp only at hSw); have := cell_below hSw c2_4; have := cell_below hSw c3_4; go_simp; try with_reducible rfl)
        try simp only [Act.put, zA, zB, zC]
        refine TKB 2 62 ?_ rfl ?_ ?_
        rotate_left
        · (intro w hSw; (try dsimp only at hSw); have := cell_below hSw c2_4; have := cell_below hSw c3_4; go_simp; try with_reducible rfl)
        try simp only [Act.put, zA, zB, zC]
        refine TKB 3 63 ?_ rfl ?_ ?_
        rotate_left
        · (intro w hSw; (try dsimp only at hSw); have := cell_below hSw c2_4; have := cell_below hSw c3_4; go_simp; try with_reducible rfl)
        try simp only [Act.put, zA, zB, zC]
        refine wpAnyH_take (i := 4) (oi := ⟨some 64, _, _, _, _, _⟩) (v := _) rfl (by kernel_rfl) (by kernel_rfl) (by kernel_rfl) (fun _ _ _ h => h) (yields_arr (by kernel_rfl) _ _ rfl _ _ rfl _ _ RX Tryz.underlying25 rfl info_value) (by assumption) ?_
        try simp only [Act.put, zA, zB, zC]
        refine TKB 5 65 ?_ rfl ?_ ?_
        rotate_left
        · (intro w hSw; (try dsimp only at hSw); have := cell_below hSw c2_4; have := cell_below hSw c3_4; go_simp; try with_reducible rfl)
        try simp only [Act.put, zA, zB, zC]
        refine TKB 6 66 ?_ rfl ?_ ?_
        rotate_left
        · (intro w hSw; (try dsimp only at hSw); have := cell_below hSw c2_4; have := cell_below hSw c3_4; go_simp; try with_reducible rfl)
        try simp only [Act.put, zA, zB, zC]
        refine TKB 7 67 ?_ rfl ?_ ?_
        rotate_left
        · (intro w hSw; (try dsimp only at hSw); have := cell_below hSw c2_4; have := cell_below hSw c3_4; go_simp; try with_reducible rfl)
        try simp only [Act.put, zA, zB, zC]
        refine TKB 8 68 ?_ rfl ?_ ?_
        rotate_left
        · (intro w hSw; (try dsimp only at hSw); have := cell_below hSw c2_4; have := cell_below hSw c3_4; go_simp; try with_reducible rfl)
        try simp only [Act.put, zA, zB, zC]
        refine wpAnyH_take (i := 9) (oi := ⟨some 69, _, _, _, _, _⟩) (v := _) rfl (by kernel_rfl) (by kernel_rfl) (by kernel_rfl) (fun _ _ _ h => h) (yields_arr (by kernel_rfl) _ _ rfl _ _ rfl _ _ RY Tryz.underlying25 rfl info_value) (by assumption) ?_
        try simp only [Act.put, zA, zB, zC]
        refine wpAnyH_ready (rs := [10]) (by kernel_rfl) (by simp) ?_
        refine AllReadyH.cons (o := ⟨some 70, _, _, _, _, _⟩) rfl (fun K hK => ?_) AllReadyH.nil
        go_simp
        (go_at_call 17; (with_reducible refine (IH x y w2 (HSZ.out) (HX.below hHeld) (HY.below hHeld) HER.out).mono ?_); rintro e w3 ⟨rfl, hb3⟩)
        refine hK.out _ _ ?_ (fun hHeld2 => ?_)
        · (try dsimp only); exact zT hHeld hb3
        clear hK K hHeld hb3
        try simp only [Act.put, zA, zB, zC]
        refine TKB 11 6 ?_ rfl ?_ ?_
        rotate_left
        · (intro w hSw; (try dsimp only at hSw); have := cell_below hSw c2_4; have := cell_below hSw c3_4; go_simp; try with_reducible rfl)
        try simp only [Act.put, zA, zB, zC]
        refine wpAnyH_done (by kernel_rfl) ?_ _
        have hb := hHeld2
        replace HB := zT HB hb
        replace HJ := HJ.below hb
        replace HK := HK.below hb
        replace c2_4 := cell_below hb c2_4
        replace c2_5 := cell_below hb c2_5
        replace c3_4 := cell_below hb c3_4
        replace c3_5 := cell_below hb c3_5
        replace HBW := Lib.hid (HBW.out.trans (hb.mono HBW.out.size))
        clear hb hHeld2
        go_wp2
        go_roundw
        case rel => exact ⟨q + 1, by omega, by go_num, Nat.zero_le _, HBW.out⟩
        case measure => simp [intOf]; omega
      · obtain rfl : q = j.v.Ln := by omega
        clear hq hlt HBW
        obtain ⟨wn, hwn⟩ : ∃ w9 : World, w9 = wr := ⟨wr, rfl⟩
        subst hwn
        go_wp2
        go_loopw [7] (fun i wr => ∃ q : Nat, q ≤ j.v.Fn ∧ i = .int .i64 q ∧ Hid (0 ≤ q) ∧ Below wn.heap.size wn wr) (fun i _ => j.v.Fn - (intOf i).toNat)
        case atStart => exact ⟨0, Nat.zero_le _, rfl, Nat.zero_le _, Below.refl _ _⟩
        case round =>
          obtain ⟨q, hq, rfl, HQ, hb⟩ := hrel
          have HBW := Lib.hid hb
          replace HB := zT HB hb
          replace HJ := HJ.below hb
          replace HK := HK.below hb
          replace c2_4 := cell_below hb c2_4
          replace c2_5 := cell_below hb c2_5
          replace c3_4 := cell_below hb c3_4
          replace c3_5 := cell_below hb c3_5
          clear hb
          by_cases hlt : q < j.v.Fn
          · obtain ⟨bl, off, nm, x, hA, hx, hnx, n1, RX, HX⟩ := jv_fld HJ (show q < j.vs.length by have := LV.out; omega)
            obtain ⟨bl2, off2, nm2, y, hA2, hy, hny, n2, RY, HY⟩ := jv_fld HK (show q < k.vs.length by have := LV.out; have := KV.out; omega)
            have HER := Lib.hid (erL_get HVS.out hx hy)
            have HSZ := Lib.hid (show SizeOf.sizeOf x < sz by have := size_vs hx; have := SZ.out; omega)
            have hnn : nm2 = nm := by
              rw [← HNS.out, hnx] at hny
              exact (Option.some.inj hny).symm
            subst hnn
            have hbd : 0 ≤ (q : Int) ∧ (q : Int) < j.v.Fn := by omega
            rw [hA] at c2_5
            rw [hA2] at c3_5
            clear hx hy hnx hny hA hA2
            go_wp2
            refine wp_region_below (by kernel_rfl) (fun w2 hHeld => ?_)
            refine TKB 0 80 ?_ rfl ?_ ?_
            rotate_left
            · (intro w hSw; (try dsimp only at hSw); have := cell_below hSw c2_5; have := cell_below hSw c3_5; go_simp; try with_reducible rfl)
            try simp only [Act.put, zA, zB, zC]
            refine TKB 1 81 ?_ rfl ?_ ?_
            rotate_left
            · (intro w hSw; (try dsimp only at hSw); have := cell_below hSw c2_5; have := cell_below hSw c3_5; go_simp; try with_reducible rfl)
            try simp only [Act.put, zA, zB, zC]
            refine TKB 2 82 ?_ rfl ?_ ?_
            rotate_left
            · (intro w hSw; (try dsimp only at hSw); have := cell_below hSw c2_5; have := cell_below hSw c3_5; go_simp; try with_reducible rfl)
            try simp only [Act.put, zA, zB, zC]
            refine TKB 3 83 ?_ rfl ?_ ?_
            rotate_left
            · (intro w hSw; (try dsimp only at hSw); have := cell_below hSw c2_5; have := cell_below hSw c3_5; go_simp; try with_reducible rfl)
            try simp only [Act.put, zA, zB, zC]
            refine TKB 4 84 ?_ rfl ?_ ?_
            rotate_left
            · (intro w hSw; (try dsimp only at hSw); have := cell_below hSw c2_5; have := cell_below hSw c3_5; go_simp; try with_reducible rfl)
            try simp only [Act.put, zA, zB, zC]
            refine wpAnyH_take (i := 5) (oi := ⟨some 85, _, _, _, _, _⟩) (v := _) rfl (by kernel_rfl) (by kernel_rfl) (by kernel_rfl) (fun _ _ _ h => h) (yields_arr (by kernel_rfl) _ _ rfl _ _ rfl _ _ RX Tryz.underlying25 rfl info_value) (by assumption) ?_
            try simp only [Act.put, zA, zB, zC]
            refine TKB 6 86 ?_ rfl ?_ ?_
            rotate_left
            · (intro w hSw; (try dsimp only at hSw); have := cell_below hSw c2_5; have := cell_below hSw c3_5; go_simp; try with_reducible rfl)
            try simp only [Act.put, zA, zB, zC]
            refine TKB 7 87 ?_ rfl ?_ ?_
            rotate_left
            · (intro w hSw; (try dsimp only at hSw); have := cell_below hSw c2_5; have := cell_below hSw c3_5; go_simp; try with_reducible rfl)
            try simp only [Act.put, zA, zB, zC]
            refine TKB 8 88 ?_ rfl ?_ ?_
            rotate_left
            · (intro w hSw; (try dsimp only at hSw); have := cell_below hSw c2_5; have := cell_below hSw c3_5; go_simp; try with_reducible rfl)
            try simp only [Act.put, zA, zB, zC]
            refine TKB 9 89 ?_ rfl ?_ ?_
            rotate_left
            · (intro w hSw; (try dsimp only at hSw); have := cell_below hSw c2_5; have := cell_below hSw c3_5; go_simp; try with_reducible rfl)
            try simp only [Act.put, zA, zB, zC]
            refine TKB 10 90 ?_ rfl ?_ ?_
            rotate_left
            · (intro w hSw; (try dsimp only at hSw); have := cell_below hSw c2_5; have := cell_below hSw c3_5; go_simp; try with_reducible rfl)
            try simp only [Act.put, zA, zB, zC]
            refine wpAnyH_take (i := 11) (oi := ⟨some 91, _, _, _, _, _⟩) (v := _) rfl (by kernel_rfl) (by kernel_rfl) (by kernel_rfl) (fun _ _ _ h => h) (yields_arr (by kernel_rfl) _ _ rfl _ _ rfl _ _ RY Tryz.underlying25 rfl info_value) (by assumption) ?_
            try simp only [Act.put, zA, zB, zC]
            refine wpAnyH_ready (rs := [12]) (by kernel_rfl) (by simp) ?_
            refine AllReadyH.cons (o := ⟨some 92, _, _, _, _, _⟩) rfl (fun K hK => ?_) AllReadyH.nil
            go_simp
            (go_at_call 17; (with_reducible refine (IH x y w2 (HSZ.out) (HX.below hHeld) (HY.below hHeld) HER.out).mono ?_); rintro e w3 ⟨rfl, hb3⟩)
            refine hK.out _ _ ?_ (fun hHeld2 => ?_)
            · (try dsimp only); exact zT hHeld hb3
            clear hK K hHeld hb3
            try simp only [Act.put, zA, zB, zC]
            refine TKB 13 8 ?_ rfl ?_ ?_
            rotate_left
            · (intro w hSw; (try dsimp only at hSw); have := cell_below hSw c2_5; have := cell_below hSw c3_5; go_simp; try with_reducible rfl)
            try simp only [Act.put, zA, zB, zC]
            refine wpAnyH_done (by kernel_rfl) ?_ _
            have hb := hHeld2
            replace HB := zT HB hb
            replace HJ := HJ.below hb
            replace HK := HK.below hb
            replace c2_4 := cell_below hb c2_4
            replace c2_5 := cell_below hb c2_5
            replace c3_4 := cell_below hb c3_4
            replace c3_5 := cell_below hb c3_5
            replace HBW := Lib.hid (HBW.out.trans (hb.mono HBW.out.size))
            replace n1 := cell_below hb n1
            replace n2 := cell_below hb n2
            clear hb hHeld2
            go_wp2
            go_quiet (fail)
            generalize hw2 : World.drewN _ nq = w2
            have hb4 := HBW.out.trans ((below_dq hw2).mono HBW.out.size)
            clear hw2
            go_wp2
            go_roundw
            case rel => exact ⟨q + 1, by omega, by go_num, Nat.zero_le _, hb4⟩
            case measure => simp [intOf]; omega
          · obtain rfl : q = j.v.Fn := by omega
            clear hq hlt
            go_wp2
            go_ret
            exact ⟨ret_bool2 rfl, HB⟩
theorem same_any {j k : JV} {w : World} (hj : IsJV w j) (hk : IsJV w k) (h : er j = er k) :
    Calls Tryz.prog 17 #[.agg j.cells, .agg k.cells] w fun e w' => e = .returned (.bool true) ∧ Below w.heap.size w w' := same_to _ j k w (Nat.lt_succ_self _) hj hk h
end
end Go.Proofs.YtnjhmnolngdfaaaGreatDoor
namespace Go.Proofs.YtnjhmnolngdfaaaGreatDoor
section
open Go.RowKit Go.PlainAid
set_option linter.unusedVariables false
set_option linter.unusedSimpArgs false
/-- What a value that has a text is. -/
theorem wrt_yes {t : JT} {l : List UInt8} (h : wrtS t = (0, l)) : sndT t 32 = true ∧ l = pr [] (nrmT t) ∧ l.length ≤ 65536 := by
  unfold wrtS at h
  split at h
  · exact absurd (congrArg Prod.fst h) (show ¬ ((2 : Int) = 0) by decide)
  · split at h
    · rename_i hs
      split at h
      · exact absurd (congrArg Prod.fst h) (show ¬ ((2 : Int) = 0) by decide)
      · rename_i hl
        have h2 := congrArg Prod.snd h
        simp only at h2
        subst h2
        exact ⟨hs, rfl, by omega⟩
    · exact absurd (congrArg Prod.fst h) (show ¬ ((8 : Int) = 0) by decide)
end
end Go.Proofs.YtnjhmnolngdfaaaGreatDoor
