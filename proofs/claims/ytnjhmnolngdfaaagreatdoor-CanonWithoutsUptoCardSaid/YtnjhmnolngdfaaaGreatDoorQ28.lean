/- Layer 3: the one form of a value, by the document (coveyref03.Normed): whole. The document's layer 2: how many values a value holds, exactly (coveyref02.Count). -/
import Derived.Test.YtnjhmnolngdfaaaGreatDoorQ25
import Derived.Test.YtnjhmnolngdfaaaGreatDoorQ26
import Derived.Test.YtnjhmnolngdfaaaGreatDoorQ27
import Derived.Test.YtnjhmnolngdfaaaGreatDoorQ16
import Derived.Test.YtnjhmnolngdfaaaGreatDoorQZip
namespace Go.Proofs.YtnjhmnolngdfaaaGreatDoor
open Go.RowKit Go.PlainAid
theorem normed_to (sz : Nat) : ∀ (j : JV) (w : World), SizeOf.sizeOf j < sz → IsJV w j → SzT (er j) ≤ 1048576 → SndE (er j) → Calls Tryz.prog 29 #[.agg j.cells] w (NdV j w) := by
  induction sz with
  | zero => intro j w h; omega
  | succ sz ih =>
    intro j w hsz HJ hs hse
    have IH : Hid (∀ (x : JV) (w : World), SizeOf.sizeOf x < SizeOf.sizeOf j → IsJV w x → SzT (er x) ≤ 1048576 → SndE (er x) → Calls Tryz.prog 29 #[.agg x.cells] w (NdV x w)) := Lib.hid fun x w h => ih x w (by omega)
    by_cases h4 : j.v.kind = 4
    · exact nd_list HJ hs hse IH h4
    · by_cases h5 : j.v.kind = 5
      · exact nd_obj HJ hs hse IH h5
      · exact nd_leaves HJ hs h4 h5
theorem normed_any {j : JV} {w : World} (HJ : IsJV w j) (hs : SzT (er j) ≤ 1048576) (hse : SndE (er j)) : Calls Tryz.prog 29 #[.agg j.cells] w (NdV j w) := normed_to _ j w (Nat.lt_succ_self _) HJ hs hse
end Go.Proofs.YtnjhmnolngdfaaaGreatDoor
namespace Go.Proofs.YtnjhmnolngdfaaaGreatDoor
open Go.RowKit Go.PlainAid
set_option linter.unusedVariables false
set_option linter.unusedSimpArgs false
def CntV (j : JV) (n : Int) (w : World) (e : Ending) (w' : World) : Prop := e = .returned (.int .i64 (cntT (er j) n)) ∧ Below w.heap.size w w'
theorem cnt_end {l : List JV} {q : Nat} {r : Int} (h : l.length ≤ q) : cntL ((erL l).drop q) r = r := by
  rw [List.drop_eq_nil_of_le (by rw [erL_len]; exact h)]
  unfold cntL
  rfl
set_option maxRecDepth 100000 in
set_option maxHeartbeats 8000000 in
theorem rc_to (sz : Nat) : ∀ (j : JV) (n : Int) (w : World), SizeOf.sizeOf j < sz → IsJV w j → 0 ≤ n → n ≤ 65536 →
    Calls Tryz.prog 46 #[.agg j.cells, .int .i64 n] w (CntV j n w) := by
  induction sz with
  | zero => intro j n w h; omega
  | succ sz ih =>
    intro j n w hsz HJ hn0 hn1
    obtain ⟨l1, l2, l3, l4, l5⟩ := jv_lens HJ
    have LL := Lib.hid l1
    have LV := Lib.hid l2
    have SZ := Lib.hid hsz
    have IH := Lib.hid ih
    have HC := Lib.hid (cntT_eq j n)
    clear ih l1 l2 l3 hsz
    have HB := Below.refl w.heap.size w
    by_cases hk4 : j.v.kind = 4
    · have HKD := Lib.hid hk4
      have HK : Hid (cntT (er j) n = cntL (erL j.l) (n + 1)) := Lib.hid (by rw [HC.out]; simp [hk4])
      clear hk4
      go_enter Tryz.func46, Tryz.ntmps46
      go_wp2_with (first
        | (refine wpl_box_at rfl 25 (.tmp 0) rfl _ rfl ?_; intro w1 hw; have hb := hid_grow hw; have B2 := (hid_alloc hw).1; replace HB := zT HB hb; replace HJ := HJ.below hb; clear hb hw; have c2_0 : w1.cell? ⟨_, 0, none⟩ = some (.int .i64 4) := (B2.cell 0).trans (by rw [← HKD.out]; rfl); have c2_4 : w1.cell? ⟨_, 4, none⟩ = some (.slice j.v.LA j.v.Ln j.v.Lc) := (B2.cell 4).trans (by rfl)))
      go_loopw [1, 5] (fun m i wr => ∃ (q : Nat) (r : Int), q ≤ j.v.Ln ∧ i = .int .i64 q ∧ m = .int .i64 r ∧ 0 ≤ r ∧ r ≤ 65537 ∧ Hid (cntL (erL j.l) (n + 1) = cntL ((erL j.l).drop q) r) ∧ Below w1.heap.size w1 wr) (fun m i _ => j.v.Ln - (intOf i).toNat)
      case atStart => exact ⟨0, n + 1, Nat.zero_le _, rfl, rfl, by omega, by omega, Lib.hid rfl, Below.refl _ _⟩
      case round =>
        obtain ⟨q, r, hq, rfl, rfl, hr0, hr1, HR, hb⟩ := hrel
        have HBW := Lib.hid hb
        replace HB := zT HB hb
        replace HJ := HJ.below hb
        replace c2_0 := cell_below hb c2_0
        replace c2_4 := cell_below hb c2_4
        clear hb
        by_cases hlt : q < j.v.Ln
        · by_cases hrn : r ≤ 65536
          · obtain ⟨bl, off, x, hA, hx, RX, HX⟩ := jv_elem HJ (show q < j.l.length by have := LL.out; omega)
            have HSZ := Lib.hid (show SizeOf.sizeOf x < sz by have := size_l hx; have := SZ.out; omega)
            have HST := Lib.hid (cntL_step hx hrn)
            have hle := cntT_le (er x) r hrn
            have hbd : 0 ≤ (q : Int) ∧ (q : Int) < j.v.Ln := by omega
            have hlt2 : (q : Int) < j.v.Ln := by omega
            rw [hA] at c2_4
            clear hx hA
            go_wp2_with (first
              | ((with_reducible refine is_load ?_); refine wpl_load_arr rfl 25 (.tmp 26) rfl _ _ rfl x.cells _ RX Tryz.underlying25 rfl info_value ?_)
              | (go_at_call 46; (refine (IH.out x r _ HSZ.out HX hr0 hrn).mono ?_); rintro e w3 ⟨rfl, hb⟩; replace HB := zT HB hb; replace HJ := HJ.below hb; replace c2_0 := cell_below hb c2_0; replace c2_4 := cell_below hb c2_4; (try replace HX := HX.below hb); (try replace RX := range_below hb RX); replace HBW := Lib.hid (HBW.out.trans (hb.mono HBW.out.size)); clear hb))
            go_roundw
            case rel => exact ⟨q + 1, cntT (er x) r, by omega, by go_num, rfl, by omega, hle.2, Lib.hid (HR.out.trans HST.out), HBW.out⟩
            case measure => simp [intOf]; omega
          · have hlt2 : (q : Int) < j.v.Ln := by omega
            have hbd : 0 ≤ (q : Int) ∧ (q : Int) < j.v.Ln := by omega
            go_wp2
            go_ret
            exact ⟨ret_int (((cntL_more _ (by omega)).symm.trans HR.out.symm).trans HK.out.symm), HB⟩
        · have hlt2 : ¬ (q : Int) < j.v.Ln := by omega
          go_wp2
          go_ret
          exact ⟨ret_int (((cnt_end (l := j.l) (q := q) (r := r) (by have := LL.out; omega)).symm.trans HR.out.symm).trans HK.out.symm), HB⟩
    · by_cases hk5 : j.v.kind = 5
      · have HKD := Lib.hid hk5
        have HK : Hid (cntT (er j) n = cntL (erL j.vs) (n + 1)) := Lib.hid (by rw [HC.out]; simp [hk5])
        clear hk4 hk5
        go_enter Tryz.func46, Tryz.ntmps46
        go_wp2_with (first
          | (refine wpl_box_at rfl 25 (.tmp 0) rfl _ rfl ?_; intro w1 hw; have hb := hid_grow hw; have B2 := (hid_alloc hw).1; replace HB := zT HB hb; replace HJ := HJ.below hb; clear hb hw; have c2_0 : w1.cell? ⟨_, 0, none⟩ = some (.int .i64 5) := (B2.cell 0).trans (by rw [← HKD.out]; rfl); have c2_5 : w1.cell? ⟨_, 5, none⟩ = some (.slice j.v.FA j.v.Fn j.v.Fc) := (B2.cell 5).trans (by rfl)))
        go_loopw [1, 6] (fun m i wr => ∃ (q : Nat) (r : Int), q ≤ j.v.Fn ∧ i = .int .i64 q ∧ m = .int .i64 r ∧ 0 ≤ r ∧ r ≤ 65537 ∧ Hid (cntL (erL j.vs) (n + 1) = cntL ((erL j.vs).drop q) r) ∧ Below w1.heap.size w1 wr) (fun m i _ => j.v.Fn - (intOf i).toNat)
        case atStart => exact ⟨0, n + 1, Nat.zero_le _, rfl, rfl, by omega, by omega, Lib.hid rfl, Below.refl _ _⟩
        case round =>
          obtain ⟨q, r, hq, rfl, rfl, hr0, hr1, HR, hb⟩ := hrel
          have HBW := Lib.hid hb
          replace HB := zT HB hb
          replace HJ := HJ.below hb
          replace c2_5 := cell_below hb c2_5
          clear hb
          by_cases hlt : q < j.v.Fn
          · by_cases hrn : r ≤ 65536
            · obtain ⟨bl, off, nm, x, hA, hx, hnx, n1, RX, HX⟩ := jv_fld HJ (show q < j.vs.length by have := LV.out; omega)
              have HSZ := Lib.hid (show SizeOf.sizeOf x < sz by have := size_vs hx; have := SZ.out; omega)
              have HST := Lib.hid (cntL_step hx hrn)
              have hle := cntT_le (er x) r hrn
              have hbd : 0 ≤ (q : Int) ∧ (q : Int) < j.v.Fn := by omega
              have hlt2 : (q : Int) < j.v.Fn := by omega
              rw [hA] at c2_5
              clear hx hA hnx n1
              go_wp2_with (first
                | ((with_reducible refine is_load ?_); refine wpl_load_arr rfl 25 (.tmp 48) rfl _ _ rfl x.cells _ RX Tryz.underlying25 rfl info_value ?_)
                | (go_at_call 46; (refine (IH.out x r _ HSZ.out HX hr0 hrn).mono ?_); rintro e w3 ⟨rfl, hb⟩; replace HB := zT HB hb; replace HJ := HJ.below hb; replace c2_5 := cell_below hb c2_5; (try replace HX := HX.below hb); (try replace RX := range_below hb RX); replace HBW := Lib.hid (HBW.out.trans (hb.mono HBW.out.size)); clear hb))
              go_roundw
              case rel => exact ⟨q + 1, cntT (er x) r, by omega, by go_num, rfl, by omega, hle.2, Lib.hid (HR.out.trans HST.out), HBW.out⟩
              case measure => simp [intOf]; omega
            · have hlt2 : (q : Int) < j.v.Fn := by omega
              have hbd : 0 ≤ (q : Int) ∧ (q : Int) < j.v.Fn := by omega
              go_wp2
              go_ret
              exact ⟨ret_int (((cntL_more _ (by omega)).symm.trans HR.out.symm).trans HK.out.symm), HB⟩
          · have hlt2 : ¬ (q : Int) < j.v.Fn := by omega
            go_wp2
            go_ret
            exact ⟨ret_int (((cnt_end (l := j.vs) (q := q) (r := r) (by have := LV.out; omega)).symm.trans HR.out.symm).trans HK.out.symm), HB⟩
      · have HK : Hid (n + 1 = cntT (er j) n) := Lib.hid (by rw [HC.out, if_neg hk4, if_neg hk5])
        have q4 : (j.v.kind == 4) = false := by simpa using hk4
        have q5 : (j.v.kind == 5) = false := by simpa using hk5
        clear hk4 hk5
        go_enter Tryz.func46, Tryz.ntmps46
        go_wp2_with (first
          | (refine wpl_box_at rfl 25 (.tmp 0) rfl _ rfl ?_; intro w1 hw; have hb := hid_grow hw; have B2 := (hid_alloc hw).1; replace HB := zT HB hb; replace HJ := HJ.below hb; clear hb hw; have c2_0 : w1.cell? ⟨_, 0, none⟩ = some (.int .i64 j.v.kind) := (B2.cell 0).trans (by rfl)))
        go_ret
        exact ⟨ret_int HK.out, HB⟩
theorem rcount_any {j : JV} {w : World} (HJ : IsJV w j) : Calls Tryz.prog 46 #[.agg j.cells, .int .i64 0] w (CntV j 0 w) := rc_to _ j 0 w (Nat.lt_succ_self _) HJ (by omega) (by omega)
end Go.Proofs.YtnjhmnolngdfaaaGreatDoor
