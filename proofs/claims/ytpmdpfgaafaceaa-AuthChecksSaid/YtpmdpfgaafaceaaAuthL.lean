/- Layer 16: is a value an object of integers? In the reference. -/
import Derived.Test.YtpmdpfgaafaceaaAuthK2
import Derived.Deep.DrawnRows
namespace Go.Proofs.Ytpmdpfgaafaceaa
open Go.RowKit
set_option linter.unusedVariables false
set_option linter.unusedSimpArgs false

def nameAt (j : JV) (i : Nat) : List UInt8 := ((j.ns[i]?).getD ⟨#[]⟩).toList
def kindAt (j : JV) (i : Nat) : Int := ((j.vs[i]?).getD JV.zero).v.kind
def OKTo (j : JV) (k : Nat) : Prop := ∀ i, i < k → kindAt j i = 2 ∧ ∀ m, m < i → nameAt j m ≠ nameAt j i
instance (j : JV) (k : Nat) : Decidable (OKTo j k) := by unfold OKTo; infer_instance
def intsB (j : JV) : Bool := (j.v.kind == 5) && decide (OKTo j j.v.Fn)
theorem oks_step {j : JV} {k : Nat} (h : OKTo j k) (h1 : kindAt j k = 2) (h2 : ∀ m, m < k → nameAt j m ≠ nameAt j k) : OKTo j (k + 1) := fun i hi => by
  rcases Nat.lt_or_ge i k with hlt | hge
  · exact h i hlt
  · obtain rfl : i = k := by omega
    exact ⟨h1, h2⟩
theorem ne_step {j : JV} {k m : Nat} (h : ∀ q, q < m → nameAt j q ≠ nameAt j k) (h2 : nameAt j m ≠ nameAt j k) : ∀ q, q < m + 1 → nameAt j q ≠ nameAt j k := fun q hq => by
  rcases Nat.lt_or_ge q m with hlt | hge
  · exact h q hlt
  · obtain rfl : q = m := by omega
    exact h2
theorem ints_yes {j : JV} (h0 : (j.v.kind == 5) = true) (h : OKTo j j.v.Fn) : intsB j = true := by unfold intsB; rw [h0, decide_eq_true h]; rfl
theorem ints_kind {j : JV} {k : Nat} (hk : k < j.v.Fn) (h : ¬ kindAt j k = 2) : intsB j = false := by
  unfold intsB
  rw [decide_eq_false (fun hh => h (hh k hk).1), Bool.and_false]
theorem ints_twice {j : JV} {k m : Nat} (hk : k < j.v.Fn) (hm : m < k) (h : nameAt j m = nameAt j k) : intsB j = false := by
  unfold intsB
  rw [decide_eq_false (fun hh => (hh k hk).2 m hm h), Bool.and_false]
theorem ints_none {j : JV} (h0 : (j.v.kind == 5) = false) : intsB j = false := by unfold intsB; rw [h0]; rfl
theorem below_dr {w w' : World} {n : Nat} (h : w.drewN n = w') : Below w.heap.size w w' := h ▸ ⟨rfl, rfl, rfl, Nat.le_refl _, fun _ _ => rfl⟩
/-- The cells of a field, what it is called and of which kind. -/
theorem jv_field2 {w : World} {j : JV} (h : IsJV w j) {k : Nat} (hk : k < j.v.Fn) : ∃ bl off n x, j.v.FA = some ⟨bl, off, none⟩ ∧ FieldCells w bl (off + k * 7) n x ∧ nameAt j k = n.toList ∧ kindAt j k = x.kind ∧ n.size ≤ reach ∧ j.ns[k]? = some n := by
  obtain ⟨v, l, ns, vs⟩ := j
  unfold IsJV at h
  obtain ⟨⟨_, _, _, _, hFn, hns, _, _, hnames⟩, _, hrow⟩ := h
  have hkv : k < vs.length := by rw [← hFn]; exact hk
  have hkn : k < ns.length := by rw [hns]; exact hkv
  have en : ns[k]? = some (ns[k]) := List.getElem?_eq_getElem hkn
  have ex : vs[k]? = some (vs[k]) := List.getElem?_eq_getElem hkv
  obtain ⟨bl, off, hFA, hfc⟩ := field_cells hnames hrow en ex
  refine ⟨bl, off, _, _, hFA, hfc, ?_, ?_, (hnames.get en).2, en⟩
  · show ((ns[k]?).getD _).toList = _
    rw [en]; rfl
  · show ((vs[k]?).getD _).v.kind = _
    rw [ex]; rfl

set_option maxRecDepth 100000 in
set_option maxHeartbeats 8000000 in
theorem rints_any (j : JV) (w : World) (HJ : IsJV w j) :
    Calls Try.prog 57 #[.agg j.cells] w fun e w' => e = .returned (.bool (intsB j)) ∧ Below w.heap.size w w' := by
  have hF : j.v.Fn ≤ 9223372036854775807 := by have := (jv_names HJ).2.2; unfold reach at this; omega
  have HB := Below.refl w.heap.size w
  have hk2 : (j.v.kind != 5) = !(j.v.kind == 5) := rfl
  cases hk : (j.v.kind == 5)
  · have HZ := Lib.hid (ints_none hk)
    rw [hk] at hk2
    clear hk
    go_enter Try.func57, Try.ntmps57
    go_wp2_with (refine wpl_box_at rfl 30 (.tmp 0) rfl _ rfl ?_; intro w1 hw; have hb := hid_grow hw; have B1 := (hid_alloc hw).1; replace HB := HB.trans (hb.mono HB.size); clear hb hw; have c1_0 : w1.cell? ⟨_, 0, none⟩ = some (.int .i64 j.v.kind) := B1.cell 0)
    go_ret
    exact ⟨ret_bool HZ.out.symm, HB⟩
  · have HK := Lib.hid hk
    rw [hk] at hk2
    clear hk
    go_enter Try.func57, Try.ntmps57
    go_wp2_with (refine wpl_box_at rfl 30 (.tmp 0) rfl _ rfl ?_; intro w1 hw; have hb := hid_grow hw; have B1 := (hid_alloc hw).1; replace HB := HB.trans (hb.mono HB.size); replace HJ := HJ.below hb; clear hb hw; have c1_0 : w1.cell? ⟨_, 0, none⟩ = some (.int .i64 j.v.kind) := B1.cell 0; have c1_5 : w1.cell? ⟨_, 5, none⟩ = some (.slice j.v.FA j.v.Fn j.v.Fc) := B1.cell 5)
    go_loopw [3] (fun i wr => ∃ k : Nat, k ≤ j.v.Fn ∧ i = .int .i64 k ∧ Hid (OKTo j k) ∧ Below w1.heap.size w1 wr) (fun i _ => j.v.Fn - (intOf i).toNat)
    case atStart => exact ⟨0, Nat.zero_le _, rfl, fun i hi => absurd hi (by omega), Below.refl _ _⟩
    case round =>
      obtain ⟨k, hk, rfl, HOK, hb⟩ := hrel
      have HBW := Lib.hid hb
      have d5 := cell_below hb c1_5
      by_cases hlt : k < j.v.Fn
      · obtain ⟨bl, off, n, x, hFA, hfc, hna, hki, _, _⟩ := jv_field2 (HJ.below hb) hlt
        have f1 := hfc.c1
        rw [hFA] at d5
        have hx2 : (x.kind != 2) = !(x.kind == 2) := rfl
        cases hxk : (x.kind == 2)
        · rw [hxk] at hx2
          have HZ := Lib.hid (ints_kind hlt (by rw [hki]; simpa using hxk))
          clear hna hki hfc hFA hxk hb
          go_wp2
          go_ret
          exact ⟨ret_bool HZ.out.symm, HB.trans (HBW.out.mono HB.size)⟩
        · rw [hxk] at hx2
          have HX2 := Lib.hid (show kindAt j k = 2 by rw [hki]; simpa using hxk)
          have HNA := Lib.hid hna
          have HFA := Lib.hid hFA
          clear hna hki hfc hFA hxk hb
          obtain ⟨wo, rfl⟩ : ∃ wo : World, wo = wr := ⟨_, rfl⟩
          go_wp2
          go_loopw [4] (fun i wr => ∃ m : Nat, m ≤ k ∧ i = .int .i64 m ∧ Hid (∀ q, q < m → nameAt j q ≠ nameAt j k) ∧ Below w1.heap.size w1 wr) (fun i _ => k - (intOf i).toNat)
          case atStart => exact ⟨0, Nat.zero_le _, rfl, fun i hi => absurd hi (by omega), HBW.out⟩
          case round =>
            obtain ⟨m, hm, rfl, HNE, hb2⟩ := hrel
            have HBQ := Lib.hid hb2
            have e5 := cell_below hb2 c1_5
            rw [HFA.out] at e5
            clear d5 f1
            by_cases hlt2 : m < k
            · obtain ⟨bl', off', n1, x1, hFA1, hfc1, hna1, hki1, _, _⟩ := jv_field2 (HJ.below hb2) hlt
              obtain ⟨bl'', off'', n2, x2, hFA2, hfc2, hna2, hki2, _, _⟩ := jv_field2 (HJ.below hb2) (Nat.lt_trans hlt2 hlt)
              rw [HFA.out] at hFA1 hFA2
              cases hFA1
              cases hFA2
              have g1 := hfc1.c0
              have g2 := hfc2.c0
              have hbd1 : 0 ≤ (k : Int) ∧ (k : Int) < j.v.Fn := by omega
              have hbd2 : 0 ≤ (m : Int) ∧ (m : Int) < j.v.Fn := by omega
              cases he : (n2.toList == n1.toList)
              · have HNE2 := Lib.hid (show nameAt j m ≠ nameAt j k by rw [hna1, hna2]; simpa using he)
                clear hna1 hna2 hki1 hki2 hfc1 hfc2 hb2
                go_wp2
                go_quiet (fail)
                generalize hw2 : World.drewN _ nq = w2
                have hb4 := HBQ.out.trans ((below_dr hw2).mono HBQ.out.size)
                clear hw2
                go_wp2
                go_roundw
                case rel => exact ⟨m + 1, by omega, by go_num, ne_step HNE.out HNE2.out, hb4⟩
                case measure => simp [intOf]; omega
              · have HZ := Lib.hid (ints_twice hlt hlt2 (show nameAt j m = nameAt j k by rw [hna1, hna2]; simpa using he))
                clear hna1 hna2 hki1 hki2 hfc1 hfc2 hb2
                go_wp2
                go_quiet (fail)
                generalize hw2 : World.drewN _ nq = w2
                have hb4 := HBQ.out.trans ((below_dr hw2).mono HBQ.out.size)
                clear hw2
                go_wp2
                go_ret
                exact ⟨ret_bool HZ.out.symm, HB.trans (hb4.mono HB.size)⟩
            · obtain rfl : m = k := by omega
              clear hb2
              go_wp2
              go_roundw
              case rel => exact ⟨m + 1, by omega, by go_num, oks_step HOK.out HX2.out HNE.out, HBQ.out⟩
              case measure => simp [intOf]; omega
      · obtain rfl : k = j.v.Fn := by omega
        have HZ := Lib.hid (ints_yes HK.out HOK.out)
        clear hb
        go_wp2
        go_ret
        exact ⟨ret_bool HZ.out.symm, HB.trans (HBW.out.mono HB.size)⟩
end Go.Proofs.Ytpmdpfgaafaceaa
