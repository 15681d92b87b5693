/- Layer 16: the names of two objects. -/
import Derived.Test.YtpmdpfgaafaceaaAuthJ
import Derived.Test.YtpmdpfgaafaceaaAppL
namespace Go.Proofs.Ytpmdpfgaafaceaa
open Go.RowKit
set_option linter.unusedVariables false
set_option linter.unusedSimpArgs false

theorem info_string : (Try.prog.info? 9).map (fun i => (i.zero, i.size, i.bytes)) = some (some (.string ⟨#[]⟩), 1, 16) := by kernel_rfl

/-- The names of a value's fields, as its cells say them. -/
theorem jv_names {w : World} {j : JV} (h : IsJV w j) : NamesAt w j.v.FA 7 0 j.ns ∧ j.ns.length = j.v.Fn ∧ j.v.Fn * 96 ≤ reach := by
  obtain ⟨v, l, ns, vs⟩ := j
  unfold IsJV at h
  exact ⟨h.1.2.2.2.2.2.2.2.2, h.1.2.2.2.2.2.1.trans h.1.2.2.2.2.1.symm, h.1.2.2.2.2.2.2.2.1⟩
theorem names_at {w : World} {A : Option Addr} {step : Nat} {L : List ByteArray} (h : NamesAt w A step 0 L) {k : Nat} (hk : k < L.length) : ∃ b off n, A = some ⟨b, off, none⟩ ∧ L[k]? = some n ∧ w.cell? ⟨b, off + k * step, none⟩ = some (.string n) ∧ n.size ≤ reach := by
  have e : L[k]? = some L[k] := List.getElem?_eq_getElem hk
  obtain ⟨⟨b, off, hA, hc⟩, hs⟩ := h.get e
  rw [Nat.zero_add] at hc
  exact ⟨b, off, L[k], hA, e, hc, hs⟩
theorem own_names {w : World} {base : Nat} {v : Value} {L : List ByteArray} {n : Nat} (h : w.ownsRow base 9 1 v n (L.map Value.string)) (hn : n = L.length) (hs : ∀ x ∈ L, x.size ≤ reach) : ∃ A c, v = .slice A L.length c ∧ NamesAt w A 1 0 L := by
  subst hn
  rcases h.2 with ⟨rfl, h0⟩ | ⟨g, cap, cur, rfl, _, hg, _, _, _, htake⟩
  · have : L = [] := List.eq_nil_of_length_eq_zero h0
    subst this
    exact ⟨none, 0, rfl, by unfold NamesAt; exact True.intro⟩
  · refine ⟨some ⟨g, 0, none⟩, cap, rfl, names_of_box (arr := cur) hg L 0 (fun j n hj => ?_) hs⟩
    have e1 : (L.map Value.string)[j]? = some (.string n) := by rw [List.getElem?_map, hj]; rfl
    rw [← htake, List.getElem?_take] at e1
    rw [Nat.zero_add]
    split at e1
    · simpa using e1
    · cases e1
theorem names_small {w : World} {A : Option Addr} {step : Nat} : ∀ {L : List ByteArray} {k : Nat}, NamesAt w A step k L → ∀ n ∈ L, n.size ≤ reach
  | [], _, _, n, hn => by cases hn
  | m :: r, k, h, n, hn => by
    unfold NamesAt at h
    rcases List.mem_cons.1 hn with rfl | hn
    · exact h.2.1
    · exact names_small h.2.2 n hn

theorem str_one (n : ByteArray) : (#[Value.string n] : Array Value).all (·.oneCell') = true := by simp [Value.oneCell']

set_option maxRecDepth 100000 in
set_option maxHeartbeats 4000000 in
theorem rnamed_any (a b : JV) (w : World) (HA : IsJV w a) (HC : IsJV w b) :
    Calls Try.prog 59 #[.agg a.cells, .agg b.cells] w fun e w' => GivesNames e (a.ns ++ b.ns) w w' := by
  obtain ⟨i0, hi, hz0, hz1, hz2⟩ := info_parts info_string
  obtain ⟨q1, q2, q3⟩ := jv_names HA
  obtain ⟨p1, p2, p3⟩ := jv_names HC
  have HNA := Lib.hid q2
  have HNB := Lib.hid p2
  have HSA := Lib.hid (names_small q1)
  have HSB := Lib.hid (names_small p1)
  unfold reach at q3 p3
  clear q1 p1 q2 p2
  have HB := Below.refl w.heap.size w
  go_enter Try.func59, Try.ntmps59
  go_wp2_with (first
    | (refine wpl_box_at rfl 30 (.tmp 0) rfl _ rfl ?_; intro w1 hw; have hb := hid_grow hw; have B2 := (hid_alloc hw).1; replace HB := HB.trans (hb.mono HB.size); replace HA := HA.below hb; replace HC := HC.below hb; clear hb hw; have c2_5 : w1.cell? ⟨_, 5, none⟩ = some (.slice a.v.FA a.v.Fn a.v.Fc) := B2.cell 5)
    | (refine wpl_box_at rfl 30 (.tmp 1) rfl _ rfl ?_; intro w2 hw; have hb := hid_grow hw; have B3 := (hid_alloc hw).1; replace HB := HB.trans (hb.mono HB.size); replace HA := HA.below hb; replace HC := HC.below hb; replace c2_5 := cell_below hb c2_5; clear hb hw; have c3_5 : w2.cell? ⟨_, 5, none⟩ = some (.slice b.v.FA b.v.Fn b.v.Fc) := B3.cell 5))
  clear B2 B3
  go_loopw [5, 6] (fun v i wr => ∃ k : Nat, k ≤ a.v.Fn ∧ i = .int .i64 k ∧ wr.ownsRow w2.heap.size 9 1 v k ((a.ns.take k).map Value.string) ∧ Below w2.heap.size w2 wr) (fun _ i _ => a.v.Fn - (intOf i).toNat)
  case atStart => exact ⟨0, Nat.zero_le _, rfl, ⟨by simp, .inl ⟨rfl, rfl⟩⟩, Below.refl _ _⟩
  case round =>
    obtain ⟨k, hk, rfl, hown, hb⟩ := hrel
    have HOWN := Lib.hid hown
    have HBW := Lib.hid hb
    have d2 := cell_below hb c2_5
    have hsz := hb.size
    clear hown
    by_cases hlt : k < a.v.Fn
    · obtain ⟨bl, off, n, hFA, hx, hc, hs⟩ := names_at (jv_names (HA.below hb)).1 (by rw [HNA.out]; exact hlt)
      rw [hFA] at d2
      have HX := Lib.hid hx
      clear hx hFA hb
      go_wp2_with (at_builtin; refine wpl_append_fresh rfl (.tmp 15) (.tmp 22) _ rfl w2.heap.size 9 i0 (.string ⟨#[]⟩) 1 16 Try.underlying26 hi hz0 hz1 hz2 rfl (by decide) u5 k _ rfl (HOWN.out.alloc _) wr.heap.size 1 #[.string n] _ (IBox.new _ _ _) rfl rfl (str_one n) (by unfold maxLen; omega) (by omega) (by simp; omega) ?_; intro v' w3 hown3 hb3)
      have hb4 : Below w2.heap.size w2 w3 := (HBW.out.alloc hsz _).trans hb3
      go_roundw
      case rel => exact ⟨k + 1, by omega, by go_num, by rw [take_next HX.out, List.map_append]; exact hown3, hb4⟩
      case measure => simp [intOf]; omega
    · obtain rfl : k = a.v.Fn := by omega
      rw [show (a.ns.take a.v.Fn) = a.ns from List.take_of_length_le (Nat.le_of_eq HNA.out)] at HOWN
      obtain ⟨wo, rfl⟩ : ∃ wo : World, wo = wr := ⟨_, rfl⟩
      clear hb HA hk
      go_wp2
      go_loopw [5, 7] (fun v i wr => ∃ k : Nat, k ≤ b.v.Fn ∧ i = .int .i64 k ∧ wr.ownsRow w2.heap.size 9 1 v (a.v.Fn + k) ((a.ns ++ b.ns.take k).map Value.string) ∧ Below w2.heap.size w2 wr) (fun _ i _ => b.v.Fn - (intOf i).toNat)
      case atStart => exact ⟨0, Nat.zero_le _, rfl, by simpa using HOWN.out, HBW.out⟩
      case round =>
        obtain ⟨k, hk, rfl, hown, hb⟩ := hrel
        have HOWN2 := Lib.hid hown
        have HBQ := Lib.hid hb
        have d4 := cell_below hb c3_5
        have hsq := hb.size
        clear hown
        by_cases hlt : k < b.v.Fn
        · obtain ⟨bl, off, n, hFA, hx, hc, hs⟩ := names_at (jv_names (HC.below hb)).1 (by rw [HNB.out]; exact hlt)
          rw [hFA] at d4
          have HX := Lib.hid hx
          clear hx hFA hb
          go_wp2_with (at_builtin; refine wpl_append_fresh rfl (.tmp 31) (.tmp 38) _ rfl w2.heap.size 9 i0 (.string ⟨#[]⟩) 1 16 Try.underlying26 hi hz0 hz1 hz2 rfl (by decide) u5 (a.v.Fn + k) _ rfl (HOWN2.out.alloc _) wr.heap.size 1 #[.string n] _ (IBox.new _ _ _) rfl rfl (str_one n) (by unfold maxLen; omega) (by omega) (by simp; omega) ?_; intro v' w3 hown3 hb3)
          have hb4 : Below w2.heap.size w2 w3 := (HBQ.out.alloc hsq _).trans hb3
          go_roundw
          case rel => exact ⟨k + 1, by omega, by go_num, by rw [take_next HX.out, ← List.append_assoc, List.map_append]; exact hown3, hb4⟩
          case measure => simp [intOf]; omega
        · obtain rfl : k = b.v.Fn := by omega
          rw [show (b.ns.take b.v.Fn) = b.ns from List.take_of_length_le (Nat.le_of_eq HNB.out)] at HOWN2
          obtain ⟨A, c, hv, hn⟩ := own_names HOWN2.out (by rw [List.length_append, HNA.out, HNB.out]) (fun x hx => (List.mem_append.1 hx).elim (HSA.out x) (HSB.out x))
          subst hv
          have HN := Lib.hid hn
          clear hn
          go_wp2
          go_ret
          exact ⟨A, c, rfl, HN.out, HB.trans (HBQ.out.mono HB.size)⟩
end Go.Proofs.Ytpmdpfgaafaceaa
