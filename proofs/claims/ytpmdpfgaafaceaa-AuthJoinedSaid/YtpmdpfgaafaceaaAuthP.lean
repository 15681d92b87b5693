/- Layer 16: the rules 44 to 47 as plain functions; auth.changes. -/
import Derived.Test.YtpmdpfgaafaceaaAuthO
import Derived.Test.YtpmdpfgaafaceaaStillL
namespace Go.Proofs.Ytpmdpfgaafaceaa
open Go.RowKit
set_option linter.unusedVariables false
set_option linter.unusedSimpArgs false

def noneTo (p : ByteArray → Bool) (L : List ByteArray) (k : Nat) : Prop := ∀ q n, q < k → L[q]? = some n → p n = false
theorem none_zero (p : ByteArray → Bool) (L : List ByteArray) : noneTo p L 0 := fun q n h => absurd h (by omega)
theorem none_step {p : ByteArray → Bool} {L : List ByteArray} {k : Nat} {n : ByteArray} (h : noneTo p L k) (hn : L[k]? = some n) (hb : p n = false) : noneTo p L (k + 1) := by
  intro q m hq hm
  rcases Nat.lt_or_ge q k with hlt | hge
  · exact h q m hlt hm
  · obtain rfl : q = k := by omega
    rw [hn] at hm
    cases hm
    exact hb
theorem none_all {p : ByteArray → Bool} {L : List ByteArray} (h : noneTo p L L.length) : L.any p = false := by
  rw [List.any_eq_false]
  intro n hn
  obtain ⟨q, hq, e⟩ := List.mem_iff_getElem.1 hn
  rw [h q n hq (by rw [List.getElem?_eq_getElem hq, e])]
  decide
theorem any_hit {p : ByteArray → Bool} {L : List ByteArray} {k : Nat} {n : ByteArray} (hn : L[k]? = some n) (h : p n = true) : L.any p = true :=
  List.any_eq_true.2 ⟨n, List.mem_of_getElem? hn, h⟩
def names2 (a b : JV) : List ByteArray := a.ns ++ b.ns
theorem names2_len {w : World} {a b : JV} (ha : IsJV w a) (hb : IsJV w b) : (names2 a b).length ≤ 9223372036854775807 := by
  have h1 := jv_names ha
  have h2 := jv_names hb
  unfold names2
  rw [List.length_append]
  unfold reach at *
  omega
theorem both2_any (a b : JV) (w : World) (HA : IsJV w a) (HC : IsJV w b) : Calls Try.prog 73 #[.agg a.cells, .agg b.cells] w fun e w' => ∃ A c, e = .returned (.slice A (names2 a b).length c) ∧ NamesAt w' A 1 0 (names2 a b) ∧ Below w.heap.size w w' := both_any a b w HA HC
theorem named2_any (a b : JV) (w : World) (HA : IsJV w a) (HC : IsJV w b) : Calls Try.prog 59 #[.agg a.cells, .agg b.cells] w fun e w' => ∃ A c, e = .returned (.slice A (names2 a b).length c) ∧ NamesAt w' A 1 0 (names2 a b) ∧ Below w.heap.size w w' := rnamed_any a b w HA HC
def lostB (c d : JV) (own : ByteArray) (level : Int) (n : ByteArray) : Bool := numP c n && !(n.toList == own.toList) && (!numP d n || !(numT c n == numT d n)) && decide (level ≤ numT c n)
def roseB (c d : JV) (level : Int) (n : ByteArray) : Bool := numP d n && (!numP c n || !(numT c n == numT d n)) && decide (level < numT d n)
def c44 (old young : JV) (level : Int) : Bool := sevenL.any fun n => beyondB old young n level
def c45 (old young : JV) (level : Int) : Bool := (names2 (fieldD old ⟨#[101, 118, 101, 110, 116, 115]⟩) (fieldD young ⟨#[101, 118, 101, 110, 116, 115]⟩)).any fun n => beyondB (fieldD old ⟨#[101, 118, 101, 110, 116, 115]⟩) (fieldD young ⟨#[101, 118, 101, 110, 116, 115]⟩) n level
def c46 (old young : JV) (own : ByteArray) (level : Int) : Bool := (names2 (fieldD old ⟨#[117, 115, 101, 114, 115]⟩) (fieldD young ⟨#[117, 115, 101, 114, 115]⟩)).any fun n => lostB (fieldD old ⟨#[117, 115, 101, 114, 115]⟩) (fieldD young ⟨#[117, 115, 101, 114, 115]⟩) own level n
def c47 (old young : JV) (level : Int) : Bool := (names2 (fieldD old ⟨#[117, 115, 101, 114, 115]⟩) (fieldD young ⟨#[117, 115, 101, 114, 115]⟩)).any fun n => roseB (fieldD old ⟨#[117, 115, 101, 114, 115]⟩) (fieldD young ⟨#[117, 115, 101, 114, 115]⟩) level n
def changesS (own : ByteArray) (old young : JV) (level : Int) : Int :=
  if c44 old young level = true then 44 else if c45 old young level = true then 45 else if c46 old young own level = true then 46 else if c47 old young level = true then 47 else 0
theorem lost_is (c d : JV) (own : ByteArray) (level : Int) (n : ByteArray) : lostB c d own level n = (numP c n && !(n.toList == own.toList) && (!numP d n || !(numT c n == numT d n)) && decide (level ≤ numT c n)) := rfl
theorem rose_is (c d : JV) (level : Int) (n : ByteArray) : roseB c d level n = (numP d n && (!numP c n || !(numT c n == numT d n)) && decide (level < numT d n)) := rfl

set_option maxRecDepth 100000 in
set_option maxHeartbeats 8000000 in
theorem achanges_any (ex : Ev) (old : JV) (level : Int) (w : World) (HE0 : IsEv w ex) (HO0 : IsJV w old) :
    Calls Try.prog 49 #[.agg ex.cells, .agg old.cells, .int .i64 level] w fun e w' => e = .returned (.int .i64 (changesS ex.sender old ex.content level)) ∧ Below w.heap.size w w' := by
  have HB := Below.refl w.heap.size w
  have HE := HE0
  have HO := HO0
  go_enter Try.func49, Try.ntmps49
  go_wp2_with (first
      | (refine wpl_box_at rfl 32 (.tmp 0) rfl _ rfl ?_; intro w1 hw; have hb := hid_grow hw; have B3 := (hid_alloc hw).1; replace HB := HB.trans (hb.mono HB.size); (try replace HO := HO.below hb); (try replace HE := HE.below hb); (try replace B4 := IBox.below B4 hb (IBox.lt B4)); clear hb hw; have c3_3 : w1.cell? ⟨_, 3, none⟩ = some (.string ex.sender) := B3.cell 3)
      | (refine wpl_box_at rfl 30 (.tmp 1) rfl _ rfl ?_; intro w1 hw; have hb := hid_grow hw; have B4 := (hid_alloc hw).1; replace HB := HB.trans (hb.mono HB.size); (try replace HO := HO.below hb); (try replace HE := HE.below hb); (try replace B3 := IBox.below B3 hb (IBox.lt B3)); (try replace c3_3 := cell_below hb c3_3); clear hb hw)
      | (go_at_call 70; (with_reducible refine (seven7_any _).mono ?_); rintro e wn ⟨AN, cN, rfl, hN, hb⟩; replace HB := HB.trans (hb.mono HB.size); (try replace HO := HO.below hb); (try replace HE := HE.below hb); (try replace B3 := IBox.below B3 hb (IBox.lt B3)); (try replace B4 := IBox.below B4 hb (IBox.lt B4)); (try replace c3_3 := cell_below hb c3_3); clear hb))
  go_loopw [29] (fun i wr => ∃ k : Nat, k ≤ 7 ∧ i = .int .i64 k ∧ Hid (noneTo (fun n => beyondB old ex.content n level) (sevenL) k) ∧ Below wn.heap.size wn wr) (fun i _ => 7 - (intOf i).toNat)
  case atStart => exact ⟨0, Nat.zero_le _, rfl, none_zero _ _, Below.refl _ _⟩
  case round =>
    obtain ⟨k, hk, rfl, HS, hb⟩ := hrel
    have HBW := Lib.hid hb
    replace HB := HB.trans (hb.mono HB.size)
    (try replace HO := HO.below hb)
    (try replace HE := HE.below hb)
    (try replace B3 := IBox.below B3 hb (IBox.lt B3))
    (try replace B4 := IBox.below B4 hb (IBox.lt B4))
    (try replace c3_3 := cell_below hb c3_3)
    by_cases hlt : k < 7
    · obtain ⟨bl, off, n, hA, hn, hcn, hs⟩ := names_at (hN.below hb) (show k < List.length _ from hlt)
      rw [Nat.mul_one] at hcn
      have HNN := Lib.hid hn
      clear hn hb
      have hlt2 : (k : Int) < 7 := by omega
      subst hA
      cases hr : beyondB old ex.content n level
      · go_wp2_with (first
          | (refine wpl_load_box rfl 30 (.tmp 4) rfl _ rfl _ _ _ B4 Try.underlying30 rfl info_value ?_)
          | (refine wpl_load_arr rfl 30 (.tmp 34) rfl _ 10 rfl _ _ (ev_content B3) Try.underlying30 rfl info_value ?_)
          | (go_at_call 72; (with_reducible refine (beyond_any _ _ _ _ _ (HO) (HE.content)).mono ?_); rintro e w1 ⟨rfl, hb⟩; replace HB := HB.trans (hb.mono HB.size); (try replace HO := HO.below hb); (try replace HE := HE.below hb); (try replace B3 := IBox.below B3 hb (IBox.lt B3)); (try replace B4 := IBox.below B4 hb (IBox.lt B4)); (try replace c3_3 := cell_below hb c3_3); replace HBW := Lib.hid (HBW.out.trans (hb.mono HBW.out.size)); clear hb))
        go_roundw
        case rel => exact ⟨k + 1, by omega, by go_num, none_step HS.out HNN.out hr, HBW.out⟩
        case measure => simp [intOf]; omega
      · have HZ : c44 old ex.content level = true := any_hit HNN.out hr
        go_wp2_with (first
          | (refine wpl_load_box rfl 30 (.tmp 4) rfl _ rfl _ _ _ B4 Try.underlying30 rfl info_value ?_)
          | (refine wpl_load_arr rfl 30 (.tmp 34) rfl _ 10 rfl _ _ (ev_content B3) Try.underlying30 rfl info_value ?_)
          | (go_at_call 72; (with_reducible refine (beyond_any _ _ _ _ _ (HO) (HE.content)).mono ?_); rintro e w1 ⟨rfl, hb⟩; replace HB := HB.trans (hb.mono HB.size); (try replace HO := HO.below hb); (try replace HE := HE.below hb); (try replace B3 := IBox.below B3 hb (IBox.lt B3)); (try replace B4 := IBox.below B4 hb (IBox.lt B4)); (try replace c3_3 := cell_below hb c3_3); replace HBW := Lib.hid (HBW.out.trans (hb.mono HBW.out.size)); clear hb))
        go_ret
        exact ⟨ret_int (by unfold changesS; rw [if_pos HZ]), HB⟩
    · obtain rfl : k = 7 := by omega
      have h44 := Lib.hid (show c44 old ex.content level = false from none_all HS.out)
      clear hk hb HS HBW hlt hN
      go_wp2_with (first
          | (refine wpl_load_box rfl 30 (.tmp 4) rfl _ rfl _ _ _ B4 Try.underlying30 rfl info_value ?_)
          | (go_at_call 35; (with_reducible refine (afieldB_any _ ⟨#[101, 118, 101, 110, 116, 115]⟩ _ (HO)).mono ?_); rintro e w1 ⟨rfl, hb⟩; replace HB := HB.trans (hb.mono HB.size); (try replace HO := HO.below hb); (try replace HE := HE.below hb); (try replace B3 := IBox.below B3 hb (IBox.lt B3)); (try replace B4 := IBox.below B4 hb (IBox.lt B4)); (try replace B9 := IBox.below B9 hb (IBox.lt B9)); (try replace B11 := IBox.below B11 hb (IBox.lt B11)); (try replace c3_3 := cell_below hb c3_3); clear hb)
          | (refine wpl_newbox 9 rfl rfl 30 rfl rfl (.tmp 43) rfl _ zeroV _ rfl rfl info_value rfl (jv_one _) ?_; intro w1 hw; have G9 := HB.size; have L9_3 := IBox.lt B3; have L9_4 := IBox.lt B4; have hb := hid_grow hw; have B9 := (hid_alloc hw).1; replace HB := HB.trans (hb.mono HB.size); (try replace HO := HO.below hb); (try replace HE := HE.below hb); (try replace B3 := IBox.below B3 hb (IBox.lt B3)); (try replace B4 := IBox.below B4 hb (IBox.lt B4)); (try replace B11 := IBox.below B11 hb (IBox.lt B11)); (try replace c3_3 := cell_below hb c3_3); clear hb hw)
          | (refine wpl_load_arr rfl 30 (.tmp 46) rfl _ 10 rfl _ _ (ev_content B3) Try.underlying30 rfl info_value ?_)
          | (go_at_call 35; (with_reducible refine (afieldB_any _ ⟨#[101, 118, 101, 110, 116, 115]⟩ _ (HE.content)).mono ?_); rintro e w1 ⟨rfl, hb⟩; replace HB := HB.trans (hb.mono HB.size); (try replace HO := HO.below hb); (try replace HE := HE.below hb); (try replace B3 := IBox.below B3 hb (IBox.lt B3)); (try replace B4 := IBox.below B4 hb (IBox.lt B4)); (try replace B9 := IBox.below B9 hb (IBox.lt B9)); (try replace B11 := IBox.below B11 hb (IBox.lt B11)); (try replace c3_3 := cell_below hb c3_3); clear hb)
          | (refine wpl_newbox 11 rfl rfl 30 rfl rfl (.tmp 49) rfl _ zeroV _ rfl rfl info_value rfl (jv_one _) ?_; intro w1 hw; have G11 := HB.size; have L11_3 := IBox.lt B3; have L11_4 := IBox.lt B4; have L11_9 := IBox.lt B9; have hb := hid_grow hw; have B11 := (hid_alloc hw).1; replace HB := HB.trans (hb.mono HB.size); (try replace HO := HO.below hb); (try replace HE := HE.below hb); (try replace B3 := IBox.below B3 hb (IBox.lt B3)); (try replace B4 := IBox.below B4 hb (IBox.lt B4)); (try replace B9 := IBox.below B9 hb (IBox.lt B9)); (try replace c3_3 := cell_below hb c3_3); clear hb hw)
          | (refine wpl_load_box rfl 30 (.tmp 9) rfl _ rfl _ _ _ B9 Try.underlying30 rfl info_value ?_)
          | (refine wpl_load_box rfl 30 (.tmp 11) rfl _ rfl _ _ _ B11 Try.underlying30 rfl info_value ?_)
          | (go_at_call 73; (with_reducible refine (both2_any _ _ _ (field_is HO _) (field_is HE.content _)).mono ?_); rintro e wn ⟨AN, cN, rfl, hN, hb⟩; replace HB := HB.trans (hb.mono HB.size); (try replace HO := HO.below hb); (try replace HE := HE.below hb); (try replace B3 := IBox.below B3 hb (IBox.lt B3)); (try replace B4 := IBox.below B4 hb (IBox.lt B4)); (try replace B9 := IBox.below B9 hb (IBox.lt B9)); (try replace B11 := IBox.below B11 hb (IBox.lt B11)); (try replace c3_3 := cell_below hb c3_3); clear hb))
      have hlen := names2_len (field_is HO ⟨#[101, 118, 101, 110, 116, 115]⟩) (field_is HE.content ⟨#[101, 118, 101, 110, 116, 115]⟩)
      go_loopw [55] (fun i wr => ∃ k : Nat, k ≤ (names2 (fieldD old ⟨#[101, 118, 101, 110, 116, 115]⟩) (fieldD ex.content ⟨#[101, 118, 101, 110, 116, 115]⟩)).length ∧ i = .int .i64 k ∧ Hid (noneTo (fun n => beyondB (fieldD old ⟨#[101, 118, 101, 110, 116, 115]⟩) (fieldD ex.content ⟨#[101, 118, 101, 110, 116, 115]⟩) n level) (names2 (fieldD old ⟨#[101, 118, 101, 110, 116, 115]⟩) (fieldD ex.content ⟨#[101, 118, 101, 110, 116, 115]⟩)) k) ∧ Below wn.heap.size wn wr) (fun i _ => (names2 (fieldD old ⟨#[101, 118, 101, 110, 116, 115]⟩) (fieldD ex.content ⟨#[101, 118, 101, 110, 116, 115]⟩)).length - (intOf i).toNat)
      case atStart => exact ⟨0, Nat.zero_le _, rfl, none_zero _ _, Below.refl _ _⟩
      case round =>
        obtain ⟨k, hk, rfl, HS, hb⟩ := hrel
        have HBW := Lib.hid hb
        replace HB := HB.trans (hb.mono HB.size)
        (try replace HO := HO.below hb)
        (try replace HE := HE.below hb)
        (try replace B3 := IBox.below B3 hb (IBox.lt B3))
        (try replace B4 := IBox.below B4 hb (IBox.lt B4))
        (try replace B9 := IBox.below B9 hb (IBox.lt B9))
        (try replace B11 := IBox.below B11 hb (IBox.lt B11))
        (try replace c3_3 := cell_below hb c3_3)
        by_cases hlt : k < (names2 (fieldD old ⟨#[101, 118, 101, 110, 116, 115]⟩) (fieldD ex.content ⟨#[101, 118, 101, 110, 116, 115]⟩)).length
        · obtain ⟨bl, off, n, hA, hn, hcn, hs⟩ := names_at (hN.below hb) (show k < List.length _ from hlt)
          rw [Nat.mul_one] at hcn
          have HNN := Lib.hid hn
          clear hn hb
          have hlt2 : (k : Int) < (names2 (fieldD old ⟨#[101, 118, 101, 110, 116, 115]⟩) (fieldD ex.content ⟨#[101, 118, 101, 110, 116, 115]⟩)).length := by omega
          subst hA
          cases hr : beyondB (fieldD old ⟨#[101, 118, 101, 110, 116, 115]⟩) (fieldD ex.content ⟨#[101, 118, 101, 110, 116, 115]⟩) n level
          · go_wp2_with (first
              | (refine wpl_load_box rfl 30 (.tmp 9) rfl _ rfl _ _ _ B9 Try.underlying30 rfl info_value ?_)
              | (refine wpl_load_box rfl 30 (.tmp 11) rfl _ rfl _ _ _ B11 Try.underlying30 rfl info_value ?_)
              | (go_at_call 72; (with_reducible refine (beyond_any _ _ _ _ _ (field_is HO _) (field_is HE.content _)).mono ?_); rintro e w1 ⟨rfl, hb⟩; replace HB := HB.trans (hb.mono HB.size); (try replace HO := HO.below hb); (try replace HE := HE.below hb); (try replace B3 := IBox.below B3 hb (IBox.lt B3)); (try replace B4 := IBox.below B4 hb (IBox.lt B4)); (try replace B9 := IBox.below B9 hb (IBox.lt B9)); (try replace B11 := IBox.below B11 hb (IBox.lt B11)); (try replace c3_3 := cell_below hb c3_3); replace HBW := Lib.hid (HBW.out.trans (hb.mono HBW.out.size)); clear hb))
            go_roundw
            case rel => exact ⟨k + 1, by omega, by go_num, none_step HS.out HNN.out hr, HBW.out⟩
            case measure => simp [intOf]; omega
          · have HZ : c45 old ex.content level = true := any_hit HNN.out hr
            go_wp2_with (first
              | (refine wpl_load_box rfl 30 (.tmp 9) rfl _ rfl _ _ _ B9 Try.underlying30 rfl info_value ?_)
              | (refine wpl_load_box rfl 30 (.tmp 11) rfl _ rfl _ _ _ B11 Try.underlying30 rfl info_value ?_)
              | (go_at_call 72; (with_reducible refine (beyond_any _ _ _ _ _ (field_is HO _) (field_is HE.content _)).mono ?_); rintro e w1 ⟨rfl, hb⟩; replace HB := HB.trans (hb.mono HB.size); (try replace HO := HO.below hb); (try replace HE := HE.below hb); (try replace B3 := IBox.below B3 hb (IBox.lt B3)); (try replace B4 := IBox.below B4 hb (IBox.lt B4)); (try replace B9 := IBox.below B9 hb (IBox.lt B9)); (try replace B11 := IBox.below B11 hb (IBox.lt B11)); (try replace c3_3 := cell_below hb c3_3); replace HBW := Lib.hid (HBW.out.trans (hb.mono HBW.out.size)); clear hb))
            go_ret
            exact ⟨ret_int (by unfold changesS; rw [if_neg (by rw [h44.out]; decide), if_pos HZ]), HB⟩
        · obtain rfl : k = (names2 (fieldD old ⟨#[101, 118, 101, 110, 116, 115]⟩) (fieldD ex.content ⟨#[101, 118, 101, 110, 116, 115]⟩)).length := by omega
          have h45 := Lib.hid (show c45 old ex.content level = false from none_all HS.out)
          clear hk hb HS HBW hlt hN
          go_wp2_with (first
              | (refine wpl_load_box rfl 30 (.tmp 4) rfl _ rfl _ _ _ B4 Try.underlying30 rfl info_value ?_)
              | (go_at_call 35; (with_reducible refine (afieldB_any _ ⟨#[117, 115, 101, 114, 115]⟩ _ (HO)).mono ?_); rintro e w1 ⟨rfl, hb⟩; replace HB := HB.trans (hb.mono HB.size); (try replace HO := HO.below hb); (try replace HE := HE.below hb); (try replace B3 := IBox.below B3 hb (IBox.lt B3)); (try replace B4 := IBox.below B4 hb (IBox.lt B4)); (try replace B9 := IBox.below B9 hb (IBox.lt B9)); (try replace B11 := IBox.below B11 hb (IBox.lt B11)); (try replace c3_3 := cell_below hb c3_3); clear hb)
              | (refine wpl_store_at rfl 30 (.tmp 9) (.tmp 68) rfl _ _ rfl rfl _ _ B9 info_value rfl (jv_one _) ?_; intro w1 hw; have hq := hid_row_below hw G9 HB; replace HB := hq.1; clear hq; replace HE := HE0.below HB; replace HO := HO0.below HB; replace B3 := hid_row_other hw (Nat.ne_of_lt L9_3) B3; replace B4 := hid_row_other hw (Nat.ne_of_lt L9_4) B4; replace B11 := hid_row_other hw (Nat.ne_of_gt L11_9) B11; replace B9 := hid_row hw B9; replace c3_3 : w1.cell? ⟨_, 3, none⟩ = some (.string ex.sender) := B3.cell 3; clear hw)
              | (refine wpl_load_arr rfl 30 (.tmp 71) rfl _ 10 rfl _ _ (ev_content B3) Try.underlying30 rfl info_value ?_)
              | (go_at_call 35; (with_reducible refine (afieldB_any _ ⟨#[117, 115, 101, 114, 115]⟩ _ (HE.content)).mono ?_); rintro e w1 ⟨rfl, hb⟩; replace HB := HB.trans (hb.mono HB.size); (try replace HO := HO.below hb); (try replace HE := HE.below hb); (try replace B3 := IBox.below B3 hb (IBox.lt B3)); (try replace B4 := IBox.below B4 hb (IBox.lt B4)); (try replace B9 := IBox.below B9 hb (IBox.lt B9)); (try replace B11 := IBox.below B11 hb (IBox.lt B11)); (try replace c3_3 := cell_below hb c3_3); clear hb)
              | (refine wpl_store_at rfl 30 (.tmp 11) (.tmp 74) rfl _ _ rfl rfl _ _ B11 info_value rfl (jv_one _) ?_; intro w1 hw; have hq := hid_row_below hw G11 HB; replace HB := hq.1; clear hq; replace HE := HE0.below HB; replace HO := HO0.below HB; replace B3 := hid_row_other hw (Nat.ne_of_lt L11_3) B3; replace B4 := hid_row_other hw (Nat.ne_of_lt L11_4) B4; replace B9 := hid_row_other hw (Nat.ne_of_lt L11_9) B9; replace B11 := hid_row hw B11; replace c3_3 : w1.cell? ⟨_, 3, none⟩ = some (.string ex.sender) := B3.cell 3; clear hw)
              | (refine wpl_load_box rfl 30 (.tmp 9) rfl _ rfl _ _ _ B9 Try.underlying30 rfl info_value ?_)
              | (refine wpl_load_box rfl 30 (.tmp 11) rfl _ rfl _ _ _ B11 Try.underlying30 rfl info_value ?_)
              | (go_at_call 73; (with_reducible refine (both2_any _ _ _ (field_is HO _) (field_is HE.content _)).mono ?_); rintro e wn ⟨AN, cN, rfl, hN, hb⟩; replace HB := HB.trans (hb.mono HB.size); (try replace HO := HO.below hb); (try replace HE := HE.below hb); (try replace B3 := IBox.below B3 hb (IBox.lt B3)); (try replace B4 := IBox.below B4 hb (IBox.lt B4)); (try replace B9 := IBox.below B9 hb (IBox.lt B9)); (try replace B11 := IBox.below B11 hb (IBox.lt B11)); (try replace c3_3 := cell_below hb c3_3); clear hb))
          replace hlen := names2_len (field_is HO ⟨#[117, 115, 101, 114, 115]⟩) (field_is HE.content ⟨#[117, 115, 101, 114, 115]⟩)
          go_loopw [80] (fun i wr => ∃ k : Nat, k ≤ (names2 (fieldD old ⟨#[117, 115, 101, 114, 115]⟩) (fieldD ex.content ⟨#[117, 115, 101, 114, 115]⟩)).length ∧ i = .int .i64 k ∧ Hid (noneTo (fun n => lostB (fieldD old ⟨#[117, 115, 101, 114, 115]⟩) (fieldD ex.content ⟨#[117, 115, 101, 114, 115]⟩) ex.sender level n) (names2 (fieldD old ⟨#[117, 115, 101, 114, 115]⟩) (fieldD ex.content ⟨#[117, 115, 101, 114, 115]⟩)) k) ∧ Below wn.heap.size wn wr) (fun i _ => (names2 (fieldD old ⟨#[117, 115, 101, 114, 115]⟩) (fieldD ex.content ⟨#[117, 115, 101, 114, 115]⟩)).length - (intOf i).toNat)
          case atStart => exact ⟨0, Nat.zero_le _, rfl, none_zero _ _, Below.refl _ _⟩
          case round =>
            obtain ⟨k, hk, rfl, HS, hb⟩ := hrel
            have HBW := Lib.hid hb
            replace HB := HB.trans (hb.mono HB.size)
            (try replace HO := HO.below hb)
            (try replace HE := HE.below hb)
            (try replace B3 := IBox.below B3 hb (IBox.lt B3))
            (try replace B4 := IBox.below B4 hb (IBox.lt B4))
            (try replace B9 := IBox.below B9 hb (IBox.lt B9))
            (try replace B11 := IBox.below B11 hb (IBox.lt B11))
            (try replace c3_3 := cell_below hb c3_3)
            by_cases hlt : k < (names2 (fieldD old ⟨#[117, 115, 101, 114, 115]⟩) (fieldD ex.content ⟨#[117, 115, 101, 114, 115]⟩)).length
            · obtain ⟨bl, off, n, hA, hn, hcn, hs⟩ := names_at (hN.below hb) (show k < List.length _ from hlt)
              rw [Nat.mul_one] at hcn
              have HNN := Lib.hid hn
              clear hn hb
              have hlt2 : (k : Int) < (names2 (fieldD old ⟨#[117, 115, 101, 114, 115]⟩) (fieldD ex.content ⟨#[117, 115, 101, 114, 115]⟩)).length := by omega
              subst hA
              have hfin := lost_is (fieldD old ⟨#[117, 115, 101, 114, 115]⟩) (fieldD ex.content ⟨#[117, 115, 101, 114, 115]⟩) ex.sender level n
              have C1 : ∀ w, IsJV w (fieldD old ⟨#[117, 115, 101, 114, 115]⟩) → Calls Try.prog 36 #[.agg (fieldD old ⟨#[117, 115, 101, 114, 115]⟩).cells, .string n] w fun e w' => e = .returned (.tuple #[.int .i64 (numT (fieldD old ⟨#[117, 115, 101, 114, 115]⟩) n), .bool (numP (fieldD old ⟨#[117, 115, 101, 114, 115]⟩) n)]) ∧ Below w.heap.size w w' := fun w h => anum_any _ n w h
              have C2 : ∀ w, IsJV w (fieldD ex.content ⟨#[117, 115, 101, 114, 115]⟩) → Calls Try.prog 36 #[.agg (fieldD ex.content ⟨#[117, 115, 101, 114, 115]⟩).cells, .string n] w fun e w' => e = .returned (.tuple #[.int .i64 (numT (fieldD ex.content ⟨#[117, 115, 101, 114, 115]⟩) n), .bool (numP (fieldD ex.content ⟨#[117, 115, 101, 114, 115]⟩) n)]) ∧ Below w.heap.size w w' := fun w h => anum_any _ n w h
              generalize hr : lostB (fieldD old ⟨#[117, 115, 101, 114, 115]⟩) (fieldD ex.content ⟨#[117, 115, 101, 114, 115]⟩) ex.sender level n = r at hfin
              generalize numP (fieldD old ⟨#[117, 115, 101, 114, 115]⟩) n = p at hfin C1
              generalize numT (fieldD old ⟨#[117, 115, 101, 114, 115]⟩) n = x at hfin C1
              generalize numP (fieldD ex.content ⟨#[117, 115, 101, 114, 115]⟩) n = q at hfin C2
              generalize numT (fieldD ex.content ⟨#[117, 115, 101, 114, 115]⟩) n = y at hfin C2
              cases p
              · have HC1 := Lib.hid C1
                have HC2 := Lib.hid C2
                obtain rfl : r = false := by rw [hfin]; simp_all
                have e2 : (x != y) = !(x == y) := rfl
                try rw [hxy] at e2
                have HR := Lib.hid hr
                clear hfin C1 C2 hr
                go_wp2_with (first
                      | (refine wpl_load_box rfl 30 (.tmp 9) rfl _ rfl _ _ _ B9 Try.underlying30 rfl info_value ?_)
                      | (refine wpl_load_box rfl 30 (.tmp 11) rfl _ rfl _ _ _ B11 Try.underlying30 rfl info_value ?_)
                      | (go_at_call 36; (with_reducible refine (HC1.out _ (field_is HO _)).mono ?_); rintro e w1 ⟨rfl, hb⟩; replace HB := HB.trans (hb.mono HB.size); (try replace HO := HO.below hb); (try replace HE := HE.below hb); (try replace B3 := IBox.below B3 hb (IBox.lt B3)); (try replace B4 := IBox.below B4 hb (IBox.lt B4)); (try replace B9 := IBox.below B9 hb (IBox.lt B9)); (try replace B11 := IBox.below B11 hb (IBox.lt B11)); (try replace c3_3 := cell_below hb c3_3); replace HBW := Lib.hid (HBW.out.trans (hb.mono HBW.out.size)); clear hb)
                      | (go_at_call 36; (with_reducible refine (HC2.out _ (field_is HE.content _)).mono ?_); rintro e w1 ⟨rfl, hb⟩; replace HB := HB.trans (hb.mono HB.size); (try replace HO := HO.below hb); (try replace HE := HE.below hb); (try replace B3 := IBox.below B3 hb (IBox.lt B3)); (try replace B4 := IBox.below B4 hb (IBox.lt B4)); (try replace B9 := IBox.below B9 hb (IBox.lt B9)); (try replace B11 := IBox.below B11 hb (IBox.lt B11)); (try replace c3_3 := cell_below hb c3_3); replace HBW := Lib.hid (HBW.out.trans (hb.mono HBW.out.size)); clear hb))
                go_roundw
                case rel => exact ⟨k + 1, by omega, by go_num, none_step HS.out HNN.out HR.out, HBW.out⟩
                case measure => simp [intOf]; omega
              · cases ho : (n.toList == ex.sender.toList)
                · cases q
                  · by_cases h2 : level ≤ x
                    · have HC1 := Lib.hid C1
                      have HC2 := Lib.hid C2
                      obtain rfl : r = true := by rw [hfin]; simp_all
                      have e2 : (x != y) = !(x == y) := rfl
                      try rw [hxy] at e2
                      have HR := Lib.hid hr
                      clear hfin C1 C2 hr
                      go_wp2_with (first
                            | (refine wpl_load_box rfl 30 (.tmp 9) rfl _ rfl _ _ _ B9 Try.underlying30 rfl info_value ?_)
                            | (refine wpl_load_box rfl 30 (.tmp 11) rfl _ rfl _ _ _ B11 Try.underlying30 rfl info_value ?_)
                            | (go_at_call 36; (with_reducible refine (HC1.out _ (field_is HO _)).mono ?_); rintro e w1 ⟨rfl, hb⟩; replace HB := HB.trans (hb.mono HB.size); (try replace HO := HO.below hb); (try replace HE := HE.below hb); (try replace B3 := IBox.below B3 hb (IBox.lt B3)); (try replace B4 := IBox.below B4 hb (IBox.lt B4)); (try replace B9 := IBox.below B9 hb (IBox.lt B9)); (try replace B11 := IBox.below B11 hb (IBox.lt B11)); (try replace c3_3 := cell_below hb c3_3); replace HBW := Lib.hid (HBW.out.trans (hb.mono HBW.out.size)); clear hb)
                            | (go_at_call 36; (with_reducible refine (HC2.out _ (field_is HE.content _)).mono ?_); rintro e w1 ⟨rfl, hb⟩; replace HB := HB.trans (hb.mono HB.size); (try replace HO := HO.below hb); (try replace HE := HE.below hb); (try replace B3 := IBox.below B3 hb (IBox.lt B3)); (try replace B4 := IBox.below B4 hb (IBox.lt B4)); (try replace B9 := IBox.below B9 hb (IBox.lt B9)); (try replace B11 := IBox.below B11 hb (IBox.lt B11)); (try replace c3_3 := cell_below hb c3_3); replace HBW := Lib.hid (HBW.out.trans (hb.mono HBW.out.size)); clear hb))
                      have HZ : c46 old ex.content ex.sender level = true := any_hit HNN.out HR.out
                      go_ret
                      exact ⟨ret_int (by unfold changesS; rw [if_neg (by rw [h44.out]; decide), if_neg (by rw [h45.out]; decide), if_pos HZ]), HB⟩
                    · have HC1 := Lib.hid C1
                      have HC2 := Lib.hid C2
                      obtain rfl : r = false := by rw [hfin]; simp_all
                      have e2 : (x != y) = !(x == y) := rfl
                      try rw [hxy] at e2
                      have HR := Lib.hid hr
                      clear hfin C1 C2 hr
                      go_wp2_with (first
                            | (refine wpl_load_box rfl 30 (.tmp 9) rfl _ rfl _ _ _ B9 Try.underlying30 rfl info_value ?_)
                            | (refine wpl_load_box rfl 30 (.tmp 11) rfl _ rfl _ _ _ B11 Try.underlying30 rfl info_value ?_)
                            | (go_at_call 36; (with_reducible refine (HC1.out _ (field_is HO _)).mono ?_); rintro e w1 ⟨rfl, hb⟩; replace HB := HB.trans (hb.mono HB.size); (try replace HO := HO.below hb); (try replace HE := HE.below hb); (try replace B3 := IBox.below B3 hb (IBox.lt B3)); (try replace B4 := IBox.below B4 hb (IBox.lt B4)); (try replace B9 := IBox.below B9 hb (IBox.lt B9)); (try replace B11 := IBox.below B11 hb (IBox.lt B11)); (try replace c3_3 := cell_below hb c3_3); replace HBW := Lib.hid (HBW.out.trans (hb.mono HBW.out.size)); clear hb)
                            | (go_at_call 36; (with_reducible refine (HC2.out _ (field_is HE.content _)).mono ?_); rintro e w1 ⟨rfl, hb⟩; replace HB := HB.trans (hb.mono HB.size); (try replace HO := HO.below hb); (try replace HE := HE.below hb); (try replace B3 := IBox.below B3 hb (IBox.lt B3)); (try replace B4 := IBox.below B4 hb (IBox.lt B4)); (try replace B9 := IBox.below B9 hb (IBox.lt B9)); (try replace B11 := IBox.below B11 hb (IBox.lt B11)); (try replace c3_3 := cell_below hb c3_3); replace HBW := Lib.hid (HBW.out.trans (hb.mono HBW.out.size)); clear hb))
                      go_roundw
                      case rel => exact ⟨k + 1, by omega, by go_num, none_step HS.out HNN.out HR.out, HBW.out⟩
                      case measure => simp [intOf]; omega
                  · cases hxy : (x == y)
                    · by_cases h2 : level ≤ x
                      · have HC1 := Lib.hid C1
                        have HC2 := Lib.hid C2
                        obtain rfl : r = true := by rw [hfin]; simp_all
                        have e2 : (x != y) = !(x == y) := rfl
                        try rw [hxy] at e2
                        have HR := Lib.hid hr
                        clear hfin C1 C2 hr
                        go_wp2_with (first
                              | (refine wpl_load_box rfl 30 (.tmp 9) rfl _ rfl _ _ _ B9 Try.underlying30 rfl info_value ?_)
                              | (refine wpl_load_box rfl 30 (.tmp 11) rfl _ rfl _ _ _ B11 Try.underlying30 rfl info_value ?_)
                              | (go_at_call 36; (with_reducible refine (HC1.out _ (field_is HO _)).mono ?_); rintro e w1 ⟨rfl, hb⟩; replace HB := HB.trans (hb.mono HB.size); (try replace HO := HO.below hb); (try replace HE := HE.below hb); (try replace B3 := IBox.below B3 hb (IBox.lt B3)); (try replace B4 := IBox.below B4 hb (IBox.lt B4)); (try replace B9 := IBox.below B9 hb (IBox.lt B9)); (try replace B11 := IBox.below B11 hb (IBox.lt B11)); (try replace c3_3 := cell_below hb c3_3); replace HBW := Lib.hid (HBW.out.trans (hb.mono HBW.out.size)); clear hb)
                              | (go_at_call 36; (with_reducible refine (HC2.out _ (field_is HE.content _)).mono ?_); rintro e w1 ⟨rfl, hb⟩; replace HB := HB.trans (hb.mono HB.size); (try replace HO := HO.below hb); (try replace HE := HE.below hb); (try replace B3 := IBox.below B3 hb (IBox.lt B3)); (try replace B4 := IBox.below B4 hb (IBox.lt B4)); (try replace B9 := IBox.below B9 hb (IBox.lt B9)); (try replace B11 := IBox.below B11 hb (IBox.lt B11)); (try replace c3_3 := cell_below hb c3_3); replace HBW := Lib.hid (HBW.out.trans (hb.mono HBW.out.size)); clear hb))
                        have HZ : c46 old ex.content ex.sender level = true := any_hit HNN.out HR.out
                        go_ret
                        exact ⟨ret_int (by unfold changesS; rw [if_neg (by rw [h44.out]; decide), if_neg (by rw [h45.out]; decide), if_pos HZ]), HB⟩
                      · have HC1 := Lib.hid C1
                        have HC2 := Lib.hid C2
                        obtain rfl : r = false := by rw [hfin]; simp_all
                        have e2 : (x != y) = !(x == y) := rfl
                        try rw [hxy] at e2
                        have HR := Lib.hid hr
                        clear hfin C1 C2 hr
                        go_wp2_with (first
                              | (refine wpl_load_box rfl 30 (.tmp 9) rfl _ rfl _ _ _ B9 Try.underlying30 rfl info_value ?_)
                              | (refine wpl_load_box rfl 30 (.tmp 11) rfl _ rfl _ _ _ B11 Try.underlying30 rfl info_value ?_)
                              | (go_at_call 36; (with_reducible refine (HC1.out _ (field_is HO _)).mono ?_); rintro e w1 ⟨rfl, hb⟩; replace HB := HB.trans (hb.mono HB.size); (try replace HO := HO.below hb); (try replace HE := HE.below hb); (try replace B3 := IBox.below B3 hb (IBox.lt B3)); (try replace B4 := IBox.below B4 hb (IBox.lt B4)); (try replace B9 := IBox.below B9 hb (IBox.lt B9)); (try replace B11 := IBox.below B11 hb (IBox.lt B11)); (try replace c3_3 := cell_below hb c3_3); replace HBW := Lib.hid (HBW.out.trans (hb.mono HBW.out.size)); clear hb)
                              | (go_at_call 36; (with_reducible refine (HC2.out _ (field_is HE.content _)).mono ?_); rintro e w1 ⟨rfl, hb⟩; replace HB := HB.trans (hb.mono HB.size); (try replace HO := HO.below hb); (try replace HE := HE.below hb); (try replace B3 := IBox.below B3 hb (IBox.lt B3)); (try replace B4 := IBox.below B4 hb (IBox.lt B4)); (try replace B9 := IBox.below B9 hb (IBox.lt B9)); (try replace B11 := IBox.below B11 hb (IBox.lt B11)); (try replace c3_3 := cell_below hb c3_3); replace HBW := Lib.hid (HBW.out.trans (hb.mono HBW.out.size)); clear hb))
                        go_roundw
                        case rel => exact ⟨k + 1, by omega, by go_num, none_step HS.out HNN.out HR.out, HBW.out⟩
                        case measure => simp [intOf]; omega
                    · have HC1 := Lib.hid C1
                      have HC2 := Lib.hid C2
                      obtain rfl : r = false := by rw [hfin]; simp_all
                      have e2 : (x != y) = !(x == y) := rfl
                      try rw [hxy] at e2
                      have HR := Lib.hid hr
                      clear hfin C1 C2 hr
                      go_wp2_with (first
                            | (refine wpl_load_box rfl 30 (.tmp 9) rfl _ rfl _ _ _ B9 Try.underlying30 rfl info_value ?_)
                            | (refine wpl_load_box rfl 30 (.tmp 11) rfl _ rfl _ _ _ B11 Try.underlying30 rfl info_value ?_)
                            | (go_at_call 36; (with_reducible refine (HC1.out _ (field_is HO _)).mono ?_); rintro e w1 ⟨rfl, hb⟩; replace HB := HB.trans (hb.mono HB.size); (try replace HO := HO.below hb); (try replace HE := HE.below hb); (try replace B3 := IBox.below B3 hb (IBox.lt B3)); (try replace B4 := IBox.below B4 hb (IBox.lt B4)); (try replace B9 := IBox.below B9 hb (IBox.lt B9)); (try replace B11 := IBox.below B11 hb (IBox.lt B11)); (try replace c3_3 := cell_below hb c3_3); replace HBW := Lib.hid (HBW.out.trans (hb.mono HBW.out.size)); clear hb)
                            | (go_at_call 36; (with_reducible refine (HC2.out _ (field_is HE.content _)).mono ?_); rintro e w1 ⟨rfl, hb⟩; replace HB := HB.trans (hb.mono HB.size); (try replace HO := HO.below hb); (try replace HE := HE.below hb); (try replace B3 := IBox.below B3 hb (IBox.lt B3)); (try replace B4 := IBox.below B4 hb (IBox.lt B4)); (try replace B9 := IBox.below B9 hb (IBox.lt B9)); (try replace B11 := IBox.below B11 hb (IBox.lt B11)); (try replace c3_3 := cell_below hb c3_3); replace HBW := Lib.hid (HBW.out.trans (hb.mono HBW.out.size)); clear hb))
                      go_roundw
                      case rel => exact ⟨k + 1, by omega, by go_num, none_step HS.out HNN.out HR.out, HBW.out⟩
                      case measure => simp [intOf]; omega
                · have HC1 := Lib.hid C1
                  have HC2 := Lib.hid C2
                  obtain rfl : r = false := by rw [hfin]; simp_all
                  have e2 : (x != y) = !(x == y) := rfl
                  try rw [hxy] at e2
                  have HR := Lib.hid hr
                  clear hfin C1 C2 hr
                  go_wp2_with (first
                        | (refine wpl_load_box rfl 30 (.tmp 9) rfl _ rfl _ _ _ B9 Try.underlying30 rfl info_value ?_)
                        | (refine wpl_load_box rfl 30 (.tmp 11) rfl _ rfl _ _ _ B11 Try.underlying30 rfl info_value ?_)
                        | (go_at_call 36; (with_reducible refine (HC1.out _ (field_is HO _)).mono ?_); rintro e w1 ⟨rfl, hb⟩; replace HB := HB.trans (hb.mono HB.size); (try replace HO := HO.below hb); (try replace HE := HE.below hb); (try replace B3 := IBox.below B3 hb (IBox.lt B3)); (try replace B4 := IBox.below B4 hb (IBox.lt B4)); (try replace B9 := IBox.below B9 hb (IBox.lt B9)); (try replace B11 := IBox.below B11 hb (IBox.lt B11)); (try replace c3_3 := cell_below hb c3_3); replace HBW := Lib.hid (HBW.out.trans (hb.mono HBW.out.size)); clear hb)
                        | (go_at_call 36; (with_reducible refine (HC2.out _ (field_is HE.content _)).mono ?_); rintro e w1 ⟨rfl, hb⟩; replace HB := HB.trans (hb.mono HB.size); (try replace HO := HO.below hb); (try replace HE := HE.below hb); (try replace B3 := IBox.below B3 hb (IBox.lt B3)); (try replace B4 := IBox.below B4 hb (IBox.lt B4)); (try replace B9 := IBox.below B9 hb (IBox.lt B9)); (try replace B11 := IBox.below B11 hb (IBox.lt B11)); (try replace c3_3 := cell_below hb c3_3); replace HBW := Lib.hid (HBW.out.trans (hb.mono HBW.out.size)); clear hb))
                  go_roundw
                  case rel => exact ⟨k + 1, by omega, by go_num, none_step HS.out HNN.out HR.out, HBW.out⟩
                  case measure => simp [intOf]; omega
            · obtain rfl : k = (names2 (fieldD old ⟨#[117, 115, 101, 114, 115]⟩) (fieldD ex.content ⟨#[117, 115, 101, 114, 115]⟩)).length := by omega
              have h46 := Lib.hid (show c46 old ex.content ex.sender level = false from none_all HS.out)
              clear hk hb HS HBW hlt hN
              go_wp2_with (first
                  | (refine wpl_load_box rfl 30 (.tmp 9) rfl _ rfl _ _ _ B9 Try.underlying30 rfl info_value ?_)
                  | (refine wpl_load_box rfl 30 (.tmp 11) rfl _ rfl _ _ _ B11 Try.underlying30 rfl info_value ?_)
                  | (go_at_call 73; (with_reducible refine (both2_any _ _ _ (field_is HO _) (field_is HE.content _)).mono ?_); rintro e wn ⟨AN, cN, rfl, hN, hb⟩; replace HB := HB.trans (hb.mono HB.size); (try replace HO := HO.below hb); (try replace HE := HE.below hb); (try replace B3 := IBox.below B3 hb (IBox.lt B3)); (try replace B4 := IBox.below B4 hb (IBox.lt B4)); (try replace B9 := IBox.below B9 hb (IBox.lt B9)); (try replace B11 := IBox.below B11 hb (IBox.lt B11)); (try replace c3_3 := cell_below hb c3_3); clear hb))
              go_loopw [122] (fun i wr => ∃ k : Nat, k ≤ (names2 (fieldD old ⟨#[117, 115, 101, 114, 115]⟩) (fieldD ex.content ⟨#[117, 115, 101, 114, 115]⟩)).length ∧ i = .int .i64 k ∧ Hid (noneTo (fun n => roseB (fieldD old ⟨#[117, 115, 101, 114, 115]⟩) (fieldD ex.content ⟨#[117, 115, 101, 114, 115]⟩) level n) (names2 (fieldD old ⟨#[117, 115, 101, 114, 115]⟩) (fieldD ex.content ⟨#[117, 115, 101, 114, 115]⟩)) k) ∧ Below wn.heap.size wn wr) (fun i _ => (names2 (fieldD old ⟨#[117, 115, 101, 114, 115]⟩) (fieldD ex.content ⟨#[117, 115, 101, 114, 115]⟩)).length - (intOf i).toNat)
              case atStart => exact ⟨0, Nat.zero_le _, rfl, none_zero _ _, Below.refl _ _⟩
              case round =>
                obtain ⟨k, hk, rfl, HS, hb⟩ := hrel
                have HBW := Lib.hid hb
                replace HB := HB.trans (hb.mono HB.size)
                (try replace HO := HO.below hb)
                (try replace HE := HE.below hb)
                (try replace B3 := IBox.below B3 hb (IBox.lt B3))
                (try replace B4 := IBox.below B4 hb (IBox.lt B4))
                (try replace B9 := IBox.below B9 hb (IBox.lt B9))
                (try replace B11 := IBox.below B11 hb (IBox.lt B11))
                (try replace c3_3 := cell_below hb c3_3)
                by_cases hlt : k < (names2 (fieldD old ⟨#[117, 115, 101, 114, 115]⟩) (fieldD ex.content ⟨#[117, 115, 101, 114, 115]⟩)).length
                · obtain ⟨bl, off, n, hA, hn, hcn, hs⟩ := names_at (hN.below hb) (show k < List.length _ from hlt)
                  rw [Nat.mul_one] at hcn
                  have HNN := Lib.hid hn
                  clear hn hb
                  have hlt2 : (k : Int) < (names2 (fieldD old ⟨#[117, 115, 101, 114, 115]⟩) (fieldD ex.content ⟨#[117, 115, 101, 114, 115]⟩)).length := by omega
                  subst hA
                  have hfin := rose_is (fieldD old ⟨#[117, 115, 101, 114, 115]⟩) (fieldD ex.content ⟨#[117, 115, 101, 114, 115]⟩) level n
                  have C1 : ∀ w, IsJV w (fieldD old ⟨#[117, 115, 101, 114, 115]⟩) → Calls Try.prog 36 #[.agg (fieldD old ⟨#[117, 115, 101, 114, 115]⟩).cells, .string n] w fun e w' => e = .returned (.tuple #[.int .i64 (numT (fieldD old ⟨#[117, 115, 101, 114, 115]⟩) n), .bool (numP (fieldD old ⟨#[117, 115, 101, 114, 115]⟩) n)]) ∧ Below w.heap.size w w' := fun w h => anum_any _ n w h
                  have C2 : ∀ w, IsJV w (fieldD ex.content ⟨#[117, 115, 101, 114, 115]⟩) → Calls Try.prog 36 #[.agg (fieldD ex.content ⟨#[117, 115, 101, 114, 115]⟩).cells, .string n] w fun e w' => e = .returned (.tuple #[.int .i64 (numT (fieldD ex.content ⟨#[117, 115, 101, 114, 115]⟩) n), .bool (numP (fieldD ex.content ⟨#[117, 115, 101, 114, 115]⟩) n)]) ∧ Below w.heap.size w w' := fun w h => anum_any _ n w h
                  generalize hr : roseB (fieldD old ⟨#[117, 115, 101, 114, 115]⟩) (fieldD ex.content ⟨#[117, 115, 101, 114, 115]⟩) level n = r at hfin
                  generalize numP (fieldD old ⟨#[117, 115, 101, 114, 115]⟩) n = p at hfin C1
                  generalize numT (fieldD old ⟨#[117, 115, 101, 114, 115]⟩) n = x at hfin C1
                  generalize numP (fieldD ex.content ⟨#[117, 115, 101, 114, 115]⟩) n = q at hfin C2
                  generalize numT (fieldD ex.content ⟨#[117, 115, 101, 114, 115]⟩) n = y at hfin C2
                  cases q
                  · have HC1 := Lib.hid C1
                    have HC2 := Lib.hid C2
                    obtain rfl : r = false := by rw [hfin]; simp_all
                    have e2 : (x != y) = !(x == y) := rfl
                    try rw [hxy] at e2
                    have HR := Lib.hid hr
                    clear hfin C1 C2 hr
                    go_wp2_with (first
                          | (refine wpl_load_box rfl 30 (.tmp 9) rfl _ rfl _ _ _ B9 Try.underlying30 rfl info_value ?_)
                          | (refine wpl_load_box rfl 30 (.tmp 11) rfl _ rfl _ _ _ B11 Try.underlying30 rfl info_value ?_)
                          | (go_at_call 36; (with_reducible refine (HC1.out _ (field_is HO _)).mono ?_); rintro e w1 ⟨rfl, hb⟩; replace HB := HB.trans (hb.mono HB.size); (try replace HO := HO.below hb); (try replace HE := HE.below hb); (try replace B3 := IBox.below B3 hb (IBox.lt B3)); (try replace B4 := IBox.below B4 hb (IBox.lt B4)); (try replace B9 := IBox.below B9 hb (IBox.lt B9)); (try replace B11 := IBox.below B11 hb (IBox.lt B11)); (try replace c3_3 := cell_below hb c3_3); replace HBW := Lib.hid (HBW.out.trans (hb.mono HBW.out.size)); clear hb)
                          | (go_at_call 36; (with_reducible refine (HC2.out _ (field_is HE.content _)).mono ?_); rintro e w1 ⟨rfl, hb⟩; replace HB := HB.trans (hb.mono HB.size); (try replace HO := HO.below hb); (try replace HE := HE.below hb); (try replace B3 := IBox.below B3 hb (IBox.lt B3)); (try replace B4 := IBox.below B4 hb (IBox.lt B4)); (try replace B9 := IBox.below B9 hb (IBox.lt B9)); (try replace B11 := IBox.below B11 hb (IBox.lt B11)); (try replace c3_3 := cell_below hb c3_3); replace HBW := Lib.hid (HBW.out.trans (hb.mono HBW.out.size)); clear hb))
                    go_roundw
                    case rel => exact ⟨k + 1, by omega, by go_num, none_step HS.out HNN.out HR.out, HBW.out⟩
                    case measure => simp [intOf]; omega
                  · cases p
                    · by_cases h2 : level < y
                      · have HC1 := Lib.hid C1
                        have HC2 := Lib.hid C2
                        obtain rfl : r = true := by rw [hfin]; simp_all
                        have e2 : (x != y) = !(x == y) := rfl
                        try rw [hxy] at e2
                        have HR := Lib.hid hr
                        clear hfin C1 C2 hr
                        go_wp2_with (first
                              | (refine wpl_load_box rfl 30 (.tmp 9) rfl _ rfl _ _ _ B9 Try.underlying30 rfl info_value ?_)
                              | (refine wpl_load_box rfl 30 (.tmp 11) rfl _ rfl _ _ _ B11 Try.underlying30 rfl info_value ?_)
                              | (go_at_call 36; (with_reducible refine (HC1.out _ (field_is HO _)).mono ?_); rintro e w1 ⟨rfl, hb⟩; replace HB := HB.trans (hb.mono HB.size); (try replace HO := HO.below hb); (try replace HE := HE.below hb); (try replace B3 := IBox.below B3 hb (IBox.lt B3)); (try replace B4 := IBox.below B4 hb (IBox.lt B4)); (try replace B9 := IBox.below B9 hb (IBox.lt B9)); (try replace B11 := IBox.below B11 hb (IBox.lt B11)); (try replace c3_3 := cell_below hb c3_3); replace HBW := Lib.hid (HBW.out.trans (hb.mono HBW.out.size)); clear hb)
                              | (go_at_call 36; (with_reducible refine (HC2.out _ (field_is HE.content _)).mono ?_); rintro e w1 ⟨rfl, hb⟩; replace HB := HB.trans (hb.mono HB.size); (try replace HO := HO.below hb); (try replace HE := HE.below hb); (try replace B3 := IBox.below B3 hb (IBox.lt B3)); (try replace B4 := IBox.below B4 hb (IBox.lt B4)); (try replace B9 := IBox.below B9 hb (IBox.lt B9)); (try replace B11 := IBox.below B11 hb (IBox.lt B11)); (try replace c3_3 := cell_below hb c3_3); replace HBW := Lib.hid (HBW.out.trans (hb.mono HBW.out.size)); clear hb))
                        have HZ : c47 old ex.content level = true := any_hit HNN.out HR.out
                        go_ret
                        exact ⟨ret_int (by unfold changesS; rw [if_neg (by rw [h44.out]; decide), if_neg (by rw [h45.out]; decide), if_neg (by rw [h46.out]; decide), if_pos HZ]), HB⟩
                      · have HC1 := Lib.hid C1
                        have HC2 := Lib.hid C2
                        obtain rfl : r = false := by rw [hfin]; simp_all
                        have e2 : (x != y) = !(x == y) := rfl
                        try rw [hxy] at e2
                        have HR := Lib.hid hr
                        clear hfin C1 C2 hr
                        go_wp2_with (first
                              | (refine wpl_load_box rfl 30 (.tmp 9) rfl _ rfl _ _ _ B9 Try.underlying30 rfl info_value ?_)
                              | (refine wpl_load_box rfl 30 (.tmp 11) rfl _ rfl _ _ _ B11 Try.underlying30 rfl info_value ?_)
                              | (go_at_call 36; (with_reducible refine (HC1.out _ (field_is HO _)).mono ?_); rintro e w1 ⟨rfl, hb⟩; replace HB := HB.trans (hb.mono HB.size); (try replace HO := HO.below hb); (try replace HE := HE.below hb); (try replace B3 := IBox.below B3 hb (IBox.lt B3)); (try replace B4 := IBox.below B4 hb (IBox.lt B4)); (try replace B9 := IBox.below B9 hb (IBox.lt B9)); (try replace B11 := IBox.below B11 hb (IBox.lt B11)); (try replace c3_3 := cell_below hb c3_3); replace HBW := Lib.hid (HBW.out.trans (hb.mono HBW.out.size)); clear hb)
                              | (go_at_call 36; (with_reducible refine (HC2.out _ (field_is HE.content _)).mono ?_); rintro e w1 ⟨rfl, hb⟩; replace HB := HB.trans (hb.mono HB.size); (try replace HO := HO.below hb); (try replace HE := HE.below hb); (try replace B3 := IBox.below B3 hb (IBox.lt B3)); (try replace B4 := IBox.below B4 hb (IBox.lt B4)); (try replace B9 := IBox.below B9 hb (IBox.lt B9)); (try replace B11 := IBox.below B11 hb (IBox.lt B11)); (try replace c3_3 := cell_below hb c3_3); replace HBW := Lib.hid (HBW.out.trans (hb.mono HBW.out.size)); clear hb))
                        go_roundw
                        case rel => exact ⟨k + 1, by omega, by go_num, none_step HS.out HNN.out HR.out, HBW.out⟩
                        case measure => simp [intOf]; omega
                    · cases hxy : (x == y)
                      · by_cases h2 : level < y
                        · have HC1 := Lib.hid C1
                          have HC2 := Lib.hid C2
                          obtain rfl : r = true := by rw [hfin]; simp_all
                          have e2 : (x != y) = !(x == y) := rfl
                          try rw [hxy] at e2
                          have HR := Lib.hid hr
                          clear hfin C1 C2 hr
                          go_wp2_with (first
                                | (refine wpl_load_box rfl 30 (.tmp 9) rfl _ rfl _ _ _ B9 Try.underlying30 rfl info_value ?_)
                                | (refine wpl_load_box rfl 30 (.tmp 11) rfl _ rfl _ _ _ B11 Try.underlying30 rfl info_value ?_)
                                | (go_at_call 36; (with_reducible refine (HC1.out _ (field_is HO _)).mono ?_); rintro e w1 ⟨rfl, hb⟩; replace HB := HB.trans (hb.mono HB.size); (try replace HO := HO.below hb); (try replace HE := HE.below hb); (try replace B3 := IBox.below B3 hb (IBox.lt B3)); (try replace B4 := IBox.below B4 hb (IBox.lt B4)); (try replace B9 := IBox.below B9 hb (IBox.lt B9)); (try replace B11 := IBox.below B11 hb (IBox.lt B11)); (try replace c3_3 := cell_below hb c3_3); replace HBW := Lib.hid (HBW.out.trans (hb.mono HBW.out.size)); clear hb)
                                | (go_at_call 36; (with_reducible refine (HC2.out _ (field_is HE.content _)).mono ?_); rintro e w1 ⟨rfl, hb⟩; replace HB := HB.trans (hb.mono HB.size); (try replace HO := HO.below hb); (try replace HE := HE.below hb); (try replace B3 := IBox.below B3 hb (IBox.lt B3)); (try replace B4 := IBox.below B4 hb (IBox.lt B4)); (try replace B9 := IBox.below B9 hb (IBox.lt B9)); (try replace B11 := IBox.below B11 hb (IBox.lt B11)); (try replace c3_3 := cell_below hb c3_3); replace HBW := Lib.hid (HBW.out.trans (hb.mono HBW.out.size)); clear hb))
                          have HZ : c47 old ex.content level = true := any_hit HNN.out HR.out
                          go_ret
                          exact ⟨ret_int (by unfold changesS; rw [if_neg (by rw [h44.out]; decide), if_neg (by rw [h45.out]; decide), if_neg (by rw [h46.out]; decide), if_pos HZ]), HB⟩
                        · have HC1 := Lib.hid C1
                          have HC2 := Lib.hid C2
                          obtain rfl : r = false := by rw [hfin]; simp_all
                          have e2 : (x != y) = !(x == y) := rfl
                          try rw [hxy] at e2
                          have HR := Lib.hid hr
                          clear hfin C1 C2 hr
                          go_wp2_with (first
                                | (refine wpl_load_box rfl 30 (.tmp 9) rfl _ rfl _ _ _ B9 Try.underlying30 rfl info_value ?_)
                                | (refine wpl_load_box rfl 30 (.tmp 11) rfl _ rfl _ _ _ B11 Try.underlying30 rfl info_value ?_)
                                | (go_at_call 36; (with_reducible refine (HC1.out _ (field_is HO _)).mono ?_); rintro e w1 ⟨rfl, hb⟩; replace HB := HB.trans (hb.mono HB.size); (try replace HO := HO.below hb); (try replace HE := HE.below hb); (try replace B3 := IBox.below B3 hb (IBox.lt B3)); (try replace B4 := IBox.below B4 hb (IBox.lt B4)); (try replace B9 := IBox.below B9 hb (IBox.lt B9)); (try replace B11 := IBox.below B11 hb (IBox.lt B11)); (try replace c3_3 := cell_below hb c3_3); replace HBW := Lib.hid (HBW.out.trans (hb.mono HBW.out.size)); clear hb)
                                | (go_at_call 36; (with_reducible refine (HC2.out _ (field_is HE.content _)).mono ?_); rintro e w1 ⟨rfl, hb⟩; replace HB := HB.trans (hb.mono HB.size); (try replace HO := HO.below hb); (try replace HE := HE.below hb); (try replace B3 := IBox.below B3 hb (IBox.lt B3)); (try replace B4 := IBox.below B4 hb (IBox.lt B4)); (try replace B9 := IBox.below B9 hb (IBox.lt B9)); (try replace B11 := IBox.below B11 hb (IBox.lt B11)); (try replace c3_3 := cell_below hb c3_3); replace HBW := Lib.hid (HBW.out.trans (hb.mono HBW.out.size)); clear hb))
                          go_roundw
                          case rel => exact ⟨k + 1, by omega, by go_num, none_step HS.out HNN.out HR.out, HBW.out⟩
                          case measure => simp [intOf]; omega
                      · have HC1 := Lib.hid C1
                        have HC2 := Lib.hid C2
                        obtain rfl : r = false := by rw [hfin]; simp_all
                        have e2 : (x != y) = !(x == y) := rfl
                        try rw [hxy] at e2
                        have HR := Lib.hid hr
                        clear hfin C1 C2 hr
                        go_wp2_with (first
                              | (refine wpl_load_box rfl 30 (.tmp 9) rfl _ rfl _ _ _ B9 Try.underlying30 rfl info_value ?_)
                              | (refine wpl_load_box rfl 30 (.tmp 11) rfl _ rfl _ _ _ B11 Try.underlying30 rfl info_value ?_)
                              | (go_at_call 36; (with_reducible refine (HC1.out _ (field_is HO _)).mono ?_); rintro e w1 ⟨rfl, hb⟩; replace HB := HB.trans (hb.mono HB.size); (try replace HO := HO.below hb); (try replace HE := HE.below hb); (try replace B3 := IBox.below B3 hb (IBox.lt B3)); (try replace B4 := IBox.below B4 hb (IBox.lt B4)); (try replace B9 := IBox.below B9 hb (IBox.lt B9)); (try replace B11 := IBox.below B11 hb (IBox.lt B11)); (try replace c3_3 := cell_below hb c3_3); replace HBW := Lib.hid (HBW.out.trans (hb.mono HBW.out.size)); clear hb)
                              | (go_at_call 36; (with_reducible refine (HC2.out _ (field_is HE.content _)).mono ?_); rintro e w1 ⟨rfl, hb⟩; replace HB := HB.trans (hb.mono HB.size); (try replace HO := HO.below hb); (try replace HE := HE.below hb); (try replace B3 := IBox.below B3 hb (IBox.lt B3)); (try replace B4 := IBox.below B4 hb (IBox.lt B4)); (try replace B9 := IBox.below B9 hb (IBox.lt B9)); (try replace B11 := IBox.below B11 hb (IBox.lt B11)); (try replace c3_3 := cell_below hb c3_3); replace HBW := Lib.hid (HBW.out.trans (hb.mono HBW.out.size)); clear hb))
                        go_roundw
                        case rel => exact ⟨k + 1, by omega, by go_num, none_step HS.out HNN.out HR.out, HBW.out⟩
                        case measure => simp [intOf]; omega
                · obtain rfl : k = (names2 (fieldD old ⟨#[117, 115, 101, 114, 115]⟩) (fieldD ex.content ⟨#[117, 115, 101, 114, 115]⟩)).length := by omega
                  have HZ : c47 old ex.content level = false := none_all HS.out
                  clear hk hb HS HBW hlt hN
                  go_wp2
                  go_ret
                  exact ⟨ret_int (by unfold changesS; rw [if_neg (by rw [h44.out]; decide), if_neg (by rw [h45.out]; decide), if_neg (by rw [h46.out]; decide), if_neg (by rw [HZ]; decide)]), HB⟩
end Go.Proofs.Ytpmdpfgaafaceaa
