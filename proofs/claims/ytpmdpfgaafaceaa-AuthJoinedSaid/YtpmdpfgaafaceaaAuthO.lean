/- Layer 16: is a content of levels formed? In the program and in the reference. -/
import Derived.Test.YtpmdpfgaafaceaaAuthM
import Derived.Test.YtpmdpfgaafaceaaAuthN
namespace Go.Proofs.Ytpmdpfgaafaceaa
open Go.RowKit Go.PlainAid
set_option linter.unusedVariables false
set_option linter.unusedSimpArgs false

/-- An operation whose guard says yes is as one without a guard. -/
theorem wpl_wanted {P : Program} {ops : Array Oper} {rest : List Oper} {o : Oper} {a : Act} {w : World} {Q : Exit → Act → World → Prop} (hw : Region.wanted o (yielded ops a.tmps) = true)
    (h : wpList P ops Q ({ o with guard := none } :: rest) a w) : wpList P ops Q (o :: rest) a w := by
  unfold wpList at h ⊢
  rw [if_pos hw]
  rw [if_pos (show Region.wanted ({ o with guard := none } : Oper) (yielded ops a.tmps) = true from rfl)] at h
  exact h
def fieldP (j : JV) (n : ByteArray) : Bool := (fieldS j n).isSome
theorem afieldB_any (j : JV) (name : ByteArray) (w : World) (hj : IsJV w j) :
    Calls Try.prog 35 #[.agg j.cells, .string name] w fun e w' => e = .returned (.tuple #[.agg (fieldD j name).cells, .bool (fieldP j name)]) ∧ Below w.heap.size w w' := afield_any j name w hj
theorem rfieldB_any (j : JV) (name : ByteArray) (w : World) (hj : IsJV w j) :
    Calls Try.prog 18 #[.agg j.cells, .string name] w fun e w' => e = .returned (.tuple #[.agg (fieldD j name).cells, .bool (fieldP j name)]) ∧ Below w.heap.size w w' := rfield_any j name w hj
theorem fieldD_no {j : JV} {n : ByteArray} (h : fieldP j n = false) : fieldD j n = JV.zero := by
  unfold fieldP at h
  unfold fieldD
  cases hs : fieldS j n with
  | none => rfl
  | some x => rw [hs] at h; cases h
def badB (v : JV) (n : ByteArray) : Bool := fieldP v n && ((fieldD v n).v.kind != 2)
def sevenB (v : JV) : Bool := sevenL.all fun n => !badB v n
def nameB (u : JV) (i : Nat) : ByteArray := (u.ns[i]?).getD ⟨#[]⟩
def usersTo (u : JV) (k : Nat) : Prop := ∀ i, i < k → userB (nameB u i) = true
instance (u : JV) (k : Nat) : Decidable (usersTo u k) := by unfold usersTo; infer_instance
def formedB (v : JV) : Bool := sevenB v && ((!fieldP v ⟨#[101, 118, 101, 110, 116, 115]⟩) || intsB (fieldD v ⟨#[101, 118, 101, 110, 116, 115]⟩)) && ((!fieldP v ⟨#[117, 115, 101, 114, 115]⟩) || (decide (usersTo (fieldD v ⟨#[117, 115, 101, 114, 115]⟩) (fieldD v ⟨#[117, 115, 101, 114, 115]⟩).v.Fn) && intsB (fieldD v ⟨#[117, 115, 101, 114, 115]⟩)))
theorem seven7_any (w : World) : Calls Try.prog 70 #[] w fun e w' => ∃ A c, e = .returned (.slice A 7 c) ∧ NamesAt w' A 1 0 sevenL ∧ Below w.heap.size w w' := seven_any w
theorem rseven7_any (w : World) : Calls Try.prog 56 #[] w fun e w' => ∃ A c, e = .returned (.slice A 7 c) ∧ NamesAt w' A 1 0 sevenL ∧ Below w.heap.size w w' := rseven_any w
theorem seven_no {v : JV} {k : Nat} {n : ByteArray} (hn : sevenL[k]? = some n) (hb : badB v n = true) : sevenB v = false := by
  unfold sevenB
  rw [List.all_eq_false]
  exact ⟨n, List.mem_of_getElem? hn, by rw [hb]; decide⟩
theorem seven_all {v : JV} (h : ∀ q n, q < 7 → sevenL[q]? = some n → badB v n = false) : sevenB v = true := by
  unfold sevenB
  rw [List.all_eq_true]
  intro n hn
  obtain ⟨q, hq, e⟩ := List.mem_iff_getElem.1 hn
  have : badB v n = false := h q n hq (by rw [List.getElem?_eq_getElem hq, e])
  rw [this]; rfl
theorem seven_step {v : JV} {k : Nat} {n : ByteArray} (h : ∀ q m, q < k → sevenL[q]? = some m → badB v m = false) (hn : sevenL[k]? = some n) (hb : badB v n = false) : ∀ q m, q < k + 1 → sevenL[q]? = some m → badB v m = false := by
  intro q m hq hm
  rcases Nat.lt_or_ge q k with hlt | hge
  · exact h q m hlt hm
  · obtain rfl : q = k := by omega
    rw [hn] at hm
    cases hm
    exact hb
theorem users_step {u : JV} {k : Nat} (h : usersTo u k) (h2 : userB (nameB u k) = true) : usersTo u (k + 1) := fun i hi => by
  rcases Nat.lt_or_ge i k with hlt | hge
  · exact h i hlt
  · obtain rfl : i = k := by omega
    exact h2

set_option maxRecDepth 100000 in
set_option maxHeartbeats 8000000 in
theorem aformed_any (v : JV) (w : World) (HV : IsJV w v) (HM : HasMax w) :
    Calls Try.prog 48 #[.agg v.cells] w fun e w' => e = .returned (.bool (formedB v)) ∧ Below w.heap.size w w' := by
  have HB := Below.refl w.heap.size w
  go_enter Try.func48, Try.ntmps48
  go_wp2_with (first
    | (refine wpl_box_at rfl 30 (.tmp 0) rfl _ rfl ?_; intro w1 hw; have hb := hid_grow hw; have B1 := (hid_alloc hw).1; replace HB := HB.trans (hb.mono HB.size); (try replace HV := HV.below hb); (try replace HM := HM.below hb); clear hb hw)
    | (go_at_call 70; (with_reducible refine (seven7_any _).mono ?_); rintro e w2 ⟨A, c, rfl, hN, hb⟩; replace HB := HB.trans (hb.mono HB.size); (try replace HV := HV.below hb); (try replace HM := HM.below hb); (try replace B1 := IBox.below B1 hb (IBox.lt B1)); clear hb))
  go_loopw [15] (fun i wr => ∃ k : Nat, k ≤ 7 ∧ i = .int .i64 k ∧ Hid (∀ q n, q < k → sevenL[q]? = some n → badB v n = false) ∧ Below w2.heap.size w2 wr) (fun i _ => 7 - (intOf i).toNat)
  case atStart => exact ⟨0, by omega, rfl, fun q n hq => absurd hq (by omega), Below.refl _ _⟩
  case round =>
    obtain ⟨k, hk, rfl, HS, hb⟩ := hrel
    have HBW := Lib.hid hb
    replace HB := HB.trans (hb.mono HB.size)
    replace HV := HV.below hb
    replace HM := HM.below hb
    replace B1 := IBox.below B1 hb (IBox.lt B1)
    by_cases hlt : k < 7
    · have hlt7 : k < sevenL.length := hlt
      obtain ⟨bl, off, n, hA, hn, hc, hs⟩ := names_at (hN.below hb) hlt7
      rw [Nat.mul_one] at hc
      subst hA
      have HN7 := Lib.hid hn
      have hbad : badB v n = (fieldP v n && ((fieldD v n).v.kind != 2)) := rfl
      have hk2 : ((fieldD v n).v.kind != 2) = !((fieldD v n).v.kind == 2) := rfl
      have hlt2 : (k : Int) < 7 := by omega
      clear hn hlt7 hb
      cases hP : fieldP v n <;> cases hK : ((fieldD v n).v.kind == 2)
      all_goals
        rw [hK] at hk2
        rw [hP, hk2] at hbad
        have HBAD := Lib.hid hbad
        clear hbad hK
        go_wp2_with (first
          | (refine wpl_load_box rfl 30 (.tmp 1) rfl _ rfl _ _ _ B1 Try.underlying30 rfl info_value ?_)
          | (go_at_call 35; (with_reducible refine (afieldB_any _ _ _ HV).mono ?_); rintro e w3 ⟨rfl, hb⟩; replace HBW := Lib.hid (HBW.out.trans (hb.mono HBW.out.size)); replace HB := HB.trans (hb.mono HB.size); (try replace HV := HV.below hb); (try replace HM := HM.below hb); (try replace B1 := IBox.below B1 hb (IBox.lt B1)); (try replace B5 := IBox.below B5 hb (IBox.lt B5)); (try replace c5_0 := cell_below hb c5_0); clear hb)
          | (refine wpl_newbox 5 rfl rfl 30 rfl rfl (.tmp 23) rfl _ zeroV _ rfl rfl info_value rfl (jv_one _) ?_; intro w1 hw; have hb := hid_grow hw; have B5 := (hid_alloc hw).1; replace HB := HB.trans (hb.mono HB.size); (try replace HV := HV.below hb); (try replace HM := HM.below hb); (try replace B1 := IBox.below B1 hb (IBox.lt B1)); replace HBW := Lib.hid (HBW.out.trans (hb.mono HBW.out.size)); clear hb hw; have c5_0 : w1.cell? ⟨_, 0, none⟩ = some (.int .i64 (fieldD v n).v.kind) := B5.cell 0))
      all_goals first
        | (go_roundw
           case rel => exact ⟨k + 1, by omega, by go_num, seven_step HS.out HN7.out HBAD.out, HBW.out⟩
           case measure => simp [intOf]; omega)
        | skip
      have HZ : formedB v = false := by unfold formedB; rw [seven_no HN7.out HBAD.out]; rfl
      go_ret
      exact ⟨ret_bool HZ.symm, HB⟩
    · obtain rfl : k = 7 := by omega
      have hsv : sevenB v = true := seven_all HS.out
      clear hb hk HS
      cases hE : fieldP v ⟨#[101, 118, 101, 110, 116, 115]⟩ <;> cases hI : intsB (fieldD v ⟨#[101, 118, 101, 110, 116, 115]⟩) <;> cases hU : fieldP v ⟨#[117, 115, 101, 114, 115]⟩
      all_goals
        go_wp2_with (first
          | (refine wpl_load_box rfl 30 (.tmp 1) rfl _ rfl _ _ _ B1 Try.underlying30 rfl info_value ?_)
          | (go_at_call 35; (with_reducible refine (afieldB_any _ _ _ HV).mono ?_); rintro e w1 ⟨rfl, hb⟩; replace HB := HB.trans (hb.mono HB.size); (try replace HV := HV.below hb); (try replace HM := HM.below hb); (try replace B1 := IBox.below B1 hb (IBox.lt B1)); (try replace B7 := IBox.below B7 hb (IBox.lt B7)); (try replace B9 := IBox.below B9 hb (IBox.lt B9)); (try replace c9_5 := cell_below hb c9_5); clear hb)
          | (refine wpl_newbox 7 rfl rfl 30 rfl rfl (.tmp 35) rfl _ zeroV _ rfl rfl info_value rfl (jv_one _) ?_; intro w1 hw; have hb := hid_grow hw; have B7 := (hid_alloc hw).1; replace HB := HB.trans (hb.mono HB.size); (try replace HV := HV.below hb); (try replace HM := HM.below hb); (try replace B1 := IBox.below B1 hb (IBox.lt B1)); (try replace B9 := IBox.below B9 hb (IBox.lt B9)); (try replace c9_5 := cell_below hb c9_5); clear hb hw)
          | (refine wpl_wanted rfl ?_; refine wpl_load_box rfl 30 (.tmp 7) rfl _ rfl _ _ _ B7 Try.underlying30 rfl info_value ?_)
          | (go_at_call 71; (with_reducible refine (aints_any _ _ (field_is HV _)).mono ?_); rintro e w1 ⟨rfl, hb⟩; replace HB := HB.trans (hb.mono HB.size); (try replace HV := HV.below hb); (try replace HM := HM.below hb); (try replace B1 := IBox.below B1 hb (IBox.lt B1)); (try replace B7 := IBox.below B7 hb (IBox.lt B7)); (try replace B9 := IBox.below B9 hb (IBox.lt B9)); (try replace c9_5 := cell_below hb c9_5); clear hb)
          | (refine wpl_newbox 9 rfl rfl 30 rfl rfl (.tmp 46) rfl _ zeroV _ rfl rfl info_value rfl (jv_one _) ?_; intro w1 hw; have hb := hid_grow hw; have B9 := (hid_alloc hw).1; replace HB := HB.trans (hb.mono HB.size); (try replace HV := HV.below hb); (try replace HM := HM.below hb); (try replace B1 := IBox.below B1 hb (IBox.lt B1)); (try replace B7 := IBox.below B7 hb (IBox.lt B7)); clear hb hw; have c9_5 : w1.cell? ⟨_, 5, none⟩ = some (.slice (fieldD v ⟨#[117, 115, 101, 114, 115]⟩).v.FA (fieldD v ⟨#[117, 115, 101, 114, 115]⟩).v.Fn (fieldD v ⟨#[117, 115, 101, 114, 115]⟩).v.Fc) := B9.cell 5))
      all_goals first
        | (go_ret
           exact ⟨ret_bool (by unfold formedB; simp_all), HB⟩)
        | skip
      all_goals
        have HU := field_is HV ⟨#[117, 115, 101, 114, 115]⟩
        generalize hu : fieldD v ⟨#[117, 115, 101, 114, 115]⟩ = u at *
        have HUU := Lib.hid hu
        clear hu
        have hFn : u.v.Fn ≤ 9223372036854775807 := by have := (jv_names HU).2.2; unfold reach at this; omega
        go_loopw [53] (fun i wr => ∃ k : Nat, k ≤ u.v.Fn ∧ i = .int .i64 k ∧ Hid (usersTo u k) ∧ Below w1.heap.size w1 wr) (fun i _ => u.v.Fn - (intOf i).toNat)
        case atStart => exact ⟨0, Nat.zero_le _, rfl, fun i hi => absurd hi (by omega), Below.refl _ _⟩
        case round =>
          obtain ⟨k, hk, rfl, HS, hb⟩ := hrel
          have HBW := Lib.hid (HB.trans (hb.mono HB.size))
          have HBQ := Lib.hid hb
          replace HM := HM.below hb
          replace HU := HU.below hb
          replace B9 := IBox.below B9 hb (IBox.lt B9)
          by_cases hlt : k < u.v.Fn
          · obtain ⟨bl, off, n, x, hFA, hfc, hna, hki, hns, hnk⟩ := jv_field2 HU hlt
            obtain ⟨f0, f1, f2, f3, f4, f5, f6⟩ := hfc
            rw [hFA] at *
            have hnb : nameB u k = n := by unfold nameB; rw [hnk]; rfl
            have HNB := Lib.hid hnb
            clear hna hki hFA hnk hnb hb
            cases hub : userB n
            all_goals
              have HUB := Lib.hid hub
              go_wp2_with (go_at_call 39; (with_reducible refine (userB_any _ _ hns (HM.below ((Below.refl _ _).alloc (Nat.le_refl _) _))).mono ?_); rintro e w3 ⟨rfl, hb⟩; replace HBW := Lib.hid ((HBW.out.alloc HBW.out.size _).trans (hb.mono (by simp; exact Nat.le_succ_of_le HBW.out.size))); replace HBQ := Lib.hid ((HBQ.out.alloc HBQ.out.size _).trans (hb.mono (by simp; exact Nat.le_succ_of_le HBQ.out.size))); clear hb)
            · have HZ : formedB v = false := by
                unfold formedB
                rw [HUU.out, decide_eq_false (fun hh => by have := hh k hlt; rw [HNB.out, HUB.out] at this; cases this)]
                simp [hU]
              go_ret
              exact ⟨ret_bool HZ.symm, HBW.out⟩
            · go_roundw
              case rel => exact ⟨k + 1, by omega, by go_num, users_step HS.out (by rw [HNB.out]; exact HUB.out), HBQ.out⟩
              case measure => simp [intOf]; omega
          · obtain rfl : k = u.v.Fn := by omega
            replace HB := HBW.out
            clear hb hk HBW HBQ
            go_wp2_with (first
              | (refine wpl_load_box rfl 30 (.tmp 9) rfl _ rfl _ _ _ B9 Try.underlying30 rfl info_value ?_)
              | (go_at_call 71; (with_reducible refine (aints_any _ _ HU).mono ?_); rintro e w1 ⟨rfl, hb⟩; replace HB := HB.trans (hb.mono HB.size); clear hb))
            go_ret
            exact ⟨ret_bool (by unfold formedB; rw [HUU.out, decide_eq_true HS.out]; simp_all), HB⟩
end Go.Proofs.Ytpmdpfgaafaceaa
