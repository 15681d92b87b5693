/- Layer 16: the document's rules 10 to 13. -/
import Derived.Test.YtpmdpfgaafaceaaAuthS
import Derived.Test.YtpmdpfgaafaceaaAuthR2
namespace Go.Proofs.Ytpmdpfgaafaceaa
open Go.RowKit
set_option linter.unusedVariables false
set_option linter.unusedSimpArgs false

theorem rselect2_any (ex : Ev) (w : World) (HE : IsEv w ex) : Calls Try.prog 53 #[.agg ex.cells] w fun e w' => ∃ A c, e = .returned (.slice A (selL ex).length c) ∧ EntriesAt w' A (selL ex) ∧ Below w.heap.size w w' := rselect_any ex w HE
def toldB (x : Ev) (L : List (ByteArray × ByteArray)) (m : Nat) : Bool := x.hasKey && (L.take m).any (sameE x.ty x.key)
theorem told_zero (x : Ev) (L : List (ByteArray × ByteArray)) : toldB x L 0 = false := by unfold toldB; simp
theorem told_step {x : Ev} {L : List (ByteArray × ByteArray)} {m : Nat} {p : ByteArray × ByteArray} (h : L[m]? = some p) : toldB x L (m + 1) = (toldB x L m || (x.hasKey && ((p.1.toList == x.ty.toList) && (p.2.toList == x.key.toList)))) := by
  unfold toldB
  rw [take_next h, List.any_append]
  have e : sameE x.ty x.key p = ((p.1.toList == x.ty.toList) && (p.2.toList == x.key.toList)) := by
    unfold sameE
    rw [Bool.beq_comm (a := x.ty.toList), Bool.beq_comm (a := x.key.toList)]
  simp only [List.any_cons, List.any_nil, Bool.or_false, e]
  cases x.hasKey <;> simp
theorem told_all (ex x : Ev) : toldB x (selL ex) (selL ex).length = !strayB ex x := by
  unfold toldB strayB mayE
  rw [List.take_of_length_le (Nat.le_refl _)]
  simp
def sameTo (l : List Ev) (k m : Nat) : Prop := ∀ q, q < m → same2 (evAt l k) (evAt l q) = false
theorem sameTo_step {l : List Ev} {k m : Nat} (h : sameTo l k m) (h2 : same2 (evAt l k) (evAt l m) = false) : sameTo l k (m + 1) := fun q hq => by
  rcases Nat.lt_or_ge q m with hlt | hge
  · exact h q hlt
  · obtain rfl : q = m := by omega
    exact h2

set_option maxRecDepth 100000 in
set_option maxHeartbeats 8000000 in
theorem rlists_any (ex : Ev) (l : List Ev) (A : Option Addr) (n c : Nat) (w : World) (HE0 : IsEv w ex) (EV0 : IsEvs w A 0 l) (hn : n = l.length) (hnb : n ≤ 9223372036854775807) :
    Calls Try.prog 26 #[.agg ex.cells, .slice A n c] w fun e w' => e = .returned (.int .i64 (listsS ex l)) ∧ Below w.heap.size w w' := by
  subst hn
  have HB := Below.refl w.heap.size w
  have HE := HE0
  have EV := EV0
  have HNB := Lib.hid hnb
  go_enter Try.func26, Try.ntmps26
  go_wp2_with (refine wpl_box_at rfl 32 (.tmp 0) rfl _ rfl ?_; intro w1 hw; have hb := hid_grow hw; have B2 := (hid_alloc hw).1; replace HB := HB.trans (hb.mono HB.size); replace HE := HE.below hb; replace EV := EV.below hb; clear hb hw)
  go_loopw [5] (fun i wr => ∃ k : Nat, k ≤ l.length ∧ i = .int .i64 k ∧ Hid (DistTo l k) ∧ Below w1.heap.size w1 wr) (fun i _ => l.length - (intOf i).toNat)
  case atStart => exact ⟨0, Nat.zero_le _, rfl, fun i hi => absurd hi (by omega), Below.refl _ _⟩
  case round =>
    obtain ⟨k, hk, rfl, HD, hb⟩ := hrel
    have HBW := Lib.hid hb
    by_cases hlt : k < l.length
    · clear hb
      obtain ⟨wo, rfl⟩ : ∃ wo : World, wo = wr := ⟨_, rfl⟩
      go_wp2
      go_loopw [6] (fun i wr => ∃ m : Nat, m ≤ k ∧ i = .int .i64 m ∧ Hid (sameTo l k m) ∧ Below w1.heap.size w1 wr) (fun i _ => k - (intOf i).toNat)
      case atStart => exact ⟨0, Nat.zero_le _, rfl, fun i hi => absurd hi (by omega), HBW.out⟩
      case round =>
        obtain ⟨m, hm, rfl, HSS, hb⟩ := hrel
        have HBQ := Lib.hid hb
        by_cases hlt2 : m < k
        · obtain ⟨bl, off, x, hA, hx, hfc, _⟩ := ev_get (EV.below hb) hlt
          obtain ⟨bl2, off2, y, hA2, hy, hfd, _⟩ := ev_get (EV.below hb) (Nat.lt_trans hlt2 hlt)
          have hAA := hA.symm.trans hA2
          cases hAA
          subst hA
          have HX := Lib.hid (evAt_some hx)
          have HY := Lib.hid (evAt_some hy)
          have d1 : wr.cell? ⟨bl, off + k * 22 + 1, none⟩ = some (.string x.ty) := hfc 1 _ rfl
          have d4 : wr.cell? ⟨bl, off + k * 22 + 4, none⟩ = some (.bool x.hasKey) := hfc 4 _ rfl
          have d5 : wr.cell? ⟨bl, off + k * 22 + 5, none⟩ = some (.string x.key) := hfc 5 _ rfl
          have f1 : wr.cell? ⟨bl, off + m * 22 + 1, none⟩ = some (.string y.ty) := hfd 1 _ rfl
          have f4 : wr.cell? ⟨bl, off + m * 22 + 4, none⟩ = some (.bool y.hasKey) := hfd 4 _ rfl
          have f5 : wr.cell? ⟨bl, off + m * 22 + 5, none⟩ = some (.string y.key) := hfd 5 _ rfl
          have hbd1 : 0 ≤ (k : Int) ∧ (k : Int) < l.length := by omega
          have hbd2 : 0 ≤ (m : Int) ∧ (m : Int) < l.length := by omega
          clear hx hy hfc hfd hb
          cases hK : x.hasKey
          · have HST := Lib.hid (show same2 (evAt l k) (evAt l m) = false by unfold same2; rw [HX.out, HY.out]; simp [hK])
            go_wp2
            go_quiet (fail)
            generalize hw2 : World.drewN _ nq = w2
            have hb4 := HBQ.out.trans ((below_dr hw2).mono HBQ.out.size)
            clear hw2
            go_wp2
            go_roundw
            case rel => exact ⟨m + 1, by omega, by go_num, sameTo_step HSS.out HST.out, hb4⟩
            case measure => simp [intOf]; omega
          · cases hY : y.hasKey
            · have HST := Lib.hid (show same2 (evAt l k) (evAt l m) = false by unfold same2; rw [HX.out, HY.out]; simp [hK, hY])
              go_wp2
              go_quiet (fail)
              generalize hw2 : World.drewN _ nq = w2
              have hb4 := HBQ.out.trans ((below_dr hw2).mono HBQ.out.size)
              clear hw2
              go_wp2
              go_roundw
              case rel => exact ⟨m + 1, by omega, by go_num, sameTo_step HSS.out HST.out, hb4⟩
              case measure => simp [intOf]; omega
            · cases hT : (x.ty.toList == y.ty.toList)
              · have HST := Lib.hid (show same2 (evAt l k) (evAt l m) = false by unfold same2; rw [HX.out, HY.out]; simp [hK, hY, hT])
                go_wp2
                go_quiet (fail)
                generalize hw2 : World.drewN _ nq = w2
                have hb4 := HBQ.out.trans ((below_dr hw2).mono HBQ.out.size)
                clear hw2
                go_wp2
                go_roundw
                case rel => exact ⟨m + 1, by omega, by go_num, sameTo_step HSS.out HST.out, hb4⟩
                case measure => simp [intOf]; omega
              · cases hS : (x.key.toList == y.key.toList)
                · have HST := Lib.hid (show same2 (evAt l k) (evAt l m) = false by unfold same2; rw [HX.out, HY.out]; simp [hK, hY, hT, hS])
                  go_wp2
                  go_quiet (fail)
                  generalize hw2 : World.drewN _ nq = w2
                  have hb4 := HBQ.out.trans ((below_dr hw2).mono HBQ.out.size)
                  clear hw2
                  go_wp2
                  go_roundw
                  case rel => exact ⟨m + 1, by omega, by go_num, sameTo_step HSS.out HST.out, hb4⟩
                  case measure => simp [intOf]; omega
                · have HST := Lib.hid (show same2 (evAt l k) (evAt l m) = true by unfold same2; rw [HX.out, HY.out]; simp [hK, hY, hT, hS])
                  go_wp2
                  go_quiet (fail)
                  generalize hw2 : World.drewN _ nq = w2
                  have hb4 := HBQ.out.trans ((below_dr hw2).mono HBQ.out.size)
                  clear hw2
                  go_wp2
                  go_ret
                  exact ⟨ret_int (by unfold listsS; rw [if_pos (dist_no hlt hlt2 HST.out)]), HB.trans (hb4.mono HB.size)⟩
        · obtain rfl : m = k := by omega
          clear hb
          go_wp2
          go_roundw
          case rel => exact ⟨m + 1, by omega, by go_num, dist_step HD.out HSS.out, HBQ.out⟩
          case measure => simp [intOf]; omega
    · obtain rfl : k = l.length := by omega
      have h10 := Lib.hid (dist_yes HD.out)
      replace HB := HB.trans (hb.mono HB.size)
      replace HE := HE.below hb
      replace EV := EV.below hb
      replace B2 := IBox.below B2 hb (IBox.lt B2)
      clear hb HBW HD hk hlt
      go_wp2_with (first
        | (refine wpl_load_box rfl 32 (.tmp 2) rfl _ rfl _ _ _ B2 Try.underlying32 rfl info_event ?_)
        | (go_at_call 53; (with_reducible refine (rselect2_any _ _ HE).mono ?_); rintro e wn ⟨AN, cN, rfl, hEE, hb⟩; replace HB := HB.trans (hb.mono HB.size); replace HE := HE.below hb; replace EV := EV.below hb; replace B2 := IBox.below B2 hb (IBox.lt B2); clear hb))
      have hL := selL_small ex
      go_loopw [8] (fun i wr => ∃ k : Nat, k ≤ l.length ∧ i = .int .i64 k ∧ Hid (noneV (strayB ex) l k) ∧ Below wn.heap.size wn wr) (fun i _ => l.length - (intOf i).toNat)
      case atStart => exact ⟨0, Nat.zero_le _, rfl, noneV_zero _ _, Below.refl _ _⟩
      case round =>
        obtain ⟨k, hk, rfl, HS, hb⟩ := hrel
        have HBW := Lib.hid hb
        by_cases hlt : k < l.length
        · obtain ⟨bl, off, x, hA, hx, hfc, hix⟩ := ev_get (EV.below hb) hlt
          have HX := Lib.hid hx
          have HFC := Lib.hid hfc
          have HEE := Lib.hid (hEE.below hb)
          clear hb hx hfc hix
          obtain ⟨wo, rfl⟩ : ∃ wo : World, wo = wr := ⟨_, rfl⟩
          subst hA
          go_wp2
          go_loopw [9, 10] (fun v i wr => ∃ m : Nat, m ≤ (selL ex).length ∧ i = .int .i64 m ∧ v = .bool (toldB x (selL ex) m) ∧ Below wo.heap.size wo wr) (fun _ i _ => (selL ex).length - (intOf i).toNat)
          case atStart => exact ⟨0, Nat.zero_le _, rfl, by rw [told_zero], Below.refl _ _⟩
          case round =>
            obtain ⟨m, hm, rfl, rfl, hb⟩ := hrel
            have HBQ := Lib.hid hb
            by_cases hlt2 : m < (selL ex).length
            · obtain ⟨b2, off2, p, hA2, hp, g0, g1, g2⟩ := entries_at (HEE.out.below hb) hlt2
              subst hA2
              have HP := Lib.hid hp
              have hfc := range_below hb HFC.out
              have d1 : wr.cell? ⟨bl, off + k * 22 + 1, none⟩ = some (.string x.ty) := hfc 1 _ rfl
              have d4 : wr.cell? ⟨bl, off + k * 22 + 4, none⟩ = some (.bool x.hasKey) := hfc 4 _ rfl
              have d5 : wr.cell? ⟨bl, off + k * 22 + 5, none⟩ = some (.string x.key) := hfc 5 _ rfl
              have hbd1 : 0 ≤ (k : Int) ∧ (k : Int) < l.length := by omega
              have hbd2 : 0 ≤ (m : Int) ∧ (m : Int) < (selL ex).length := by omega
              clear hp hfc hb
              cases hT0 : toldB x (selL ex) m
              · cases hK : x.hasKey
                · have HT := Lib.hid (show toldB x (selL ex) (m + 1) = false by rw [told_step HP.out]; simp [hT0, hK])
                  go_wp2
                  go_quiet (fail)
                  generalize hw2 : World.drewN _ nq = w2
                  have hb4 := HBQ.out.trans ((below_dr hw2).mono HBQ.out.size)
                  clear hw2
                  go_wp2
                  go_roundw
                  case rel => exact ⟨m + 1, by omega, by go_num, by rw [HT.out], hb4⟩
                  case measure => simp [intOf]; omega
                · cases h1 : (p.1.toList == x.ty.toList)
                  · have HT := Lib.hid (show toldB x (selL ex) (m + 1) = false by rw [told_step HP.out]; simp [hT0, hK, h1])
                    go_wp2
                    go_quiet (fail)
                    generalize hw2 : World.drewN _ nq = w2
                    have hb4 := HBQ.out.trans ((below_dr hw2).mono HBQ.out.size)
                    clear hw2
                    go_wp2
                    go_roundw
                    case rel => exact ⟨m + 1, by omega, by go_num, by rw [HT.out], hb4⟩
                    case measure => simp [intOf]; omega
                  · cases h2 : (p.2.toList == x.key.toList)
                    · have HT := Lib.hid (show toldB x (selL ex) (m + 1) = false by rw [told_step HP.out]; simp [hT0, hK, h1, h2])
                      go_wp2
                      go_quiet (fail)
                      generalize hw2 : World.drewN _ nq = w2
                      have hb4 := HBQ.out.trans ((below_dr hw2).mono HBQ.out.size)
                      clear hw2
                      go_wp2
                      go_roundw
                      case rel => exact ⟨m + 1, by omega, by go_num, by rw [HT.out], hb4⟩
                      case measure => simp [intOf]; omega
                    · have HT := Lib.hid (show toldB x (selL ex) (m + 1) = true by rw [told_step HP.out]; simp [hT0, hK, h1, h2])
                      go_wp2
                      go_quiet (fail)
                      generalize hw2 : World.drewN _ nq = w2
                      have hb4 := HBQ.out.trans ((below_dr hw2).mono HBQ.out.size)
                      clear hw2
                      go_wp2
                      go_roundw
                      case rel => exact ⟨m + 1, by omega, by go_num, by rw [HT.out], hb4⟩
                      case measure => simp [intOf]; omega
              · have HT := Lib.hid (show toldB x (selL ex) (m + 1) = true by rw [told_step HP.out]; simp [hT0])
                go_wp2
                go_quiet (fail)
                generalize hw2 : World.drewN _ nq = w2
                have hb4 := HBQ.out.trans ((below_dr hw2).mono HBQ.out.size)
                clear hw2
                go_wp2
                go_roundw
                case rel => exact ⟨m + 1, by omega, by go_num, by rw [HT.out], hb4⟩
                case measure => simp [intOf]; omega
            · obtain rfl : m = (selL ex).length := by omega
              have hfin := told_all ex x
              clear hb
              cases hst : strayB ex x
              · rw [hst] at hfin
                rw [hfin]
                have HST := Lib.hid hst
                clear hst hfin
                go_wp2
                go_roundw
                case rel => exact ⟨k + 1, by omega, by go_num, noneV_step HS.out HX.out HST.out, HBW.out.trans (HBQ.out.mono HBW.out.size)⟩
                case measure => simp [intOf]; omega
              · rw [hst] at hfin
                rw [hfin]
                have HZ : c11 ex l = true := anyV_hit HX.out hst
                clear hst hfin
                go_wp2
                go_ret
                exact ⟨ret_int (by unfold listsS; rw [if_neg (by rw [h10.out]; decide), if_pos HZ]), HB.trans ((HBW.out.trans (HBQ.out.mono HBW.out.size)).mono HB.size)⟩
        · obtain rfl : k = l.length := by omega
          have h11 := Lib.hid (show c11 ex l = false from noneV_all HS.out)
          replace HB := HB.trans (hb.mono HB.size)
          replace HE := HE.below hb
          replace EV := EV.below hb
          replace B2 := IBox.below B2 hb (IBox.lt B2)
          have c2_2 : wr.cell? ⟨_, 2, none⟩ = some (.string ex.room) := B2.cell 2
          clear hb HBW HS hk hlt hEE hL
          obtain ⟨wn, hwn⟩ : ∃ w9 : World, w9 = wr := ⟨wr, rfl⟩
          subst hwn
          go_wp2
          go_loopw [11] (fun i wr => ∃ k : Nat, k ≤ l.length ∧ i = .int .i64 k ∧ Hid (noneV (otherB ex) l k) ∧ Below wn.heap.size wn wr) (fun i _ => l.length - (intOf i).toNat)
          case atStart => exact ⟨0, Nat.zero_le _, rfl, noneV_zero _ _, Below.refl _ _⟩
          case round =>
            obtain ⟨k, hk, rfl, HS, hb⟩ := hrel
            have HBW := Lib.hid hb
            by_cases hlt : k < l.length
            · obtain ⟨bl, off, x, hA, hx, hfc, hix⟩ := ev_get (EV.below hb) hlt
              subst hA
              have HX := Lib.hid hx
              have d2 : wr.cell? ⟨bl, off + k * 22 + 2, none⟩ = some (.string x.room) := hfc 2 _ rfl
              replace c2_2 := cell_below hb c2_2
              have hbd : 0 ≤ (k : Int) ∧ (k : Int) < l.length := by omega
              have e3 : (x.room.toList != ex.room.toList) = !(x.room.toList == ex.room.toList) := rfl
              clear hb hx hfc hix
              cases hR : (x.room.toList == ex.room.toList)
              all_goals rw [hR] at e3
              · have HST := Lib.hid (show otherB ex x = true by unfold otherB; rw [hR]; rfl)
                go_wp2
                go_quiet (fail)
                generalize hw2 : World.drewN _ nq = w2
                have hb4 := HBW.out.trans ((below_dr hw2).mono HBW.out.size)
                clear hw2
                go_wp2
                have HZ : c12 ex l = true := anyV_hit HX.out HST.out
                go_ret
                exact ⟨ret_int (by unfold listsS; rw [if_neg (by rw [h10.out]; decide), if_neg (by rw [h11.out]; decide), if_pos HZ]), HB.trans (hb4.mono HB.size)⟩
              · have HST := Lib.hid (show otherB ex x = false by unfold otherB; rw [hR]; rfl)
                go_wp2
                go_quiet (fail)
                generalize hw2 : World.drewN _ nq = w2
                have hb4 := HBW.out.trans ((below_dr hw2).mono HBW.out.size)
                clear hw2
                go_wp2
                go_roundw
                case rel => exact ⟨k + 1, by omega, by go_num, noneV_step HS.out HX.out HST.out, hb4⟩
                case measure => simp [intOf]; omega
            · obtain rfl : k = l.length := by omega
              have h12 := Lib.hid (show c12 ex l = false from noneV_all HS.out)
              replace HB := HB.trans (hb.mono HB.size)
              replace HE := HE.below hb
              replace EV := EV.below hb
              replace B2 := IBox.below B2 hb (IBox.lt B2)
              clear hb HBW HS hk hlt c2_2
              cases hS : standsB l ⟨#[109, 46, 114, 111, 111, 109, 46, 99, 114, 101, 97, 116, 101]⟩ ⟨#[]⟩
              all_goals
                have HSB := Lib.hid hS
                go_wp2_with (first
                  | (go_at_call 11; (with_reducible refine (standsB_any l _ _ _ _ _ _ EV rfl HNB.out).mono ?_); rintro e w3 ⟨rfl, hb⟩; replace HB := HB.trans (hb.mono HB.size); clear hb)
                  | (refine wpl_newbox 12 rfl rfl 32 rfl rfl (.tmp 130) rfl _ zeroE _ rfl rfl info_event rfl (ev_one _) ?_; intro w2 hw; have hb := hid_grow hw; replace HB := HB.trans (hb.mono HB.size); clear hb hw))
                go_ret
                exact ⟨ret_int (by unfold listsS; rw [if_neg (by rw [h10.out]; decide), if_neg (by rw [h11.out]; decide), if_neg (by rw [h12.out]; decide), HSB.out]; rfl), HB⟩
end Go.Proofs.Ytpmdpfgaafaceaa
