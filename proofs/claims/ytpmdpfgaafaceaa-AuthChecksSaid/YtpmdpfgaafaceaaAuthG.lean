/- Layer 16: joining a room. -/
import Derived.Test.YtpmdpfgaafaceaaAuthF
namespace Go.Proofs.Ytpmdpfgaafaceaa
open Go.RowKit Go.PlainAid
set_option linter.unusedVariables false

def firstPrev (ex : Ev) : ByteArray := ex.prev.headD ⟨#[]⟩
/-- Is it the first one behind the room's first event? -/
def firstJoin (l : List Ev) (ex : Ev) : Bool := decide (ex.Pn = 1) && ((firstPrev ex).toList == (standsD l ⟨#[109, 46, 114, 111, 111, 109, 46, 99, 114, 101, 97, 116, 101]⟩ ⟨#[]⟩).id.toList) && (ex.key.toList == (standsD l ⟨#[109, 46, 114, 111, 111, 109, 46, 99, 114, 101, 97, 116, 101]⟩ ⟨#[]⟩).sender.toList)
def joinS (l : List Ev) (ex : Ev) : Int :=
  if (ex.sender.toList == ex.key.toList) = false then 21
  else if firstJoin l ex = true then 0
  else if ((memberS l ex.key).toList == [98, 97, 110]) = true then 22
  else if ((ruleS l).toList == [105, 110, 118, 105, 116, 101]) = true then
    (if ((memberS l ex.key).toList == [105, 110, 118, 105, 116, 101]) = true ∨ ((memberS l ex.key).toList == [106, 111, 105, 110]) = true then 0 else 23)
  else if ((ruleS l).toList == [112, 117, 98, 108, 105, 99]) = true then 0 else 23

theorem below_drawn {w w' : World} {n : Nat} (h : w.drewN n = w') : Below w.heap.size w w' := h ▸ ⟨rfl, rfl, rfl, Nat.le_refl _, fun _ _ => rfl⟩
theorem first_cell {w : World} {ex : Ev} (h : IsEv w ex) (hp : ex.Pn = 1) : ∃ b off, ex.PA = some ⟨b, off, none⟩ ∧ w.cell? ⟨b, off, none⟩ = some (.string (firstPrev ex)) := by
  have hl := h.prev
  rw [hp] at hl
  obtain ⟨p, hpp⟩ : ∃ p, ex.prev = [p] := by
    match hx : ex.prev, hl with
    | [p], _ => exact ⟨p, rfl⟩
    | [], hl => simp at hl
    | _ :: _ :: _, hl => simp at hl
  have hn := h.prevs
  have hg := hn.get (j := 0) (n := p) (by rw [hpp]; rfl)
  obtain ⟨⟨b, off, e, hc⟩, _⟩ := hg
  refine ⟨b, off, e, ?_⟩
  unfold firstPrev
  rw [hpp]
  simpa using hc

set_option maxRecDepth 100000 in
set_option maxHeartbeats 4000000 in
theorem join_any (l : List Ev) (A : Option Addr) (n c : Nat) (ex : Ev) (w : World) (HE : IsEv w ex) (EV : IsEvs w A 0 l) (hn : n = l.length) (hnb : n ≤ 9223372036854775807) :
    Calls Try.prog 41 #[.slice A n c, .agg ex.cells] w fun e w' => e = .returned (.int .i64 (joinS l ex)) ∧ Below w.heap.size w w' := by
  have HN := Lib.hid hn
  clear hn
  have HB := Below.refl w.heap.size w
  have hfj : firstJoin l ex = (decide (ex.Pn = 1) && ((firstPrev ex).toList == (standsD l ⟨#[109, 46, 114, 111, 111, 109, 46, 99, 114, 101, 97, 116, 101]⟩ ⟨#[]⟩).id.toList) && (ex.key.toList == (standsD l ⟨#[109, 46, 114, 111, 111, 109, 46, 99, 114, 101, 97, 116, 101]⟩ ⟨#[]⟩).sender.toList)) := rfl
  cases hT0 : (ex.sender.toList == ex.key.toList)
  · have hT0' : (ex.sender.toList != ex.key.toList) = !(ex.sender.toList == ex.key.toList) := rfl
    rw [hT0] at hT0'
    have HT0 := Lib.hid hT0
    clear hfj
    go_enter Try.func41, Try.ntmps41
    go_wp2_with (first
          | (refine wpl_box_at rfl 32 (.tmp 1) rfl _ rfl ?_; intro w1 hw; have hb := hid_grow hw; have B3 := (hid_alloc hw).1; replace HB := HB.trans (hb.mono HB.size); (try replace EV := EV.below hb); (try replace HE := HE.below hb); (try replace B5 := IBox.below B5 hb (IBox.lt B5)); (try replace c5_0 := cell_below hb c5_0); (try replace c5_3 := cell_below hb c5_3); (try replace hc0 := cell_below hb hc0); clear hb hw; have c3_3 : w1.cell? ⟨_, 3, none⟩ = some (.string ex.sender) := B3.cell 3; have c3_5 : w1.cell? ⟨_, 5, none⟩ = some (.string ex.key) := B3.cell 5; have c3_6 : w1.cell? ⟨_, 6, none⟩ = some (.slice ex.PA ex.Pn ex.Pc) := B3.cell 6)
          | (go_at_call 34; (with_reducible refine (findB_any l A n c _ _ _ EV HN.out hnb).mono ?_); rintro e w1 ⟨rfl, hb⟩; replace HB := HB.trans (hb.mono HB.size); (try replace EV := EV.below hb); (try replace HE := HE.below hb); (try replace B3 := IBox.below B3 hb (IBox.lt B3)); (try replace B5 := IBox.below B5 hb (IBox.lt B5)); (try replace c3_5 := cell_below hb c3_5); (try replace c3_3 := cell_below hb c3_3); (try replace c3_6 := cell_below hb c3_6); (try replace c5_0 := cell_below hb c5_0); (try replace c5_3 := cell_below hb c5_3); (try replace hc0 := cell_below hb hc0); clear hb)
          | (refine wpl_newbox 5 rfl rfl 32 rfl rfl (.tmp 11) rfl _ zeroE _ rfl rfl info_event rfl (ev_one _) ?_; intro w1 hw; have hb := hid_grow hw; have B5 := (hid_alloc hw).1; replace HB := HB.trans (hb.mono HB.size); (try replace EV := EV.below hb); (try replace HE := HE.below hb); (try replace B3 := IBox.below B3 hb (IBox.lt B3)); (try replace c3_5 := cell_below hb c3_5); (try replace c3_3 := cell_below hb c3_3); (try replace c3_6 := cell_below hb c3_6); (try replace hc0 := cell_below hb hc0); clear hb hw; have c5_0 : w1.cell? ⟨_, 0, none⟩ = some (.string (standsD l ⟨#[109, 46, 114, 111, 111, 109, 46, 99, 114, 101, 97, 116, 101]⟩ ⟨#[]⟩).id) := B5.cell 0; have c5_3 : w1.cell? ⟨_, 3, none⟩ = some (.string (standsD l ⟨#[109, 46, 114, 111, 111, 109, 46, 99, 114, 101, 97, 116, 101]⟩ ⟨#[]⟩).sender) := B5.cell 3)
          | (go_at_call 44; (with_reducible refine (amember_any l A n c _ _ EV HN.out hnb).mono ?_); rintro e w1 ⟨rfl, hb⟩; replace HB := HB.trans (hb.mono HB.size); (try replace EV := EV.below hb); (try replace HE := HE.below hb); (try replace B3 := IBox.below B3 hb (IBox.lt B3)); (try replace B5 := IBox.below B5 hb (IBox.lt B5)); (try replace c3_5 := cell_below hb c3_5); (try replace c3_3 := cell_below hb c3_3); (try replace c3_6 := cell_below hb c3_6); (try replace c5_0 := cell_below hb c5_0); (try replace c5_3 := cell_below hb c5_3); (try replace hc0 := cell_below hb hc0); clear hb)
          | (go_at_call 68; (with_reducible refine (rule_any l A n c _ EV HN.out hnb).mono ?_); rintro e w1 ⟨rfl, hb⟩; replace HB := HB.trans (hb.mono HB.size); (try replace EV := EV.below hb); (try replace HE := HE.below hb); (try replace B3 := IBox.below B3 hb (IBox.lt B3)); (try replace B5 := IBox.below B5 hb (IBox.lt B5)); (try replace c3_5 := cell_below hb c3_5); (try replace c3_3 := cell_below hb c3_3); (try replace c3_6 := cell_below hb c3_6); (try replace c5_0 := cell_below hb c5_0); (try replace c5_3 := cell_below hb c5_3); (try replace hc0 := cell_below hb hc0); clear hb))
    all_goals
      go_ret
      exact ⟨ret_int (by unfold joinS; rw [HT0.out]; rfl), HB⟩
  · by_cases hp : ex.Pn = 1
    · rw [decide_eq_true hp] at hfj
      obtain ⟨b, off, hPA, hc0⟩ := first_cell HE hp
      cases hq1 : ((firstPrev ex).toList == (standsD l ⟨#[109, 46, 114, 111, 111, 109, 46, 99, 114, 101, 97, 116, 101]⟩ ⟨#[]⟩).id.toList) <;> cases hq2 : (ex.key.toList == (standsD l ⟨#[109, 46, 114, 111, 111, 109, 46, 99, 114, 101, 97, 116, 101]⟩ ⟨#[]⟩).sender.toList)
      all_goals
        rw [hq1, hq2] at hfj
        have HF := Lib.hid hfj
        have HT0 := Lib.hid hT0
        have hT0' : (ex.sender.toList != ex.key.toList) = !(ex.sender.toList == ex.key.toList) := rfl
        rw [hT0] at hT0'
        clear hfj
        go_enter Try.func41, Try.ntmps41
        go_wp2_with (first
          | (refine wpl_box_at rfl 32 (.tmp 1) rfl _ rfl ?_; intro w1 hw; have hb := hid_grow hw; have B3 := (hid_alloc hw).1; replace HB := HB.trans (hb.mono HB.size); (try replace EV := EV.below hb); (try replace HE := HE.below hb); (try replace B5 := IBox.below B5 hb (IBox.lt B5)); (try replace c5_0 := cell_below hb c5_0); (try replace c5_3 := cell_below hb c5_3); (try replace hc0 := cell_below hb hc0); clear hb hw; have c3_3 : w1.cell? ⟨_, 3, none⟩ = some (.string ex.sender) := B3.cell 3; have c3_5 : w1.cell? ⟨_, 5, none⟩ = some (.string ex.key) := B3.cell 5; have c3_6 : w1.cell? ⟨_, 6, none⟩ = some (.slice ex.PA ex.Pn ex.Pc) := B3.cell 6)
          | (go_at_call 34; (with_reducible refine (findB_any l A n c _ _ _ EV HN.out hnb).mono ?_); rintro e w1 ⟨rfl, hb⟩; replace HB := HB.trans (hb.mono HB.size); (try replace EV := EV.below hb); (try replace HE := HE.below hb); (try replace B3 := IBox.below B3 hb (IBox.lt B3)); (try replace B5 := IBox.below B5 hb (IBox.lt B5)); (try replace c3_5 := cell_below hb c3_5); (try replace c3_3 := cell_below hb c3_3); (try replace c3_6 := cell_below hb c3_6); (try replace c5_0 := cell_below hb c5_0); (try replace c5_3 := cell_below hb c5_3); (try replace hc0 := cell_below hb hc0); clear hb)
          | (refine wpl_newbox 5 rfl rfl 32 rfl rfl (.tmp 11) rfl _ zeroE _ rfl rfl info_event rfl (ev_one _) ?_; intro w1 hw; have hb := hid_grow hw; have B5 := (hid_alloc hw).1; replace HB := HB.trans (hb.mono HB.size); (try replace EV := EV.below hb); (try replace HE := HE.below hb); (try replace B3 := IBox.below B3 hb (IBox.lt B3)); (try replace c3_5 := cell_below hb c3_5); (try replace c3_3 := cell_below hb c3_3); (try replace c3_6 := cell_below hb c3_6); (try replace hc0 := cell_below hb hc0); clear hb hw; have c5_0 : w1.cell? ⟨_, 0, none⟩ = some (.string (standsD l ⟨#[109, 46, 114, 111, 111, 109, 46, 99, 114, 101, 97, 116, 101]⟩ ⟨#[]⟩).id) := B5.cell 0; have c5_3 : w1.cell? ⟨_, 3, none⟩ = some (.string (standsD l ⟨#[109, 46, 114, 111, 111, 109, 46, 99, 114, 101, 97, 116, 101]⟩ ⟨#[]⟩).sender) := B5.cell 3)
          | (go_at_call 44; (with_reducible refine (amember_any l A n c _ _ EV HN.out hnb).mono ?_); rintro e w1 ⟨rfl, hb⟩; replace HB := HB.trans (hb.mono HB.size); (try replace EV := EV.below hb); (try replace HE := HE.below hb); (try replace B3 := IBox.below B3 hb (IBox.lt B3)); (try replace B5 := IBox.below B5 hb (IBox.lt B5)); (try replace c3_5 := cell_below hb c3_5); (try replace c3_3 := cell_below hb c3_3); (try replace c3_6 := cell_below hb c3_6); (try replace c5_0 := cell_below hb c5_0); (try replace c5_3 := cell_below hb c5_3); (try replace hc0 := cell_below hb hc0); clear hb)
          | (go_at_call 68; (with_reducible refine (rule_any l A n c _ EV HN.out hnb).mono ?_); rintro e w1 ⟨rfl, hb⟩; replace HB := HB.trans (hb.mono HB.size); (try replace EV := EV.below hb); (try replace HE := HE.below hb); (try replace B3 := IBox.below B3 hb (IBox.lt B3)); (try replace B5 := IBox.below B5 hb (IBox.lt B5)); (try replace c3_5 := cell_below hb c3_5); (try replace c3_3 := cell_below hb c3_3); (try replace c3_6 := cell_below hb c3_6); (try replace c5_0 := cell_below hb c5_0); (try replace c5_3 := cell_below hb c5_3); (try replace hc0 := cell_below hb hc0); clear hb))
        go_quiet (fail)
        generalize hw2 : World.drewN _ nq = w2
        have hb := below_drawn hw2
        replace HB := HB.trans (hb.mono HB.size)
        (try replace EV := EV.below hb)
        (try replace HE := HE.below hb)
        (try replace B3 := IBox.below B3 hb (IBox.lt B3))
        (try replace B5 := IBox.below B5 hb (IBox.lt B5))
        (try replace c3_5 := cell_below hb c3_5)
        (try replace c3_3 := cell_below hb c3_3)
        (try replace c3_6 := cell_below hb c3_6)
        (try replace c5_0 := cell_below hb c5_0)
        (try replace c5_3 := cell_below hb c5_3)
        (try replace hc0 := cell_below hb hc0)
        clear hb hw2
        go_wp2_with (first
          | (refine wpl_box_at rfl 32 (.tmp 1) rfl _ rfl ?_; intro w1 hw; have hb := hid_grow hw; have B3 := (hid_alloc hw).1; replace HB := HB.trans (hb.mono HB.size); (try replace EV := EV.below hb); (try replace HE := HE.below hb); (try replace B5 := IBox.below B5 hb (IBox.lt B5)); (try replace c5_0 := cell_below hb c5_0); (try replace c5_3 := cell_below hb c5_3); (try replace hc0 := cell_below hb hc0); clear hb hw; have c3_3 : w1.cell? ⟨_, 3, none⟩ = some (.string ex.sender) := B3.cell 3; have c3_5 : w1.cell? ⟨_, 5, none⟩ = some (.string ex.key) := B3.cell 5; have c3_6 : w1.cell? ⟨_, 6, none⟩ = some (.slice ex.PA ex.Pn ex.Pc) := B3.cell 6)
          | (go_at_call 34; (with_reducible refine (findB_any l A n c _ _ _ EV HN.out hnb).mono ?_); rintro e w1 ⟨rfl, hb⟩; replace HB := HB.trans (hb.mono HB.size); (try replace EV := EV.below hb); (try replace HE := HE.below hb); (try replace B3 := IBox.below B3 hb (IBox.lt B3)); (try replace B5 := IBox.below B5 hb (IBox.lt B5)); (try replace c3_5 := cell_below hb c3_5); (try replace c3_3 := cell_below hb c3_3); (try replace c3_6 := cell_below hb c3_6); (try replace c5_0 := cell_below hb c5_0); (try replace c5_3 := cell_below hb c5_3); (try replace hc0 := cell_below hb hc0); clear hb)
          | (refine wpl_newbox 5 rfl rfl 32 rfl rfl (.tmp 11) rfl _ zeroE _ rfl rfl info_event rfl (ev_one _) ?_; intro w1 hw; have hb := hid_grow hw; have B5 := (hid_alloc hw).1; replace HB := HB.trans (hb.mono HB.size); (try replace EV := EV.below hb); (try replace HE := HE.below hb); (try replace B3 := IBox.below B3 hb (IBox.lt B3)); (try replace c3_5 := cell_below hb c3_5); (try replace c3_3 := cell_below hb c3_3); (try replace c3_6 := cell_below hb c3_6); (try replace hc0 := cell_below hb hc0); clear hb hw; have c5_0 : w1.cell? ⟨_, 0, none⟩ = some (.string (standsD l ⟨#[109, 46, 114, 111, 111, 109, 46, 99, 114, 101, 97, 116, 101]⟩ ⟨#[]⟩).id) := B5.cell 0; have c5_3 : w1.cell? ⟨_, 3, none⟩ = some (.string (standsD l ⟨#[109, 46, 114, 111, 111, 109, 46, 99, 114, 101, 97, 116, 101]⟩ ⟨#[]⟩).sender) := B5.cell 3)
          | (go_at_call 44; (with_reducible refine (amember_any l A n c _ _ EV HN.out hnb).mono ?_); rintro e w1 ⟨rfl, hb⟩; replace HB := HB.trans (hb.mono HB.size); (try replace EV := EV.below hb); (try replace HE := HE.below hb); (try replace B3 := IBox.below B3 hb (IBox.lt B3)); (try replace B5 := IBox.below B5 hb (IBox.lt B5)); (try replace c3_5 := cell_below hb c3_5); (try replace c3_3 := cell_below hb c3_3); (try replace c3_6 := cell_below hb c3_6); (try replace c5_0 := cell_below hb c5_0); (try replace c5_3 := cell_below hb c5_3); (try replace hc0 := cell_below hb hc0); clear hb)
          | (go_at_call 68; (with_reducible refine (rule_any l A n c _ EV HN.out hnb).mono ?_); rintro e w1 ⟨rfl, hb⟩; replace HB := HB.trans (hb.mono HB.size); (try replace EV := EV.below hb); (try replace HE := HE.below hb); (try replace B3 := IBox.below B3 hb (IBox.lt B3)); (try replace B5 := IBox.below B5 hb (IBox.lt B5)); (try replace c3_5 := cell_below hb c3_5); (try replace c3_3 := cell_below hb c3_3); (try replace c3_6 := cell_below hb c3_6); (try replace c5_0 := cell_below hb c5_0); (try replace c5_3 := cell_below hb c5_3); (try replace hc0 := cell_below hb hc0); clear hb))
        all_goals
          go_ret
          exact ⟨ret_int (by unfold joinS; rw [HF.out, HT0.out]; first | rfl | (simp_all; done)), HB⟩
    · rw [decide_eq_false hp, Bool.false_and, Bool.false_and] at hfj
      have HF := Lib.hid hfj
      have HT0 := Lib.hid hT0
      have hT0' : (ex.sender.toList != ex.key.toList) = !(ex.sender.toList == ex.key.toList) := rfl
      rw [hT0] at hT0'
      have hpn : ((ex.Pn : Int) == 1) = false := beq_eq_false_iff_ne.2 (by omega)
      clear hfj hp
      go_enter Try.func41, Try.ntmps41
      go_wp2_with (first
          | (refine wpl_box_at rfl 32 (.tmp 1) rfl _ rfl ?_; intro w1 hw; have hb := hid_grow hw; have B3 := (hid_alloc hw).1; replace HB := HB.trans (hb.mono HB.size); (try replace EV := EV.below hb); (try replace HE := HE.below hb); (try replace B5 := IBox.below B5 hb (IBox.lt B5)); (try replace c5_0 := cell_below hb c5_0); (try replace c5_3 := cell_below hb c5_3); (try replace hc0 := cell_below hb hc0); clear hb hw; have c3_3 : w1.cell? ⟨_, 3, none⟩ = some (.string ex.sender) := B3.cell 3; have c3_5 : w1.cell? ⟨_, 5, none⟩ = some (.string ex.key) := B3.cell 5; have c3_6 : w1.cell? ⟨_, 6, none⟩ = some (.slice ex.PA ex.Pn ex.Pc) := B3.cell 6)
          | (go_at_call 34; (with_reducible refine (findB_any l A n c _ _ _ EV HN.out hnb).mono ?_); rintro e w1 ⟨rfl, hb⟩; replace HB := HB.trans (hb.mono HB.size); (try replace EV := EV.below hb); (try replace HE := HE.below hb); (try replace B3 := IBox.below B3 hb (IBox.lt B3)); (try replace B5 := IBox.below B5 hb (IBox.lt B5)); (try replace c3_5 := cell_below hb c3_5); (try replace c3_3 := cell_below hb c3_3); (try replace c3_6 := cell_below hb c3_6); (try replace c5_0 := cell_below hb c5_0); (try replace c5_3 := cell_below hb c5_3); (try replace hc0 := cell_below hb hc0); clear hb)
          | (refine wpl_newbox 5 rfl rfl 32 rfl rfl (.tmp 11) rfl _ zeroE _ rfl rfl info_event rfl (ev_one _) ?_; intro w1 hw; have hb := hid_grow hw; have B5 := (hid_alloc hw).1; replace HB := HB.trans (hb.mono HB.size); (try replace EV := EV.below hb); (try replace HE := HE.below hb); (try replace B3 := IBox.below B3 hb (IBox.lt B3)); (try replace c3_5 := cell_below hb c3_5); (try replace c3_3 := cell_below hb c3_3); (try replace c3_6 := cell_below hb c3_6); (try replace hc0 := cell_below hb hc0); clear hb hw; have c5_0 : w1.cell? ⟨_, 0, none⟩ = some (.string (standsD l ⟨#[109, 46, 114, 111, 111, 109, 46, 99, 114, 101, 97, 116, 101]⟩ ⟨#[]⟩).id) := B5.cell 0; have c5_3 : w1.cell? ⟨_, 3, none⟩ = some (.string (standsD l ⟨#[109, 46, 114, 111, 111, 109, 46, 99, 114, 101, 97, 116, 101]⟩ ⟨#[]⟩).sender) := B5.cell 3)
          | (go_at_call 44; (with_reducible refine (amember_any l A n c _ _ EV HN.out hnb).mono ?_); rintro e w1 ⟨rfl, hb⟩; replace HB := HB.trans (hb.mono HB.size); (try replace EV := EV.below hb); (try replace HE := HE.below hb); (try replace B3 := IBox.below B3 hb (IBox.lt B3)); (try replace B5 := IBox.below B5 hb (IBox.lt B5)); (try replace c3_5 := cell_below hb c3_5); (try replace c3_3 := cell_below hb c3_3); (try replace c3_6 := cell_below hb c3_6); (try replace c5_0 := cell_below hb c5_0); (try replace c5_3 := cell_below hb c5_3); (try replace hc0 := cell_below hb hc0); clear hb)
          | (go_at_call 68; (with_reducible refine (rule_any l A n c _ EV HN.out hnb).mono ?_); rintro e w1 ⟨rfl, hb⟩; replace HB := HB.trans (hb.mono HB.size); (try replace EV := EV.below hb); (try replace HE := HE.below hb); (try replace B3 := IBox.below B3 hb (IBox.lt B3)); (try replace B5 := IBox.below B5 hb (IBox.lt B5)); (try replace c3_5 := cell_below hb c3_5); (try replace c3_3 := cell_below hb c3_3); (try replace c3_6 := cell_below hb c3_6); (try replace c5_0 := cell_below hb c5_0); (try replace c5_3 := cell_below hb c5_3); (try replace hc0 := cell_below hb hc0); clear hb))
      go_quiet (fail)
      generalize hw2 : World.drewN _ nq = w2
      have hb := below_drawn hw2
      replace HB := HB.trans (hb.mono HB.size)
      (try replace EV := EV.below hb)
      (try replace HE := HE.below hb)
      (try replace B3 := IBox.below B3 hb (IBox.lt B3))
      (try replace B5 := IBox.below B5 hb (IBox.lt B5))
      (try replace c3_5 := cell_below hb c3_5)
      (try replace c3_3 := cell_below hb c3_3)
      (try replace c3_6 := cell_below hb c3_6)
      (try replace c5_0 := cell_below hb c5_0)
      (try replace c5_3 := cell_below hb c5_3)
      (try replace hc0 := cell_below hb hc0)
      clear hb hw2
      go_wp2_with (first
          | (refine wpl_box_at rfl 32 (.tmp 1) rfl _ rfl ?_; intro w1 hw; have hb := hid_grow hw; have B3 := (hid_alloc hw).1; replace HB := HB.trans (hb.mono HB.size); (try replace EV := EV.below hb); (try replace HE := HE.below hb); (try replace B5 := IBox.below B5 hb (IBox.lt B5)); (try replace c5_0 := cell_below hb c5_0); (try replace c5_3 := cell_below hb c5_3); (try replace hc0 := cell_below hb hc0); clear hb hw; have c3_3 : w1.cell? ⟨_, 3, none⟩ = some (.string ex.sender) := B3.cell 3; have c3_5 : w1.cell? ⟨_, 5, none⟩ = some (.string ex.key) := B3.cell 5; have c3_6 : w1.cell? ⟨_, 6, none⟩ = some (.slice ex.PA ex.Pn ex.Pc) := B3.cell 6)
          | (go_at_call 34; (with_reducible refine (findB_any l A n c _ _ _ EV HN.out hnb).mono ?_); rintro e w1 ⟨rfl, hb⟩; replace HB := HB.trans (hb.mono HB.size); (try replace EV := EV.below hb); (try replace HE := HE.below hb); (try replace B3 := IBox.below B3 hb (IBox.lt B3)); (try replace B5 := IBox.below B5 hb (IBox.lt B5)); (try replace c3_5 := cell_below hb c3_5); (try replace c3_3 := cell_below hb c3_3); (try replace c3_6 := cell_below hb c3_6); (try replace c5_0 := cell_below hb c5_0); (try replace c5_3 := cell_below hb c5_3); (try replace hc0 := cell_below hb hc0); clear hb)
          | (refine wpl_newbox 5 rfl rfl 32 rfl rfl (.tmp 11) rfl _ zeroE _ rfl rfl info_event rfl (ev_one _) ?_; intro w1 hw; have hb := hid_grow hw; have B5 := (hid_alloc hw).1; replace HB := HB.trans (hb.mono HB.size); (try replace EV := EV.below hb); (try replace HE := HE.below hb); (try replace B3 := IBox.below B3 hb (IBox.lt B3)); (try replace c3_5 := cell_below hb c3_5); (try replace c3_3 := cell_below hb c3_3); (try replace c3_6 := cell_below hb c3_6); (try replace hc0 := cell_below hb hc0); clear hb hw; have c5_0 : w1.cell? ⟨_, 0, none⟩ = some (.string (standsD l ⟨#[109, 46, 114, 111, 111, 109, 46, 99, 114, 101, 97, 116, 101]⟩ ⟨#[]⟩).id) := B5.cell 0; have c5_3 : w1.cell? ⟨_, 3, none⟩ = some (.string (standsD l ⟨#[109, 46, 114, 111, 111, 109, 46, 99, 114, 101, 97, 116, 101]⟩ ⟨#[]⟩).sender) := B5.cell 3)
          | (go_at_call 44; (with_reducible refine (amember_any l A n c _ _ EV HN.out hnb).mono ?_); rintro e w1 ⟨rfl, hb⟩; replace HB := HB.trans (hb.mono HB.size); (try replace EV := EV.below hb); (try replace HE := HE.below hb); (try replace B3 := IBox.below B3 hb (IBox.lt B3)); (try replace B5 := IBox.below B5 hb (IBox.lt B5)); (try replace c3_5 := cell_below hb c3_5); (try replace c3_3 := cell_below hb c3_3); (try replace c3_6 := cell_below hb c3_6); (try replace c5_0 := cell_below hb c5_0); (try replace c5_3 := cell_below hb c5_3); (try replace hc0 := cell_below hb hc0); clear hb)
          | (go_at_call 68; (with_reducible refine (rule_any l A n c _ EV HN.out hnb).mono ?_); rintro e w1 ⟨rfl, hb⟩; replace HB := HB.trans (hb.mono HB.size); (try replace EV := EV.below hb); (try replace HE := HE.below hb); (try replace B3 := IBox.below B3 hb (IBox.lt B3)); (try replace B5 := IBox.below B5 hb (IBox.lt B5)); (try replace c3_5 := cell_below hb c3_5); (try replace c3_3 := cell_below hb c3_3); (try replace c3_6 := cell_below hb c3_6); (try replace c5_0 := cell_below hb c5_0); (try replace c5_3 := cell_below hb c5_3); (try replace hc0 := cell_below hb hc0); clear hb))
      all_goals
        go_ret
        exact ⟨ret_int (by unfold joinS; rw [HF.out, HT0.out]; first | rfl | (simp_all; done)), HB⟩
end Go.Proofs.Ytpmdpfgaafaceaa
