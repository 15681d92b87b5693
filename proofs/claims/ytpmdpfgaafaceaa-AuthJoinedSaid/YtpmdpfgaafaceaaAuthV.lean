/- Layer 16: the rules 40 to 47; auth.Check. -/
import Derived.Test.YtpmdpfgaafaceaaAuthS
import Derived.Test.YtpmdpfgaafaceaaAuthH
namespace Go.Proofs.Ytpmdpfgaafaceaa
open Go.RowKit Go.PlainAid
set_option linter.unusedVariables false
set_option linter.unusedSimpArgs false

/-- Does a key begin with the mark of a user's name? -/
def atB (s : ByteArray) : Bool := decide (0 < s.size) && (bt s 0 == 64)
theorem pref_at (s : ByteArray) : Lib.hasPrefix s.data.toList [64] = atB s := by
  obtain ⟨⟨d⟩⟩ := s
  cases d with
  | nil => rfl
  | cons b r =>
    have e0 : bt ⟨⟨b :: r⟩⟩ 0 = (b.toNat : Int) := by unfold bt; rw [dif_pos (by show 0 < (b :: r).length; simp)]; rfl
    unfold atB
    rw [e0, decide_eq_true (show 0 < (ByteArray.mk ⟨b :: r⟩).size by show 0 < (b :: r).length; simp)]
    rw [Bool.true_and]
    show (64 == b && true) = _
    rw [Bool.and_true]
    by_cases h : b = 64
    · subst h; rfl
    · have h2 : ¬ ((b.toNat : Int) = 64) := fun e => h (UInt8.toNat.inj (by simpa using (by omega : b.toNat = 64)))
      rw [beq_eq_false_iff_ne.2 h2, beq_eq_false_iff_ne.2 (fun e => h e.symm)]
theorem prefB_any (s : ByteArray) (w : World) : Calls Try.prog 47 #[.string s, .string ⟨#[64]⟩] w fun e w' => e = .returned (.bool (atB s)) ∧ Below w.heap.size w w' :=
  (Try.strings_HasPrefix s _ w).mono fun e w' ⟨he, hw⟩ => ⟨by rw [he, ← pref_at], by rw [hw]; exact Below.refl _ _⟩
def ordS (l : List Ev) (ex : Ev) : Int :=
  if ((memberS l ex.sender).toList == [106, 111, 105, 110]) = false then 40
  else if levelS l ex.sender < needForS l ex then 41
  else if (ex.hasKey && atB ex.key && !(ex.key.toList == ex.sender.toList)) = true then 42
  else if isLevelsB ex = false then 0
  else if formedB ex.content = false then 43
  else if standsB l ⟨#[109, 46, 114, 111, 111, 109, 46, 112, 111, 119, 101, 114, 95, 108, 101, 118, 101, 108, 115]⟩ ⟨#[]⟩ = false then 0
  else changesS ex.sender (standsD l ⟨#[109, 46, 114, 111, 111, 109, 46, 112, 111, 119, 101, 114, 95, 108, 101, 118, 101, 108, 115]⟩ ⟨#[]⟩).content ex.content (levelS l ex.sender)
def checkS (ex : Ev) (l : List Ev) : Int :=
  if isCreateB ex = true then createS ex
  else if (listsS ex l == 0) = false then listsS ex l
  else if isMemB ex = true then memS l ex else ordS l ex

set_option maxRecDepth 100000 in
set_option maxHeartbeats 8000000 in
theorem ordinary_any (l : List Ev) (A : Option Addr) (n c : Nat) (ex : Ev) (w : World) (HE : IsEv w ex) (HM : HasMax w) (EV : IsEvs w A 0 l) (hn : n = l.length) (hnb : n ≤ 9223372036854775807) :
    Calls Try.prog 24 #[.agg ex.cells, .slice A n c] w fun e w' => e = .returned (.int .i64 (ordS l ex)) ∧ Below w.heap.size w w' := by
  have HN := Lib.hid hn
  clear hn
  have HB := Below.refl w.heap.size w
  have hlev : isLevelsB ex = isB ex ⟨#[109, 46, 114, 111, 111, 109, 46, 112, 111, 119, 101, 114, 95, 108, 101, 118, 101, 108, 115]⟩ := rfl
  cases hK : ex.hasKey
  · have e3 : (ex.key.toList != ex.sender.toList) = !(ex.key.toList == ex.sender.toList) := rfl
    try rw [hS] at e3
    go_enter Try.func24, Try.ntmps24
    go_wp2_with (first
          | (refine wpl_box_at rfl 32 (.tmp 0) rfl _ rfl ?_; intro w1 hw; have hb := hid_grow hw; have B2 := (hid_alloc hw).1; replace HB := HB.trans (hb.mono HB.size); (try replace EV := EV.below hb); (try replace HE := HE.below hb); (try replace HM := HM.below hb); (try replace B6 := IBox.below B6 hb (IBox.lt B6)); clear hb hw; have c2_3 : w1.cell? ⟨_, 3, none⟩ = some (.string ex.sender) := B2.cell 3; have c2_4 : w1.cell? ⟨_, 4, none⟩ = some (.bool ex.hasKey) := B2.cell 4; have c2_5 : w1.cell? ⟨_, 5, none⟩ = some (.string ex.key) := B2.cell 5)
          | (go_at_call 17; (with_reducible refine (level_any l A n c _ _ EV HN.out hnb).mono ?_); rintro e w1 ⟨rfl, hb⟩; replace HB := HB.trans (hb.mono HB.size); (try replace EV := EV.below hb); (try replace HE := HE.below hb); (try replace HM := HM.below hb); (try replace B2 := IBox.below B2 hb (IBox.lt B2)); (try replace B6 := IBox.below B6 hb (IBox.lt B6)); (try replace c2_3 := cell_below hb c2_3); (try replace c2_4 := cell_below hb c2_4); (try replace c2_5 := cell_below hb c2_5); clear hb)
          | (go_at_call 44; (with_reducible refine (amember_any l A n c _ _ EV HN.out hnb).mono ?_); rintro e w1 ⟨rfl, hb⟩; replace HB := HB.trans (hb.mono HB.size); (try replace EV := EV.below hb); (try replace HE := HE.below hb); (try replace HM := HM.below hb); (try replace B2 := IBox.below B2 hb (IBox.lt B2)); (try replace B6 := IBox.below B6 hb (IBox.lt B6)); (try replace c2_3 := cell_below hb c2_3); (try replace c2_4 := cell_below hb c2_4); (try replace c2_5 := cell_below hb c2_5); clear hb)
          | (refine wpl_load_box rfl 32 (.tmp 2) rfl _ rfl _ _ _ B2 Try.underlying32 rfl info_event ?_)
          | (go_at_call 46; (with_reducible refine (needFor_any l A n c _ _ HE EV HN.out hnb).mono ?_); rintro e w1 ⟨rfl, hb⟩; replace HB := HB.trans (hb.mono HB.size); (try replace EV := EV.below hb); (try replace HE := HE.below hb); (try replace HM := HM.below hb); (try replace B2 := IBox.below B2 hb (IBox.lt B2)); (try replace B6 := IBox.below B6 hb (IBox.lt B6)); (try replace c2_3 := cell_below hb c2_3); (try replace c2_4 := cell_below hb c2_4); (try replace c2_5 := cell_below hb c2_5); clear hb)
          | (go_at_call 47; (with_reducible refine (prefB_any _ _).mono ?_); rintro e w1 ⟨rfl, hb⟩; replace HB := HB.trans (hb.mono HB.size); (try replace EV := EV.below hb); (try replace HE := HE.below hb); (try replace HM := HM.below hb); (try replace B2 := IBox.below B2 hb (IBox.lt B2)); (try replace B6 := IBox.below B6 hb (IBox.lt B6)); (try replace c2_3 := cell_below hb c2_3); (try replace c2_4 := cell_below hb c2_4); (try replace c2_5 := cell_below hb c2_5); clear hb)
          | (go_at_call 20; (with_reducible refine (is_any _ _ _ HE).mono ?_); rintro e w1 ⟨rfl, hb⟩; replace HB := HB.trans (hb.mono HB.size); (try replace EV := EV.below hb); (try replace HE := HE.below hb); (try replace HM := HM.below hb); (try replace B2 := IBox.below B2 hb (IBox.lt B2)); (try replace B6 := IBox.below B6 hb (IBox.lt B6)); (try replace c2_3 := cell_below hb c2_3); (try replace c2_4 := cell_below hb c2_4); (try replace c2_5 := cell_below hb c2_5); clear hb)
          | (refine wpl_load_arr rfl 30 (.tmp 44) rfl _ 10 rfl _ _ (ev_content B2) Try.underlying30 rfl info_value ?_)
          | (go_at_call 48; (with_reducible refine (aformed_any _ _ HE.content HM).mono ?_); rintro e w1 ⟨rfl, hb⟩; replace HB := HB.trans (hb.mono HB.size); (try replace EV := EV.below hb); (try replace HE := HE.below hb); (try replace HM := HM.below hb); (try replace B2 := IBox.below B2 hb (IBox.lt B2)); (try replace B6 := IBox.below B6 hb (IBox.lt B6)); (try replace c2_3 := cell_below hb c2_3); (try replace c2_4 := cell_below hb c2_4); (try replace c2_5 := cell_below hb c2_5); clear hb)
          | (go_at_call 34; (with_reducible refine (findB_any l A n c _ _ _ EV HN.out hnb).mono ?_); rintro e w1 ⟨rfl, hb⟩; replace HB := HB.trans (hb.mono HB.size); (try replace EV := EV.below hb); (try replace HE := HE.below hb); (try replace HM := HM.below hb); (try replace B2 := IBox.below B2 hb (IBox.lt B2)); (try replace B6 := IBox.below B6 hb (IBox.lt B6)); (try replace c2_3 := cell_below hb c2_3); (try replace c2_4 := cell_below hb c2_4); (try replace c2_5 := cell_below hb c2_5); clear hb)
          | (refine wpl_newbox 6 rfl rfl 32 rfl rfl (.tmp 51) rfl _ zeroE _ rfl rfl info_event rfl (ev_one _) ?_; intro w1 hw; have hb := hid_grow hw; have B6 := (hid_alloc hw).1; replace HB := HB.trans (hb.mono HB.size); (try replace EV := EV.below hb); (try replace HE := HE.below hb); (try replace HM := HM.below hb); (try replace B2 := IBox.below B2 hb (IBox.lt B2)); (try replace c2_3 := cell_below hb c2_3); (try replace c2_4 := cell_below hb c2_4); (try replace c2_5 := cell_below hb c2_5); clear hb hw)
          | (refine wpl_load_arr rfl 30 (.tmp 56) rfl _ 10 rfl _ _ (ev_content B6) Try.underlying30 rfl info_value ?_)
          | (go_at_call 49; (with_reducible refine (achanges_any _ _ _ _ HE (stands_is EV _ _).content).mono ?_); rintro e w1 ⟨rfl, hb⟩; replace HB := HB.trans (hb.mono HB.size); (try replace EV := EV.below hb); (try replace HE := HE.below hb); (try replace HM := HM.below hb); (try replace B2 := IBox.below B2 hb (IBox.lt B2)); (try replace B6 := IBox.below B6 hb (IBox.lt B6)); (try replace c2_3 := cell_below hb c2_3); (try replace c2_4 := cell_below hb c2_4); (try replace c2_5 := cell_below hb c2_5); clear hb))
    all_goals
      go_ret
      exact ⟨ret_int (by unfold ordS; first | (simp_all; done) | (simp_all; omega)), HB⟩
  · cases hA : atB ex.key
    · have e3 : (ex.key.toList != ex.sender.toList) = !(ex.key.toList == ex.sender.toList) := rfl
      try rw [hS] at e3
      go_enter Try.func24, Try.ntmps24
      go_wp2_with (first
            | (refine wpl_box_at rfl 32 (.tmp 0) rfl _ rfl ?_; intro w1 hw; have hb := hid_grow hw; have B2 := (hid_alloc hw).1; replace HB := HB.trans (hb.mono HB.size); (try replace EV := EV.below hb); (try replace HE := HE.below hb); (try replace HM := HM.below hb); (try replace B6 := IBox.below B6 hb (IBox.lt B6)); clear hb hw; have c2_3 : w1.cell? ⟨_, 3, none⟩ = some (.string ex.sender) := B2.cell 3; have c2_4 : w1.cell? ⟨_, 4, none⟩ = some (.bool ex.hasKey) := B2.cell 4; have c2_5 : w1.cell? ⟨_, 5, none⟩ = some (.string ex.key) := B2.cell 5)
            | (go_at_call 17; (with_reducible refine (level_any l A n c _ _ EV HN.out hnb).mono ?_); rintro e w1 ⟨rfl, hb⟩; replace HB := HB.trans (hb.mono HB.size); (try replace EV := EV.below hb); (try replace HE := HE.below hb); (try replace HM := HM.below hb); (try replace B2 := IBox.below B2 hb (IBox.lt B2)); (try replace B6 := IBox.below B6 hb (IBox.lt B6)); (try replace c2_3 := cell_below hb c2_3); (try replace c2_4 := cell_below hb c2_4); (try replace c2_5 := cell_below hb c2_5); clear hb)
            | (go_at_call 44; (with_reducible refine (amember_any l A n c _ _ EV HN.out hnb).mono ?_); rintro e w1 ⟨rfl, hb⟩; replace HB := HB.trans (hb.mono HB.size); (try replace EV := EV.below hb); (try replace HE := HE.below hb); (try replace HM := HM.below hb); (try replace B2 := IBox.below B2 hb (IBox.lt B2)); (try replace B6 := IBox.below B6 hb (IBox.lt B6)); (try replace c2_3 := cell_below hb c2_3); (try replace c2_4 := cell_below hb c2_4); (try replace c2_5 := cell_below hb c2_5); clear hb)
            | (refine wpl_load_box rfl 32 (.tmp 2) rfl _ rfl _ _ _ B2 Try.underlying32 rfl info_event ?_)
            | (go_at_call 46; (with_reducible refine (needFor_any l A n c _ _ HE EV HN.out hnb).mono ?_); rintro e w1 ⟨rfl, hb⟩; replace HB := HB.trans (hb.mono HB.size); (try replace EV := EV.below hb); (try replace HE := HE.below hb); (try replace HM := HM.below hb); (try replace B2 := IBox.below B2 hb (IBox.lt B2)); (try replace B6 := IBox.below B6 hb (IBox.lt B6)); (try replace c2_3 := cell_below hb c2_3); (try replace c2_4 := cell_below hb c2_4); (try replace c2_5 := cell_below hb c2_5); clear hb)
            | (go_at_call 47; (with_reducible refine (prefB_any _ _).mono ?_); rintro e w1 ⟨rfl, hb⟩; replace HB := HB.trans (hb.mono HB.size); (try replace EV := EV.below hb); (try replace HE := HE.below hb); (try replace HM := HM.below hb); (try replace B2 := IBox.below B2 hb (IBox.lt B2)); (try replace B6 := IBox.below B6 hb (IBox.lt B6)); (try replace c2_3 := cell_below hb c2_3); (try replace c2_4 := cell_below hb c2_4); (try replace c2_5 := cell_below hb c2_5); clear hb)
            | (go_at_call 20; (with_reducible refine (is_any _ _ _ HE).mono ?_); rintro e w1 ⟨rfl, hb⟩; replace HB := HB.trans (hb.mono HB.size); (try replace EV := EV.below hb); (try replace HE := HE.below hb); (try replace HM := HM.below hb); (try replace B2 := IBox.below B2 hb (IBox.lt B2)); (try replace B6 := IBox.below B6 hb (IBox.lt B6)); (try replace c2_3 := cell_below hb c2_3); (try replace c2_4 := cell_below hb c2_4); (try replace c2_5 := cell_below hb c2_5); clear hb)
            | (refine wpl_load_arr rfl 30 (.tmp 44) rfl _ 10 rfl _ _ (ev_content B2) Try.underlying30 rfl info_value ?_)
            | (go_at_call 48; (with_reducible refine (aformed_any _ _ HE.content HM).mono ?_); rintro e w1 ⟨rfl, hb⟩; replace HB := HB.trans (hb.mono HB.size); (try replace EV := EV.below hb); (try replace HE := HE.below hb); (try replace HM := HM.below hb); (try replace B2 := IBox.below B2 hb (IBox.lt B2)); (try replace B6 := IBox.below B6 hb (IBox.lt B6)); (try replace c2_3 := cell_below hb c2_3); (try replace c2_4 := cell_below hb c2_4); (try replace c2_5 := cell_below hb c2_5); clear hb)
            | (go_at_call 34; (with_reducible refine (findB_any l A n c _ _ _ EV HN.out hnb).mono ?_); rintro e w1 ⟨rfl, hb⟩; replace HB := HB.trans (hb.mono HB.size); (try replace EV := EV.below hb); (try replace HE := HE.below hb); (try replace HM := HM.below hb); (try replace B2 := IBox.below B2 hb (IBox.lt B2)); (try replace B6 := IBox.below B6 hb (IBox.lt B6)); (try replace c2_3 := cell_below hb c2_3); (try replace c2_4 := cell_below hb c2_4); (try replace c2_5 := cell_below hb c2_5); clear hb)
            | (refine wpl_newbox 6 rfl rfl 32 rfl rfl (.tmp 51) rfl _ zeroE _ rfl rfl info_event rfl (ev_one _) ?_; intro w1 hw; have hb := hid_grow hw; have B6 := (hid_alloc hw).1; replace HB := HB.trans (hb.mono HB.size); (try replace EV := EV.below hb); (try replace HE := HE.below hb); (try replace HM := HM.below hb); (try replace B2 := IBox.below B2 hb (IBox.lt B2)); (try replace c2_3 := cell_below hb c2_3); (try replace c2_4 := cell_below hb c2_4); (try replace c2_5 := cell_below hb c2_5); clear hb hw)
            | (refine wpl_load_arr rfl 30 (.tmp 56) rfl _ 10 rfl _ _ (ev_content B6) Try.underlying30 rfl info_value ?_)
            | (go_at_call 49; (with_reducible refine (achanges_any _ _ _ _ HE (stands_is EV _ _).content).mono ?_); rintro e w1 ⟨rfl, hb⟩; replace HB := HB.trans (hb.mono HB.size); (try replace EV := EV.below hb); (try replace HE := HE.below hb); (try replace HM := HM.below hb); (try replace B2 := IBox.below B2 hb (IBox.lt B2)); (try replace B6 := IBox.below B6 hb (IBox.lt B6)); (try replace c2_3 := cell_below hb c2_3); (try replace c2_4 := cell_below hb c2_4); (try replace c2_5 := cell_below hb c2_5); clear hb))
      all_goals
        go_ret
        exact ⟨ret_int (by unfold ordS; first | (simp_all; done) | (simp_all; omega)), HB⟩
    · cases hS : (ex.key.toList == ex.sender.toList)
      · have e3 : (ex.key.toList != ex.sender.toList) = !(ex.key.toList == ex.sender.toList) := rfl
        try rw [hS] at e3
        go_enter Try.func24, Try.ntmps24
        go_wp2_with (first
              | (refine wpl_box_at rfl 32 (.tmp 0) rfl _ rfl ?_; intro w1 hw; have hb := hid_grow hw; have B2 := (hid_alloc hw).1; replace HB := HB.trans (hb.mono HB.size); (try replace EV := EV.below hb); (try replace HE := HE.below hb); (try replace HM := HM.below hb); (try replace B6 := IBox.below B6 hb (IBox.lt B6)); clear hb hw; have c2_3 : w1.cell? ⟨_, 3, none⟩ = some (.string ex.sender) := B2.cell 3; have c2_4 : w1.cell? ⟨_, 4, none⟩ = some (.bool ex.hasKey) := B2.cell 4; have c2_5 : w1.cell? ⟨_, 5, none⟩ = some (.string ex.key) := B2.cell 5)
              | (go_at_call 17; (with_reducible refine (level_any l A n c _ _ EV HN.out hnb).mono ?_); rintro e w1 ⟨rfl, hb⟩; replace HB := HB.trans (hb.mono HB.size); (try replace EV := EV.below hb); (try replace HE := HE.below hb); (try replace HM := HM.below hb); (try replace B2 := IBox.below B2 hb (IBox.lt B2)); (try replace B6 := IBox.below B6 hb (IBox.lt B6)); (try replace c2_3 := cell_below hb c2_3); (try replace c2_4 := cell_below hb c2_4); (try replace c2_5 := cell_below hb c2_5); clear hb)
              | (go_at_call 44; (with_reducible refine (amember_any l A n c _ _ EV HN.out hnb).mono ?_); rintro e w1 ⟨rfl, hb⟩; replace HB := HB.trans (hb.mono HB.size); (try replace EV := EV.below hb); (try replace HE := HE.below hb); (try replace HM := HM.below hb); (try replace B2 := IBox.below B2 hb (IBox.lt B2)); (try replace B6 := IBox.below B6 hb (IBox.lt B6)); (try replace c2_3 := cell_below hb c2_3); (try replace c2_4 := cell_below hb c2_4); (try replace c2_5 := cell_below hb c2_5); clear hb)
              | (refine wpl_load_box rfl 32 (.tmp 2) rfl _ rfl _ _ _ B2 Try.underlying32 rfl info_event ?_)
              | (go_at_call 46; (with_reducible refine (needFor_any l A n c _ _ HE EV HN.out hnb).mono ?_); rintro e w1 ⟨rfl, hb⟩; replace HB := HB.trans (hb.mono HB.size); (try replace EV := EV.below hb); (try replace HE := HE.below hb); (try replace HM := HM.below hb); (try replace B2 := IBox.below B2 hb (IBox.lt B2)); (try replace B6 := IBox.below B6 hb (IBox.lt B6)); (try replace c2_3 := cell_below hb c2_3); (try replace c2_4 := cell_below hb c2_4); (try replace c2_5 := cell_below hb c2_5); clear hb)
              | (go_at_call 47; (with_reducible refine (prefB_any _ _).mono ?_); rintro e w1 ⟨rfl, hb⟩; replace HB := HB.trans (hb.mono HB.size); (try replace EV := EV.below hb); (try replace HE := HE.below hb); (try replace HM := HM.below hb); (try replace B2 := IBox.below B2 hb (IBox.lt B2)); (try replace B6 := IBox.below B6 hb (IBox.lt B6)); (try replace c2_3 := cell_below hb c2_3); (try replace c2_4 := cell_below hb c2_4); (try replace c2_5 := cell_below hb c2_5); clear hb)
              | (go_at_call 20; (with_reducible refine (is_any _ _ _ HE).mono ?_); rintro e w1 ⟨rfl, hb⟩; replace HB := HB.trans (hb.mono HB.size); (try replace EV := EV.below hb); (try replace HE := HE.below hb); (try replace HM := HM.below hb); (try replace B2 := IBox.below B2 hb (IBox.lt B2)); (try replace B6 := IBox.below B6 hb (IBox.lt B6)); (try replace c2_3 := cell_below hb c2_3); (try replace c2_4 := cell_below hb c2_4); (try replace c2_5 := cell_below hb c2_5); clear hb)
              | (refine wpl_load_arr rfl 30 (.tmp 44) rfl _ 10 rfl _ _ (ev_content B2) Try.underlying30 rfl info_value ?_)
              | (go_at_call 48; (with_reducible refine (aformed_any _ _ HE.content HM).mono ?_); rintro e w1 ⟨rfl, hb⟩; replace HB := HB.trans (hb.mono HB.size); (try replace EV := EV.below hb); (try replace HE := HE.below hb); (try replace HM := HM.below hb); (try replace B2 := IBox.below B2 hb (IBox.lt B2)); (try replace B6 := IBox.below B6 hb (IBox.lt B6)); (try replace c2_3 := cell_below hb c2_3); (try replace c2_4 := cell_below hb c2_4); (try replace c2_5 := cell_below hb c2_5); clear hb)
              | (go_at_call 34; (with_reducible refine (findB_any l A n c _ _ _ EV HN.out hnb).mono ?_); rintro e w1 ⟨rfl, hb⟩; replace HB := HB.trans (hb.mono HB.size); (try replace EV := EV.below hb); (try replace HE := HE.below hb); (try replace HM := HM.below hb); (try replace B2 := IBox.below B2 hb (IBox.lt B2)); (try replace B6 := IBox.below B6 hb (IBox.lt B6)); (try replace c2_3 := cell_below hb c2_3); (try replace c2_4 := cell_below hb c2_4); (try replace c2_5 := cell_below hb c2_5); clear hb)
              | (refine wpl_newbox 6 rfl rfl 32 rfl rfl (.tmp 51) rfl _ zeroE _ rfl rfl info_event rfl (ev_one _) ?_; intro w1 hw; have hb := hid_grow hw; have B6 := (hid_alloc hw).1; replace HB := HB.trans (hb.mono HB.size); (try replace EV := EV.below hb); (try replace HE := HE.below hb); (try replace HM := HM.below hb); (try replace B2 := IBox.below B2 hb (IBox.lt B2)); (try replace c2_3 := cell_below hb c2_3); (try replace c2_4 := cell_below hb c2_4); (try replace c2_5 := cell_below hb c2_5); clear hb hw)
              | (refine wpl_load_arr rfl 30 (.tmp 56) rfl _ 10 rfl _ _ (ev_content B6) Try.underlying30 rfl info_value ?_)
              | (go_at_call 49; (with_reducible refine (achanges_any _ _ _ _ HE (stands_is EV _ _).content).mono ?_); rintro e w1 ⟨rfl, hb⟩; replace HB := HB.trans (hb.mono HB.size); (try replace EV := EV.below hb); (try replace HE := HE.below hb); (try replace HM := HM.below hb); (try replace B2 := IBox.below B2 hb (IBox.lt B2)); (try replace B6 := IBox.below B6 hb (IBox.lt B6)); (try replace c2_3 := cell_below hb c2_3); (try replace c2_4 := cell_below hb c2_4); (try replace c2_5 := cell_below hb c2_5); clear hb))
        all_goals
          go_ret
          exact ⟨ret_int (by unfold ordS; first | (simp_all; done) | (simp_all; omega)), HB⟩
      · have e3 : (ex.key.toList != ex.sender.toList) = !(ex.key.toList == ex.sender.toList) := rfl
        try rw [hS] at e3
        go_enter Try.func24, Try.ntmps24
        go_wp2_with (first
              | (refine wpl_box_at rfl 32 (.tmp 0) rfl _ rfl ?_; intro w1 hw; have hb := hid_grow hw; have B2 := (hid_alloc hw).1; replace HB := HB.trans (hb.mono HB.size); (try replace EV := EV.below hb); (try replace HE := HE.below hb); (try replace HM := HM.below hb); (try replace B6 := IBox.below B6 hb (IBox.lt B6)); clear hb hw; have c2_3 : w1.cell? ⟨_, 3, none⟩ = some (.string ex.sender) := B2.cell 3; have c2_4 : w1.cell? ⟨_, 4, none⟩ = some (.bool ex.hasKey) := B2.cell 4; have c2_5 : w1.cell? ⟨_, 5, none⟩ = some (.string ex.key) := B2.cell 5)
              | (go_at_call 17; (with_reducible refine (level_any l A n c _ _ EV HN.out hnb).mono ?_); rintro e w1 ⟨rfl, hb⟩; replace HB := HB.trans (hb.mono HB.size); (try replace EV := EV.below hb); (try replace HE := HE.below hb); (try replace HM := HM.below hb); (try replace B2 := IBox.below B2 hb (IBox.lt B2)); (try replace B6 := IBox.below B6 hb (IBox.lt B6)); (try replace c2_3 := cell_below hb c2_3); (try replace c2_4 := cell_below hb c2_4); (try replace c2_5 := cell_below hb c2_5); clear hb)
              | (go_at_call 44; (with_reducible refine (amember_any l A n c _ _ EV HN.out hnb).mono ?_); rintro e w1 ⟨rfl, hb⟩; replace HB := HB.trans (hb.mono HB.size); (try replace EV := EV.below hb); (try replace HE := HE.below hb); (try replace HM := HM.below hb); (try replace B2 := IBox.below B2 hb (IBox.lt B2)); (try replace B6 := IBox.below B6 hb (IBox.lt B6)); (try replace c2_3 := cell_below hb c2_3); (try replace c2_4 := cell_below hb c2_4); (try replace c2_5 := cell_below hb c2_5); clear hb)
              | (refine wpl_load_box rfl 32 (.tmp 2) rfl _ rfl _ _ _ B2 Try.underlying32 rfl info_event ?_)
              | (go_at_call 46; (with_reducible refine (needFor_any l A n c _ _ HE EV HN.out hnb).mono ?_); rintro e w1 ⟨rfl, hb⟩; replace HB := HB.trans (hb.mono HB.size); (try replace EV := EV.below hb); (try replace HE := HE.below hb); (try replace HM := HM.below hb); (try replace B2 := IBox.below B2 hb (IBox.lt B2)); (try replace B6 := IBox.below B6 hb (IBox.lt B6)); (try replace c2_3 := cell_below hb c2_3); (try replace c2_4 := cell_below hb c2_4); (try replace c2_5 := cell_below hb c2_5); clear hb)
              | (go_at_call 47; (with_reducible refine (prefB_any _ _).mono ?_); rintro e w1 ⟨rfl, hb⟩; replace HB := HB.trans (hb.mono HB.size); (try replace EV := EV.below hb); (try replace HE := HE.below hb); (try replace HM := HM.below hb); (try replace B2 := IBox.below B2 hb (IBox.lt B2)); (try replace B6 := IBox.below B6 hb (IBox.lt B6)); (try replace c2_3 := cell_below hb c2_3); (try replace c2_4 := cell_below hb c2_4); (try replace c2_5 := cell_below hb c2_5); clear hb)
              | (go_at_call 20; (with_reducible refine (is_any _ _ _ HE).mono ?_); rintro e w1 ⟨rfl, hb⟩; replace HB := HB.trans (hb.mono HB.size); (try replace EV := EV.below hb); (try replace HE := HE.below hb); (try replace HM := HM.below hb); (try replace B2 := IBox.below B2 hb (IBox.lt B2)); (try replace B6 := IBox.below B6 hb (IBox.lt B6)); (try replace c2_3 := cell_below hb c2_3); (try replace c2_4 := cell_below hb c2_4); (try replace c2_5 := cell_below hb c2_5); clear hb)
              | (refine wpl_load_arr rfl 30 (.tmp 44) rfl _ 10 rfl _ _ (ev_content B2) Try.underlying30 rfl info_value ?_)
              | (go_at_call 48; (with_reducible refine (aformed_any _ _ HE.content HM).mono ?_); rintro e w1 ⟨rfl, hb⟩; replace HB := HB.trans (hb.mono HB.size); (try replace EV := EV.below hb); (try replace HE := HE.below hb); (try replace HM := HM.below hb); (try replace B2 := IBox.below B2 hb (IBox.lt B2)); (try replace B6 := IBox.below B6 hb (IBox.lt B6)); (try replace c2_3 := cell_below hb c2_3); (try replace c2_4 := cell_below hb c2_4); (try replace c2_5 := cell_below hb c2_5); clear hb)
              | (go_at_call 34; (with_reducible refine (findB_any l A n c _ _ _ EV HN.out hnb).mono ?_); rintro e w1 ⟨rfl, hb⟩; replace HB := HB.trans (hb.mono HB.size); (try replace EV := EV.below hb); (try replace HE := HE.below hb); (try replace HM := HM.below hb); (try replace B2 := IBox.below B2 hb (IBox.lt B2)); (try replace B6 := IBox.below B6 hb (IBox.lt B6)); (try replace c2_3 := cell_below hb c2_3); (try replace c2_4 := cell_below hb c2_4); (try replace c2_5 := cell_below hb c2_5); clear hb)
              | (refine wpl_newbox 6 rfl rfl 32 rfl rfl (.tmp 51) rfl _ zeroE _ rfl rfl info_event rfl (ev_one _) ?_; intro w1 hw; have hb := hid_grow hw; have B6 := (hid_alloc hw).1; replace HB := HB.trans (hb.mono HB.size); (try replace EV := EV.below hb); (try replace HE := HE.below hb); (try replace HM := HM.below hb); (try replace B2 := IBox.below B2 hb (IBox.lt B2)); (try replace c2_3 := cell_below hb c2_3); (try replace c2_4 := cell_below hb c2_4); (try replace c2_5 := cell_below hb c2_5); clear hb hw)
              | (refine wpl_load_arr rfl 30 (.tmp 56) rfl _ 10 rfl _ _ (ev_content B6) Try.underlying30 rfl info_value ?_)
              | (go_at_call 49; (with_reducible refine (achanges_any _ _ _ _ HE (stands_is EV _ _).content).mono ?_); rintro e w1 ⟨rfl, hb⟩; replace HB := HB.trans (hb.mono HB.size); (try replace EV := EV.below hb); (try replace HE := HE.below hb); (try replace HM := HM.below hb); (try replace B2 := IBox.below B2 hb (IBox.lt B2)); (try replace B6 := IBox.below B6 hb (IBox.lt B6)); (try replace c2_3 := cell_below hb c2_3); (try replace c2_4 := cell_below hb c2_4); (try replace c2_5 := cell_below hb c2_5); clear hb))
        all_goals
          go_ret
          exact ⟨ret_int (by unfold ordS; first | (simp_all; done) | (simp_all; omega)), HB⟩

set_option maxRecDepth 100000 in
set_option maxHeartbeats 8000000 in
theorem check_any (ex : Ev) (l : List Ev) (A : Option Addr) (n c : Nat) (w : World) (HE : IsEv w ex) (HM : HasMax w) (EV : IsEvs w A 0 l) (hn : n = l.length) (hnb : n ≤ 9223372036854775807) :
    Calls Try.prog 9 #[.agg ex.cells, .slice A n c] w fun e w' => e = .returned (.int .i64 (checkS ex l)) ∧ Below w.heap.size w w' := by
  have HN := Lib.hid hn
  clear hn
  have HB := Below.refl w.heap.size w
  have hcr : isCreateB ex = isB ex ⟨#[109, 46, 114, 111, 111, 109, 46, 99, 114, 101, 97, 116, 101]⟩ := rfl
  have hme : isMemB ex = (ex.ty.toList == [109, 46, 114, 111, 111, 109, 46, 109, 101, 109, 98, 101, 114]) := rfl
  go_enter Try.func9, Try.ntmps9
  go_wp2_with (first
      | (refine wpl_box_at rfl 32 (.tmp 0) rfl _ rfl ?_; intro w1 hw; have hb := hid_grow hw; have B2 := (hid_alloc hw).1; replace HB := HB.trans (hb.mono HB.size); (try replace EV := EV.below hb); (try replace HE := HE.below hb); (try replace HM := HM.below hb); clear hb hw; have c2_1 : w1.cell? ⟨_, 1, none⟩ = some (.string ex.ty) := B2.cell 1)
      | (refine wpl_load_box rfl 32 (.tmp 2) rfl _ rfl _ _ _ B2 Try.underlying32 rfl info_event ?_)
      | (go_at_call 20; (with_reducible refine (is_any _ _ _ HE).mono ?_); rintro e w1 ⟨rfl, hb⟩; replace HB := HB.trans (hb.mono HB.size); (try replace EV := EV.below hb); (try replace HE := HE.below hb); (try replace HM := HM.below hb); (try replace B2 := IBox.below B2 hb (IBox.lt B2)); (try replace c2_1 := cell_below hb c2_1); clear hb)
      | (go_at_call 21; (with_reducible refine (create_any _ _ HE HM).mono ?_); rintro e w1 ⟨rfl, hb⟩; replace HB := HB.trans (hb.mono HB.size); (try replace EV := EV.below hb); (try replace HE := HE.below hb); (try replace HM := HM.below hb); (try replace B2 := IBox.below B2 hb (IBox.lt B2)); (try replace c2_1 := cell_below hb c2_1); clear hb)
      | (go_at_call 22; (with_reducible refine (alists_any ex l A n c _ HE EV HN.out hnb).mono ?_); rintro e w1 ⟨rfl, hb⟩; replace HB := HB.trans (hb.mono HB.size); (try replace EV := EV.below hb); (try replace HE := HE.below hb); (try replace HM := HM.below hb); (try replace B2 := IBox.below B2 hb (IBox.lt B2)); (try replace c2_1 := cell_below hb c2_1); clear hb)
      | (go_at_call 23; (with_reducible refine (member_any l A n c _ _ HE HM EV HN.out hnb).mono ?_); rintro e w1 ⟨rfl, hb⟩; replace HB := HB.trans (hb.mono HB.size); (try replace EV := EV.below hb); (try replace HE := HE.below hb); (try replace HM := HM.below hb); (try replace B2 := IBox.below B2 hb (IBox.lt B2)); (try replace c2_1 := cell_below hb c2_1); clear hb)
      | (go_at_call 24; (with_reducible refine (ordinary_any l A n c _ _ HE HM EV HN.out hnb).mono ?_); rintro e w1 ⟨rfl, hb⟩; replace HB := HB.trans (hb.mono HB.size); (try replace EV := EV.below hb); (try replace HE := HE.below hb); (try replace HM := HM.below hb); (try replace B2 := IBox.below B2 hb (IBox.lt B2)); (try replace c2_1 := cell_below hb c2_1); clear hb))
  all_goals
    go_ret
    exact ⟨ret_int (by unfold checkS; first | (simp_all; done) | (simp_all; omega)), HB⟩
end Go.Proofs.Ytpmdpfgaafaceaa
