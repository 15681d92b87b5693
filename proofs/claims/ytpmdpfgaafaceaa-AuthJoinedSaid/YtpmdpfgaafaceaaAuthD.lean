/- Layer 16: levels, memberships, rules: spec, and the walks in program and reference. -/
import Derived.Test.YtpmdpfgaafaceaaAuthC
namespace Go.Proofs.Ytpmdpfgaafaceaa
open Go.RowKit
set_option linter.unusedVariables false

theorem ev_content {w : World} {g : Nat} {t : TypeId} {e : Ev} (h : IBox w g t e.cells) : w.rangeAt g 10 e.content.cells.toList := by
  have hc := h.cell
  intro j v hv
  have hj : j < 6 := (List.getElem?_eq_some_iff.1 hv).1
  rw [hc]
  match j, hj with
  | 0, _ => exact hv
  | 1, _ => exact hv
  | 2, _ => exact hv
  | 3, _ => exact hv
  | 4, _ => exact hv
  | 5, _ => exact hv

def kCreate : ByteArray := ⟨#[109, 46, 114, 111, 111, 109, 46, 99, 114, 101, 97, 116, 101]⟩
def kMember : ByteArray := ⟨#[109, 46, 114, 111, 111, 109, 46, 109, 101, 109, 98, 101, 114]⟩
def kLevels : ByteArray := ⟨#[109, 46, 114, 111, 111, 109, 46, 112, 111, 119, 101, 114, 95, 108, 101, 118, 101, 108, 115]⟩
def kJoins : ByteArray := ⟨#[109, 46, 114, 111, 111, 109, 46, 106, 111, 105, 110, 95, 114, 117, 108, 101, 115]⟩
def bEmpty : ByteArray := ⟨#[]⟩

/-- A user's level. -/
def levelS (l : List Ev) (user : ByteArray) : Int :=
  if standsB l ⟨#[109, 46, 114, 111, 111, 109, 46, 112, 111, 119, 101, 114, 95, 108, 101, 118, 101, 108, 115]⟩ ⟨#[]⟩ = true then
    (if numP (fieldD (standsD l ⟨#[109, 46, 114, 111, 111, 109, 46, 112, 111, 119, 101, 114, 95, 108, 101, 118, 101, 108, 115]⟩ ⟨#[]⟩).content ⟨#[117, 115, 101, 114, 115]⟩) user = true then numT (fieldD (standsD l ⟨#[109, 46, 114, 111, 111, 109, 46, 112, 111, 119, 101, 114, 95, 108, 101, 118, 101, 108, 115]⟩ ⟨#[]⟩).content ⟨#[117, 115, 101, 114, 115]⟩) user
     else numT (standsD l ⟨#[109, 46, 114, 111, 111, 109, 46, 112, 111, 119, 101, 114, 95, 108, 101, 118, 101, 108, 115]⟩ ⟨#[]⟩).content ⟨#[117, 115, 101, 114, 115, 95, 100, 101, 102, 97, 117, 108, 116]⟩)
  else if ((standsB l ⟨#[109, 46, 114, 111, 111, 109, 46, 99, 114, 101, 97, 116, 101]⟩ ⟨#[]⟩) && ((standsD l ⟨#[109, 46, 114, 111, 111, 109, 46, 99, 114, 101, 97, 116, 101]⟩ ⟨#[]⟩).sender.toList == user.toList)) = true then 100 else 0

set_option maxHeartbeats 2000000 in
theorem level_any (l : List Ev) (A : Option Addr) (n c : Nat) (user : ByteArray) (w : World) (EV : IsEvs w A 0 l) (hn : n = l.length) (hnb : n ≤ 9223372036854775807) :
    Calls Try.prog 17 #[.slice A n c, .string user] w fun e w' => e = .returned (.int .i64 (levelS l user)) ∧ Below w.heap.size w w' := by
  have HN := Lib.hid hn
  clear hn
  have HB := Below.refl w.heap.size w
  go_enter Try.func17, Try.ntmps17
  go_wp2_with (first
    | (go_at_call 34; (with_reducible refine (findB_any l A n c _ _ _ EV HN.out hnb).mono ?_); rintro e w1 ⟨rfl, hb⟩; replace HB := HB.trans (hb.mono HB.size); (try replace EV := EV.below hb); (try replace B5 := IBox.below B5 hb (IBox.lt B5)); (try replace B7 := IBox.below B7 hb (IBox.lt B7)); (try replace B9 := IBox.below B9 hb (IBox.lt B9)); (try replace c7_3 := cell_below hb c7_3); clear hb)
    | (refine wpl_newbox 5 rfl rfl 32 rfl rfl (.tmp 18) rfl _ zeroE _ rfl rfl info_event rfl (ev_one _) ?_; intro w1 hw; have hb := hid_grow hw; have B5 := (hid_alloc hw).1; replace HB := HB.trans (hb.mono HB.size); (try replace EV := EV.below hb); (try replace B7 := IBox.below B7 hb (IBox.lt B7)); (try replace B9 := IBox.below B9 hb (IBox.lt B9)); (try replace c7_3 := cell_below hb c7_3); clear hb hw)
    | (refine wpl_newbox 7 rfl rfl 32 rfl rfl (.tmp 25) rfl _ zeroE _ rfl rfl info_event rfl (ev_one _) ?_; intro w1 hw; have hb := hid_grow hw; have B7 := (hid_alloc hw).1; replace HB := HB.trans (hb.mono HB.size); (try replace EV := EV.below hb); (try replace B5 := IBox.below B5 hb (IBox.lt B5)); (try replace B9 := IBox.below B9 hb (IBox.lt B9)); clear hb hw; have c7_3 : w1.cell? ⟨_, 3, none⟩ = some (.string (standsD l ⟨#[109, 46, 114, 111, 111, 109, 46, 99, 114, 101, 97, 116, 101]⟩ ⟨#[]⟩).sender) := B7.cell 3)
    | (refine wpl_newbox 9 rfl rfl 30 rfl rfl (.tmp 38) rfl _ zeroV _ rfl rfl info_value rfl (jv_one _) ?_; intro w1 hw; have hb := hid_grow hw; have B9 := (hid_alloc hw).1; replace HB := HB.trans (hb.mono HB.size); (try replace EV := EV.below hb); (try replace B5 := IBox.below B5 hb (IBox.lt B5)); (try replace B7 := IBox.below B7 hb (IBox.lt B7)); (try replace c7_3 := cell_below hb c7_3); clear hb hw)
    | (refine wpl_load_arr rfl 30 (.tmp 35) rfl _ 10 rfl _ _ (ev_content B5) Try.underlying30 rfl info_value ?_)
    | (refine wpl_load_arr rfl 30 (.tmp 49) rfl _ 10 rfl _ _ (ev_content B5) Try.underlying30 rfl info_value ?_)
    | (refine wpl_load_box rfl 30 (.tmp 9) rfl _ rfl _ _ _ B9 Try.underlying30 rfl info_value ?_)
    | (go_at_call 35; (with_reducible refine (afield_any _ _ _ (stands_is EV _ _).content).mono ?_); rintro e w1 ⟨rfl, hb⟩; replace HB := HB.trans (hb.mono HB.size); (try replace EV := EV.below hb); (try replace B5 := IBox.below B5 hb (IBox.lt B5)); (try replace B7 := IBox.below B7 hb (IBox.lt B7)); (try replace B9 := IBox.below B9 hb (IBox.lt B9)); (try replace c7_3 := cell_below hb c7_3); clear hb)
    | (go_at_call 36; (with_reducible refine (anum_any _ _ _ (field_is (stands_is EV _ _).content _)).mono ?_); rintro e w1 ⟨rfl, hb⟩; replace HB := HB.trans (hb.mono HB.size); (try replace EV := EV.below hb); (try replace B5 := IBox.below B5 hb (IBox.lt B5)); (try replace B7 := IBox.below B7 hb (IBox.lt B7)); (try replace B9 := IBox.below B9 hb (IBox.lt B9)); (try replace c7_3 := cell_below hb c7_3); clear hb)
    | (go_at_call 36; (with_reducible refine (anum_any _ _ _ (stands_is EV _ _).content).mono ?_); rintro e w1 ⟨rfl, hb⟩; replace HB := HB.trans (hb.mono HB.size); (try replace EV := EV.below hb); (try replace B5 := IBox.below B5 hb (IBox.lt B5)); (try replace B7 := IBox.below B7 hb (IBox.lt B7)); (try replace B9 := IBox.below B9 hb (IBox.lt B9)); (try replace c7_3 := cell_below hb c7_3); clear hb))
  all_goals
    go_ret
    exact ⟨ret_int (by unfold levelS; simp_all), HB⟩

theorem ev_raw {w : World} {g : Nat} {t : TypeId} {e : Ev} (h : IBox w g t e.cells) : w.rangeAt g 16 e.raw.cells.toList := by
  have hc := h.cell
  intro j v hv
  have hj : j < 6 := (List.getElem?_eq_some_iff.1 hv).1
  rw [hc]
  match j, hj with
  | 0, _ => exact hv
  | 1, _ => exact hv
  | 2, _ => exact hv
  | 3, _ => exact hv
  | 4, _ => exact hv
  | 5, _ => exact hv
theorem numT_no {j : JV} {name : ByteArray} (h : numP j name = false) : numT j name = 0 := by
  unfold numT
  rw [h]
  rfl
theorem ret_str {a b : ByteArray} (h : a = b) : Ending.returned (.string a) = .returned (.string b) := by rw [h]

def memberS (l : List Ev) (user : ByteArray) : ByteArray :=
  if ((standsB l ⟨#[109, 46, 114, 111, 111, 109, 46, 109, 101, 109, 98, 101, 114]⟩ user) && wordP (standsD l ⟨#[109, 46, 114, 111, 111, 109, 46, 109, 101, 109, 98, 101, 114]⟩ user).content ⟨#[109, 101, 109, 98, 101, 114, 115, 104, 105, 112]⟩) = true then wordT (standsD l ⟨#[109, 46, 114, 111, 111, 109, 46, 109, 101, 109, 98, 101, 114]⟩ user).content ⟨#[109, 101, 109, 98, 101, 114, 115, 104, 105, 112]⟩ else ⟨#[108, 101, 97, 118, 101]⟩
def ruleS (l : List Ev) : ByteArray :=
  if ((standsB l ⟨#[109, 46, 114, 111, 111, 109, 46, 106, 111, 105, 110, 95, 114, 117, 108, 101, 115]⟩ ⟨#[]⟩) && wordP (standsD l ⟨#[109, 46, 114, 111, 111, 109, 46, 106, 111, 105, 110, 95, 114, 117, 108, 101, 115]⟩ ⟨#[]⟩).content ⟨#[106, 111, 105, 110, 95, 114, 117, 108, 101]⟩) = true then wordT (standsD l ⟨#[109, 46, 114, 111, 111, 109, 46, 106, 111, 105, 110, 95, 114, 117, 108, 101, 115]⟩ ⟨#[]⟩).content ⟨#[106, 111, 105, 110, 95, 114, 117, 108, 101]⟩ else ⟨#[105, 110, 118, 105, 116, 101]⟩
def needS (l : List Ev) (name : ByteArray) : Int :=
  if ((standsB l ⟨#[109, 46, 114, 111, 111, 109, 46, 112, 111, 119, 101, 114, 95, 108, 101, 118, 101, 108, 115]⟩ ⟨#[]⟩) && numP (standsD l ⟨#[109, 46, 114, 111, 111, 109, 46, 112, 111, 119, 101, 114, 95, 108, 101, 118, 101, 108, 115]⟩ ⟨#[]⟩).content name) = true then numT (standsD l ⟨#[109, 46, 114, 111, 111, 109, 46, 112, 111, 119, 101, 114, 95, 108, 101, 118, 101, 108, 115]⟩ ⟨#[]⟩).content name
  else if (name.toList == [105, 110, 118, 105, 116, 101]) = true then 0 else 50
def needForS (l : List Ev) (e : Ev) : Int :=
  if (standsB l ⟨#[109, 46, 114, 111, 111, 109, 46, 112, 111, 119, 101, 114, 95, 108, 101, 118, 101, 108, 115]⟩ ⟨#[]⟩) = true then
    (if numP (fieldD (standsD l ⟨#[109, 46, 114, 111, 111, 109, 46, 112, 111, 119, 101, 114, 95, 108, 101, 118, 101, 108, 115]⟩ ⟨#[]⟩).content ⟨#[101, 118, 101, 110, 116, 115]⟩) e.ty = true then numT (fieldD (standsD l ⟨#[109, 46, 114, 111, 111, 109, 46, 112, 111, 119, 101, 114, 95, 108, 101, 118, 101, 108, 115]⟩ ⟨#[]⟩).content ⟨#[101, 118, 101, 110, 116, 115]⟩) e.ty
     else if e.hasKey = true then (if numP (standsD l ⟨#[109, 46, 114, 111, 111, 109, 46, 112, 111, 119, 101, 114, 95, 108, 101, 118, 101, 108, 115]⟩ ⟨#[]⟩).content ⟨#[115, 116, 97, 116, 101, 95, 100, 101, 102, 97, 117, 108, 116]⟩ = true then numT (standsD l ⟨#[109, 46, 114, 111, 111, 109, 46, 112, 111, 119, 101, 114, 95, 108, 101, 118, 101, 108, 115]⟩ ⟨#[]⟩).content ⟨#[115, 116, 97, 116, 101, 95, 100, 101, 102, 97, 117, 108, 116]⟩ else 50)
     else (if numP (standsD l ⟨#[109, 46, 114, 111, 111, 109, 46, 112, 111, 119, 101, 114, 95, 108, 101, 118, 101, 108, 115]⟩ ⟨#[]⟩).content ⟨#[101, 118, 101, 110, 116, 115, 95, 100, 101, 102, 97, 117, 108, 116]⟩ = true then numT (standsD l ⟨#[109, 46, 114, 111, 111, 109, 46, 112, 111, 119, 101, 114, 95, 108, 101, 118, 101, 108, 115]⟩ ⟨#[]⟩).content ⟨#[101, 118, 101, 110, 116, 115, 95, 100, 101, 102, 97, 117, 108, 116]⟩ else 0))
  else 0

set_option maxRecDepth 100000 in
set_option maxHeartbeats 2000000 in
theorem rlevel_any (l : List Ev) (A : Option Addr) (n c : Nat) (user : ByteArray) (w : World) (EV : IsEvs w A 0 l) (hn : n = l.length) (hnb : n ≤ 9223372036854775807) :
    Calls Try.prog 8 #[.string user, .slice A n c] w fun e w' => e = .returned (.int .i64 (levelS l user)) ∧ Below w.heap.size w w' := by
  have HN := Lib.hid hn
  clear hn
  have HB := Below.refl w.heap.size w
  go_enter Try.func8, Try.ntmps8
  go_wp2_with (first
    | (go_at_call 11; (with_reducible refine (standsB_any l A n c _ _ _ EV HN.out hnb).mono ?_); rintro e w1 ⟨rfl, hb⟩; replace HB := HB.trans (hb.mono HB.size); (try replace EV := EV.below hb); (try replace B5 := IBox.below B5 hb (IBox.lt B5)); (try replace B7 := IBox.below B7 hb (IBox.lt B7)); (try replace B9 := IBox.below B9 hb (IBox.lt B9)); (try replace c7_3 := cell_below hb c7_3); clear hb)
    | (refine wpl_newbox 5 rfl rfl 32 rfl rfl (.tmp 16) rfl _ zeroE _ rfl rfl info_event rfl (ev_one _) ?_; intro w1 hw; have hb := hid_grow hw; have B5 := (hid_alloc hw).1; replace HB := HB.trans (hb.mono HB.size); (try replace EV := EV.below hb); (try replace B7 := IBox.below B7 hb (IBox.lt B7)); (try replace B9 := IBox.below B9 hb (IBox.lt B9)); (try replace c7_3 := cell_below hb c7_3); clear hb hw)
    | (refine wpl_newbox 7 rfl rfl 32 rfl rfl (.tmp 23) rfl _ zeroE _ rfl rfl info_event rfl (ev_one _) ?_; intro w1 hw; have hb := hid_grow hw; have B7 := (hid_alloc hw).1; replace HB := HB.trans (hb.mono HB.size); (try replace EV := EV.below hb); (try replace B5 := IBox.below B5 hb (IBox.lt B5)); (try replace B9 := IBox.below B9 hb (IBox.lt B9)); clear hb hw; have c7_3 : w1.cell? ⟨_, 3, none⟩ = some (.string (standsD l ⟨#[109, 46, 114, 111, 111, 109, 46, 99, 114, 101, 97, 116, 101]⟩ ⟨#[]⟩).sender) := B7.cell 3)
    | (refine wpl_load_arr rfl 30 (.tmp 33) rfl _ 10 rfl _ _ (ev_content B5) Try.underlying30 rfl info_value ?_)
    | (go_at_call 18; (with_reducible refine (rfield_any _ _ _ (stands_is EV _ _).content).mono ?_); rintro e w1 ⟨rfl, hb⟩; replace HB := HB.trans (hb.mono HB.size); (try replace EV := EV.below hb); (try replace B5 := IBox.below B5 hb (IBox.lt B5)); (try replace B7 := IBox.below B7 hb (IBox.lt B7)); (try replace B9 := IBox.below B9 hb (IBox.lt B9)); (try replace c7_3 := cell_below hb c7_3); clear hb)
    | (refine wpl_newbox 9 rfl rfl 30 rfl rfl (.tmp 36) rfl _ zeroV _ rfl rfl info_value rfl (jv_one _) ?_; intro w1 hw; have hb := hid_grow hw; have B9 := (hid_alloc hw).1; replace HB := HB.trans (hb.mono HB.size); (try replace EV := EV.below hb); (try replace B5 := IBox.below B5 hb (IBox.lt B5)); (try replace B7 := IBox.below B7 hb (IBox.lt B7)); (try replace c7_3 := cell_below hb c7_3); clear hb hw)
    | (refine wpl_load_box rfl 30 (.tmp 9) rfl _ rfl _ _ _ B9 Try.underlying30 rfl info_value ?_)
    | (go_at_call 19; (with_reducible refine (rnum_any _ _ _ (field_is (stands_is EV _ _).content _)).mono ?_); rintro e w1 ⟨rfl, hb⟩; replace HB := HB.trans (hb.mono HB.size); (try replace EV := EV.below hb); (try replace B5 := IBox.below B5 hb (IBox.lt B5)); (try replace B7 := IBox.below B7 hb (IBox.lt B7)); (try replace B9 := IBox.below B9 hb (IBox.lt B9)); (try replace c7_3 := cell_below hb c7_3); clear hb)
    | (refine wpl_load_arr rfl 30 (.tmp 47) rfl _ 10 rfl _ _ (ev_content B5) Try.underlying30 rfl info_value ?_)
    | (go_at_call 19; (with_reducible refine (rnum_any _ _ _ (stands_is EV _ _).content).mono ?_); rintro e w1 ⟨rfl, hb⟩; replace HB := HB.trans (hb.mono HB.size); (try replace EV := EV.below hb); (try replace B5 := IBox.below B5 hb (IBox.lt B5)); (try replace B7 := IBox.below B7 hb (IBox.lt B7)); (try replace B9 := IBox.below B9 hb (IBox.lt B9)); (try replace c7_3 := cell_below hb c7_3); clear hb))
  all_goals
    go_ret
    exact ⟨ret_int (by unfold levelS; first | (simp_all; done) | (simp_all [numT_no]; done)), HB⟩

set_option maxRecDepth 100000 in
set_option maxHeartbeats 2000000 in
theorem amember_any (l : List Ev) (A : Option Addr) (n c : Nat) (user : ByteArray) (w : World) (EV : IsEvs w A 0 l) (hn : n = l.length) (hnb : n ≤ 9223372036854775807) :
    Calls Try.prog 44 #[.slice A n c, .string user] w fun e w' => e = .returned (.string (memberS l user)) ∧ Below w.heap.size w w' := by
  have HN := Lib.hid hn
  clear hn
  have HB := Below.refl w.heap.size w
  go_enter Try.func44, Try.ntmps44
  go_wp2_with (first
    | (go_at_call 34; (with_reducible refine (findB_any l A n c _ _ _ EV HN.out hnb).mono ?_); rintro e w1 ⟨rfl, hb⟩; replace HB := HB.trans (hb.mono HB.size); (try replace EV := EV.below hb); (try replace B5 := IBox.below B5 hb (IBox.lt B5)); clear hb)
    | (refine wpl_newbox 5 rfl rfl 32 rfl rfl (.tmp 13) rfl _ zeroE _ rfl rfl info_event rfl (ev_one _) ?_; intro w1 hw; have hb := hid_grow hw; have B5 := (hid_alloc hw).1; replace HB := HB.trans (hb.mono HB.size); (try replace EV := EV.below hb); clear hb hw)
    | (refine wpl_load_arr rfl 30 (.tmp 17) rfl _ 10 rfl _ _ (ev_content B5) Try.underlying30 rfl info_value ?_)
    | (go_at_call 33; (with_reducible refine (aword_any _ _ _ (stands_is EV _ _).content).mono ?_); rintro e w1 ⟨rfl, hb⟩; replace HB := HB.trans (hb.mono HB.size); (try replace EV := EV.below hb); (try replace B5 := IBox.below B5 hb (IBox.lt B5)); clear hb))
  all_goals
    go_ret
    exact ⟨ret_str (by unfold memberS; first | (simp_all; done) | (simp_all [numT_no]; done)), HB⟩

set_option maxRecDepth 100000 in
set_option maxHeartbeats 2000000 in
theorem rmember_any (l : List Ev) (A : Option Addr) (n c : Nat) (user : ByteArray) (w : World) (EV : IsEvs w A 0 l) (hn : n = l.length) (hnb : n ≤ 9223372036854775807) :
    Calls Try.prog 28 #[.slice A n c, .string user] w fun e w' => e = .returned (.string (memberS l user)) ∧ Below w.heap.size w w' := by
  have HN := Lib.hid hn
  clear hn
  have HB := Below.refl w.heap.size w
  go_enter Try.func28, Try.ntmps28
  go_wp2_with (first
    | (go_at_call 11; (with_reducible refine (standsB_any l A n c _ _ _ EV HN.out hnb).mono ?_); rintro e w1 ⟨rfl, hb⟩; replace HB := HB.trans (hb.mono HB.size); (try replace EV := EV.below hb); (try replace B5 := IBox.below B5 hb (IBox.lt B5)); clear hb)
    | (refine wpl_newbox 5 rfl rfl 32 rfl rfl (.tmp 13) rfl _ zeroE _ rfl rfl info_event rfl (ev_one _) ?_; intro w1 hw; have hb := hid_grow hw; have B5 := (hid_alloc hw).1; replace HB := HB.trans (hb.mono HB.size); (try replace EV := EV.below hb); clear hb hw)
    | (refine wpl_load_arr rfl 30 (.tmp 16) rfl _ 10 rfl _ _ (ev_content B5) Try.underlying30 rfl info_value ?_)
    | (go_at_call 12; (with_reducible refine (rword_any _ _ _ (stands_is EV _ _).content).mono ?_); rintro e w1 ⟨rfl, hb⟩; replace HB := HB.trans (hb.mono HB.size); (try replace EV := EV.below hb); (try replace B5 := IBox.below B5 hb (IBox.lt B5)); clear hb))
  all_goals
    go_ret
    exact ⟨ret_str (by unfold memberS; first | (simp_all; done) | (simp_all [numT_no]; done)), HB⟩

set_option maxRecDepth 100000 in
set_option maxHeartbeats 2000000 in
theorem rule_any (l : List Ev) (A : Option Addr) (n c : Nat) (w : World) (EV : IsEvs w A 0 l) (hn : n = l.length) (hnb : n ≤ 9223372036854775807) :
    Calls Try.prog 68 #[.slice A n c] w fun e w' => e = .returned (.string (ruleS l)) ∧ Below w.heap.size w w' := by
  have HN := Lib.hid hn
  clear hn
  have HB := Below.refl w.heap.size w
  go_enter Try.func68, Try.ntmps68
  go_wp2_with (first
    | (go_at_call 34; (with_reducible refine (findB_any l A n c _ _ _ EV HN.out hnb).mono ?_); rintro e w1 ⟨rfl, hb⟩; replace HB := HB.trans (hb.mono HB.size); (try replace EV := EV.below hb); (try replace B3 := IBox.below B3 hb (IBox.lt B3)); clear hb)
    | (refine wpl_newbox 3 rfl rfl 32 rfl rfl (.tmp 10) rfl _ zeroE _ rfl rfl info_event rfl (ev_one _) ?_; intro w1 hw; have hb := hid_grow hw; have B3 := (hid_alloc hw).1; replace HB := HB.trans (hb.mono HB.size); (try replace EV := EV.below hb); clear hb hw)
    | (refine wpl_load_arr rfl 30 (.tmp 14) rfl _ 10 rfl _ _ (ev_content B3) Try.underlying30 rfl info_value ?_)
    | (go_at_call 33; (with_reducible refine (aword_any _ _ _ (stands_is EV _ _).content).mono ?_); rintro e w1 ⟨rfl, hb⟩; replace HB := HB.trans (hb.mono HB.size); (try replace EV := EV.below hb); (try replace B3 := IBox.below B3 hb (IBox.lt B3)); clear hb))
  all_goals
    go_ret
    exact ⟨ret_str (by unfold ruleS; first | (simp_all; done) | (simp_all [numT_no]; done)), HB⟩

set_option maxRecDepth 100000 in
set_option maxHeartbeats 2000000 in
theorem need_any (l : List Ev) (A : Option Addr) (n c : Nat) (name : ByteArray) (w : World) (EV : IsEvs w A 0 l) (hn : n = l.length) (hnb : n ≤ 9223372036854775807) :
    Calls Try.prog 45 #[.slice A n c, .string name] w fun e w' => e = .returned (.int .i64 (needS l name)) ∧ Below w.heap.size w w' := by
  have HN := Lib.hid hn
  clear hn
  have HB := Below.refl w.heap.size w
  go_enter Try.func45, Try.ntmps45
  go_wp2_with (first
    | (go_at_call 34; (with_reducible refine (findB_any l A n c _ _ _ EV HN.out hnb).mono ?_); rintro e w1 ⟨rfl, hb⟩; replace HB := HB.trans (hb.mono HB.size); (try replace EV := EV.below hb); (try replace B5 := IBox.below B5 hb (IBox.lt B5)); clear hb)
    | (refine wpl_newbox 5 rfl rfl 32 rfl rfl (.tmp 12) rfl _ zeroE _ rfl rfl info_event rfl (ev_one _) ?_; intro w1 hw; have hb := hid_grow hw; have B5 := (hid_alloc hw).1; replace HB := HB.trans (hb.mono HB.size); (try replace EV := EV.below hb); clear hb hw)
    | (refine wpl_load_arr rfl 30 (.tmp 16) rfl _ 10 rfl _ _ (ev_content B5) Try.underlying30 rfl info_value ?_)
    | (go_at_call 36; (with_reducible refine (anum_any _ _ _ (stands_is EV _ _).content).mono ?_); rintro e w1 ⟨rfl, hb⟩; replace HB := HB.trans (hb.mono HB.size); (try replace EV := EV.below hb); (try replace B5 := IBox.below B5 hb (IBox.lt B5)); clear hb))
  all_goals
    go_ret
    exact ⟨ret_int (by unfold needS; first | (simp_all; done) | (simp_all [numT_no]; done)), HB⟩

set_option maxRecDepth 100000 in
set_option maxHeartbeats 2000000 in
theorem rneed_any (l : List Ev) (A : Option Addr) (n c : Nat) (name : ByteArray) (w : World) (EV : IsEvs w A 0 l) (hn : n = l.length) (hnb : n ≤ 9223372036854775807) :
    Calls Try.prog 55 #[.slice A n c, .string name] w fun e w' => e = .returned (.int .i64 (needS l name)) ∧ Below w.heap.size w w' := by
  have HN := Lib.hid hn
  clear hn
  have HB := Below.refl w.heap.size w
  go_enter Try.func55, Try.ntmps55
  go_wp2_with (first
    | (go_at_call 11; (with_reducible refine (standsB_any l A n c _ _ _ EV HN.out hnb).mono ?_); rintro e w1 ⟨rfl, hb⟩; replace HB := HB.trans (hb.mono HB.size); (try replace EV := EV.below hb); (try replace B5 := IBox.below B5 hb (IBox.lt B5)); clear hb)
    | (refine wpl_newbox 5 rfl rfl 32 rfl rfl (.tmp 12) rfl _ zeroE _ rfl rfl info_event rfl (ev_one _) ?_; intro w1 hw; have hb := hid_grow hw; have B5 := (hid_alloc hw).1; replace HB := HB.trans (hb.mono HB.size); (try replace EV := EV.below hb); clear hb hw)
    | (refine wpl_load_arr rfl 30 (.tmp 15) rfl _ 10 rfl _ _ (ev_content B5) Try.underlying30 rfl info_value ?_)
    | (go_at_call 19; (with_reducible refine (rnum_any _ _ _ (stands_is EV _ _).content).mono ?_); rintro e w1 ⟨rfl, hb⟩; replace HB := HB.trans (hb.mono HB.size); (try replace EV := EV.below hb); (try replace B5 := IBox.below B5 hb (IBox.lt B5)); clear hb))
  all_goals
    go_ret
    exact ⟨ret_int (by unfold needS; first | (simp_all; done) | (simp_all [numT_no]; done)), HB⟩

set_option maxRecDepth 100000 in
set_option maxHeartbeats 2000000 in
theorem needFor_any (l : List Ev) (A : Option Addr) (n c : Nat) (ex : Ev) (w : World) (HE : IsEv w ex) (EV : IsEvs w A 0 l) (hn : n = l.length) (hnb : n ≤ 9223372036854775807) :
    Calls Try.prog 46 #[.slice A n c, .agg ex.cells] w fun e w' => e = .returned (.int .i64 (needForS l ex)) ∧ Below w.heap.size w w' := by
  have HN := Lib.hid hn
  clear hn
  have HB := Below.refl w.heap.size w
  go_enter Try.func46, Try.ntmps46
  go_wp2_with (first
    | (refine wpl_box_at rfl 32 (.tmp 1) rfl _ rfl ?_; intro w1 hw; have hb := hid_grow hw; have B3 := (hid_alloc hw).1; replace HB := HB.trans (hb.mono HB.size); (try replace EV := EV.below hb); (try replace HE := HE.below hb); (try replace B5 := IBox.below B5 hb (IBox.lt B5)); (try replace B7 := IBox.below B7 hb (IBox.lt B7)); clear hb hw; have c3_1 : w1.cell? ⟨_, 1, none⟩ = some (.string ex.ty) := B3.cell 1; have c3_4 : w1.cell? ⟨_, 4, none⟩ = some (.bool ex.hasKey) := B3.cell 4)
    | (go_at_call 34; (with_reducible refine (findB_any l A n c _ _ _ EV HN.out hnb).mono ?_); rintro e w1 ⟨rfl, hb⟩; replace HB := HB.trans (hb.mono HB.size); (try replace EV := EV.below hb); (try replace HE := HE.below hb); (try replace B3 := IBox.below B3 hb (IBox.lt B3)); (try replace B5 := IBox.below B5 hb (IBox.lt B5)); (try replace B7 := IBox.below B7 hb (IBox.lt B7)); (try replace c3_1 := cell_below hb c3_1); (try replace c3_4 := cell_below hb c3_4); clear hb)
    | (refine wpl_newbox 5 rfl rfl 32 rfl rfl (.tmp 18) rfl _ zeroE _ rfl rfl info_event rfl (ev_one _) ?_; intro w1 hw; have hb := hid_grow hw; have B5 := (hid_alloc hw).1; replace HB := HB.trans (hb.mono HB.size); (try replace EV := EV.below hb); (try replace HE := HE.below hb); (try replace B3 := IBox.below B3 hb (IBox.lt B3)); (try replace B7 := IBox.below B7 hb (IBox.lt B7)); (try replace c3_1 := cell_below hb c3_1); (try replace c3_4 := cell_below hb c3_4); clear hb hw)
    | (refine wpl_load_arr rfl 30 (.tmp 23) rfl _ 10 rfl _ _ (ev_content B5) Try.underlying30 rfl info_value ?_)
    | (go_at_call 35; (with_reducible refine (afield_any _ _ _ (stands_is EV _ _).content).mono ?_); rintro e w1 ⟨rfl, hb⟩; replace HB := HB.trans (hb.mono HB.size); (try replace EV := EV.below hb); (try replace HE := HE.below hb); (try replace B3 := IBox.below B3 hb (IBox.lt B3)); (try replace B5 := IBox.below B5 hb (IBox.lt B5)); (try replace B7 := IBox.below B7 hb (IBox.lt B7)); (try replace c3_1 := cell_below hb c3_1); (try replace c3_4 := cell_below hb c3_4); clear hb)
    | (refine wpl_newbox 7 rfl rfl 30 rfl rfl (.tmp 26) rfl _ zeroV _ rfl rfl info_value rfl (jv_one _) ?_; intro w1 hw; have hb := hid_grow hw; have B7 := (hid_alloc hw).1; replace HB := HB.trans (hb.mono HB.size); (try replace EV := EV.below hb); (try replace HE := HE.below hb); (try replace B3 := IBox.below B3 hb (IBox.lt B3)); (try replace B5 := IBox.below B5 hb (IBox.lt B5)); (try replace c3_1 := cell_below hb c3_1); (try replace c3_4 := cell_below hb c3_4); clear hb hw)
    | (refine wpl_load_box rfl 30 (.tmp 7) rfl _ rfl _ _ _ B7 Try.underlying30 rfl info_value ?_)
    | (go_at_call 36; (with_reducible refine (anum_any _ _ _ (field_is (stands_is EV _ _).content _)).mono ?_); rintro e w1 ⟨rfl, hb⟩; replace HB := HB.trans (hb.mono HB.size); (try replace EV := EV.below hb); (try replace HE := HE.below hb); (try replace B3 := IBox.below B3 hb (IBox.lt B3)); (try replace B5 := IBox.below B5 hb (IBox.lt B5)); (try replace B7 := IBox.below B7 hb (IBox.lt B7)); (try replace c3_1 := cell_below hb c3_1); (try replace c3_4 := cell_below hb c3_4); clear hb)
    | (refine wpl_load_arr rfl 30 (.tmp 40) rfl _ 10 rfl _ _ (ev_content B5) Try.underlying30 rfl info_value ?_)
    | (go_at_call 36; (with_reducible refine (anum_any _ _ _ (stands_is EV _ _).content).mono ?_); rintro e w1 ⟨rfl, hb⟩; replace HB := HB.trans (hb.mono HB.size); (try replace EV := EV.below hb); (try replace HE := HE.below hb); (try replace B3 := IBox.below B3 hb (IBox.lt B3)); (try replace B5 := IBox.below B5 hb (IBox.lt B5)); (try replace B7 := IBox.below B7 hb (IBox.lt B7)); (try replace c3_1 := cell_below hb c3_1); (try replace c3_4 := cell_below hb c3_4); clear hb))
  all_goals
    go_ret
    exact ⟨ret_int (by unfold needForS; first | (simp_all; done) | (simp_all [numT_no]; done)), HB⟩

set_option maxRecDepth 100000 in
set_option maxHeartbeats 2000000 in
theorem rneedFor_any (l : List Ev) (A : Option Addr) (n c : Nat) (ex : Ev) (w : World) (HE : IsEv w ex) (EV : IsEvs w A 0 l) (hn : n = l.length) (hnb : n ≤ 9223372036854775807) :
    Calls Try.prog 29 #[.slice A n c, .agg ex.cells] w fun e w' => e = .returned (.int .i64 (needForS l ex)) ∧ Below w.heap.size w w' := by
  have HN := Lib.hid hn
  clear hn
  have HB := Below.refl w.heap.size w
  go_enter Try.func29, Try.ntmps29
  go_wp2_with (first
    | (refine wpl_box_at rfl 32 (.tmp 1) rfl _ rfl ?_; intro w1 hw; have hb := hid_grow hw; have B3 := (hid_alloc hw).1; replace HB := HB.trans (hb.mono HB.size); (try replace EV := EV.below hb); (try replace HE := HE.below hb); (try replace B5 := IBox.below B5 hb (IBox.lt B5)); (try replace B7 := IBox.below B7 hb (IBox.lt B7)); clear hb hw; have c3_1 : w1.cell? ⟨_, 1, none⟩ = some (.string ex.ty) := B3.cell 1; have c3_4 : w1.cell? ⟨_, 4, none⟩ = some (.bool ex.hasKey) := B3.cell 4)
    | (go_at_call 11; (with_reducible refine (standsB_any l A n c _ _ _ EV HN.out hnb).mono ?_); rintro e w1 ⟨rfl, hb⟩; replace HB := HB.trans (hb.mono HB.size); (try replace EV := EV.below hb); (try replace HE := HE.below hb); (try replace B3 := IBox.below B3 hb (IBox.lt B3)); (try replace B5 := IBox.below B5 hb (IBox.lt B5)); (try replace B7 := IBox.below B7 hb (IBox.lt B7)); (try replace c3_1 := cell_below hb c3_1); (try replace c3_4 := cell_below hb c3_4); clear hb)
    | (refine wpl_newbox 5 rfl rfl 32 rfl rfl (.tmp 16) rfl _ zeroE _ rfl rfl info_event rfl (ev_one _) ?_; intro w1 hw; have hb := hid_grow hw; have B5 := (hid_alloc hw).1; replace HB := HB.trans (hb.mono HB.size); (try replace EV := EV.below hb); (try replace HE := HE.below hb); (try replace B3 := IBox.below B3 hb (IBox.lt B3)); (try replace B7 := IBox.below B7 hb (IBox.lt B7)); (try replace c3_1 := cell_below hb c3_1); (try replace c3_4 := cell_below hb c3_4); clear hb hw)
    | (refine wpl_load_arr rfl 30 (.tmp 21) rfl _ 10 rfl _ _ (ev_content B5) Try.underlying30 rfl info_value ?_)
    | (go_at_call 18; (with_reducible refine (rfield_any _ _ _ (stands_is EV _ _).content).mono ?_); rintro e w1 ⟨rfl, hb⟩; replace HB := HB.trans (hb.mono HB.size); (try replace EV := EV.below hb); (try replace HE := HE.below hb); (try replace B3 := IBox.below B3 hb (IBox.lt B3)); (try replace B5 := IBox.below B5 hb (IBox.lt B5)); (try replace B7 := IBox.below B7 hb (IBox.lt B7)); (try replace c3_1 := cell_below hb c3_1); (try replace c3_4 := cell_below hb c3_4); clear hb)
    | (refine wpl_newbox 7 rfl rfl 30 rfl rfl (.tmp 24) rfl _ zeroV _ rfl rfl info_value rfl (jv_one _) ?_; intro w1 hw; have hb := hid_grow hw; have B7 := (hid_alloc hw).1; replace HB := HB.trans (hb.mono HB.size); (try replace EV := EV.below hb); (try replace HE := HE.below hb); (try replace B3 := IBox.below B3 hb (IBox.lt B3)); (try replace B5 := IBox.below B5 hb (IBox.lt B5)); (try replace c3_1 := cell_below hb c3_1); (try replace c3_4 := cell_below hb c3_4); clear hb hw)
    | (refine wpl_load_box rfl 30 (.tmp 7) rfl _ rfl _ _ _ B7 Try.underlying30 rfl info_value ?_)
    | (go_at_call 19; (with_reducible refine (rnum_any _ _ _ (field_is (stands_is EV _ _).content _)).mono ?_); rintro e w1 ⟨rfl, hb⟩; replace HB := HB.trans (hb.mono HB.size); (try replace EV := EV.below hb); (try replace HE := HE.below hb); (try replace B3 := IBox.below B3 hb (IBox.lt B3)); (try replace B5 := IBox.below B5 hb (IBox.lt B5)); (try replace B7 := IBox.below B7 hb (IBox.lt B7)); (try replace c3_1 := cell_below hb c3_1); (try replace c3_4 := cell_below hb c3_4); clear hb)
    | (refine wpl_load_arr rfl 30 (.tmp 38) rfl _ 10 rfl _ _ (ev_content B5) Try.underlying30 rfl info_value ?_)
    | (go_at_call 19; (with_reducible refine (rnum_any _ _ _ (stands_is EV _ _).content).mono ?_); rintro e w1 ⟨rfl, hb⟩; replace HB := HB.trans (hb.mono HB.size); (try replace EV := EV.below hb); (try replace HE := HE.below hb); (try replace B3 := IBox.below B3 hb (IBox.lt B3)); (try replace B5 := IBox.below B5 hb (IBox.lt B5)); (try replace B7 := IBox.below B7 hb (IBox.lt B7)); (try replace c3_1 := cell_below hb c3_1); (try replace c3_4 := cell_below hb c3_4); clear hb))
  all_goals
    go_ret
    exact ⟨ret_int (by unfold needForS; first | (simp_all; done) | (simp_all [numT_no]; done)), HB⟩
end Go.Proofs.Ytpmdpfgaafaceaa
