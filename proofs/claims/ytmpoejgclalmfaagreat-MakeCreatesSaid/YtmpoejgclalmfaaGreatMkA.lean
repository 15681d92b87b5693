/- Layer 19: the small makers of values. -/
import Derived.Test.YtmpoejgclalmfaaGreatMemS
import Derived.Test.YtmpoejgclalmfaaGreatAppL
import Derived.Test.YtmpoejgclalmfaaGreatRegB
import Derived.Test.YtmpoejgclalmfaaGreatOpL
import Derived.Test.YtmpoejgclalmfaaGreatNamesI
namespace Go.Proofs.YtmpoejgclalmfaaGreat
open Go.RowKit Go.PlainAid
set_option linter.unusedVariables false
set_option linter.unusedSimpArgs false

mutual
theorem IsJV.below {w w' : World} (hb : Below w.heap.size w w') : ∀ {j : JV}, IsJV w j → IsJV w' j
  | .mk v l ns vs, h => by
    unfold IsJV at h ⊢
    exact ⟨⟨h.1.1, h.1.2.1, h.1.2.2.1, h.1.2.2.2.1, h.1.2.2.2.2.1, h.1.2.2.2.2.2.1, h.1.2.2.2.2.2.2.1, h.1.2.2.2.2.2.2.2.1, h.1.2.2.2.2.2.2.2.2.below hb⟩, h.2.1.below hb, h.2.2.below hb⟩
theorem IsRow.below {w w' : World} (hb : Below w.heap.size w w') {A : Option Addr} {step shift : Nat} : ∀ {l : List JV} {k : Nat}, IsRow w A step shift k l → IsRow w' A step shift k l
  | [], _, h => by unfold IsRow; exact True.intro
  | x :: r, k, h => by
    unfold IsRow at h ⊢
    obtain ⟨⟨b, off, e, hr⟩, h2, h3⟩ := h
    exact ⟨⟨b, off, e, range_below hb hr⟩, h2.below hb, h3.below hb⟩
end


theorem info_value : (Tryz.prog.info? 26).map (·.size) = some 6 := by kernel_rfl
theorem zero_value : (Tryz.prog.info? 26).map (fun i => (i.zero, i.size)) = some (some (.agg JV.zero.cells), 6) := by kernel_rfl
theorem zeroV (w : World) : (zeroValue 26).run Tryz.prog w = .ok (.agg JV.zero.cells) w := (Go.zero_of_info zero_value).1 w
theorem jv_one (j : JV) : j.cells.all (·.oneCell') = true := by simp [JV.cells, VM.cells, Value.oneCell']
theorem ret_bool2 {a b : Bool} (h : a = b) : Ending.returned (.bool a) = .returned (.bool b) := by rw [h]
def userB (s : ByteArray) : Bool := partedR s 64 userI
def roomB (s : ByteArray) : Bool := partedR s 33 roomI
theorem reach_max {s : ByteArray} (h : s.size ≤ reach) : s.size ≤ maxLen := by unfold reach at h; unfold maxLen; omega

theorem userB_any (s : ByteArray) (w : World) (hs : s.size ≤ reach) (hm : HasMax w) :
    Calls Tryz.prog 12 #[.string s] w fun e w' => e = .returned (.bool (userB s)) ∧ Below w.heap.size w w' := user_any s w (reach_max hs) hm
theorem roomB_any (s : ByteArray) (w : World) (hs : s.size ≤ reach) (hm : HasMax w) :
    Calls Tryz.prog 11 #[.string s] w fun e w' => e = .returned (.bool (roomB s)) ∧ Below w.heap.size w w' := room_any s w (reach_max hs) hm
theorem ruserB_any (s : ByteArray) (w : World) (hs : s.size ≤ reach) :
    Calls Tryz.prog 17 #[.string s] w fun e w' => e = .returned (.bool (userB s)) ∧ Below w.heap.size w w' :=
  (ruser_any s w (reach_max hs)).mono fun e w' ⟨he, hw⟩ => ⟨he, by rw [← hw]; exact Below.refl _ _⟩
theorem rroomB_any (s : ByteArray) (w : World) (hs : s.size ≤ reach) :
    Calls Tryz.prog 16 #[.string s] w fun e w' => e = .returned (.bool (roomB s)) ∧ Below w.heap.size w w' :=
  (rroom_any s w (reach_max hs)).mono fun e w' ⟨he, hw⟩ => ⟨he, by rw [← hw]; exact Below.refl _ _⟩

def exText (s : ByteArray) : JV := .mk ⟨3, false, 0, s, none, 0, 0, none, 0, 0⟩ [] [] []
def exInt (n : Int) : JV := .mk ⟨2, false, n, ⟨#[]⟩, none, 0, 0, none, 0, 0⟩ [] [] []
def exNone : JV := .mk ⟨4, false, 0, ⟨#[]⟩, none, 0, 0, none, 0, 0⟩ [] [] []
set_option maxRecDepth 10000 in
theorem mtext_any (s : ByteArray) (w : World) : Calls Tryz.prog 14 #[.string s] w fun e w' => e = .returned (.agg (exText s).cells) ∧ Below w.heap.size w w' := by
  have HB := Below.refl w.heap.size w
  go_enter Tryz.func14, Tryz.ntmps14
  go_wp2_with (first
    | (refine wpl_alloc_at rfl 26 rfl _ zeroV ?_; intro w1 hw; have B2 := hid_alloc0 hw; have hb := hid_grow hw; have G2 := HB.size; replace HB := HB.trans (hb.mono HB.size); clear hw hb)
    | ((with_reducible refine is_store ?_); refine wpl_store_at rfl 26 (.tmp 2) (.tmp 4) rfl _ (exText s).cells rfl rfl _ _ B2 info_value rfl (jv_one _) ?_; intro w2 hw; have hq := hid_row_below hw G2 HB; replace HB := hq.1; replace B2 := hid_row hw B2; clear hw hq))
  exact bodyPost_ret (results_box rfl _ _ w.heap.size 26 (exText s).cells _ rfl B2 Tryz.underlying26 rfl info_value) rfl ⟨rfl, HB⟩
set_option maxRecDepth 10000 in
theorem rtext_any (s : ByteArray) (w : World) : Calls Tryz.prog 18 #[.string s] w fun e w' => e = .returned (.agg (exText s).cells) ∧ Below w.heap.size w w' := by
  have HB := Below.refl w.heap.size w
  go_enter Tryz.func18, Tryz.ntmps18
  go_wp2_with (first
    | (refine wpl_alloc_at rfl 26 rfl _ zeroV ?_; intro w1 hw; have B2 := hid_alloc0 hw; have hb := hid_grow hw; have G2 := HB.size; replace HB := HB.trans (hb.mono HB.size); clear hw hb)
    | ((with_reducible refine is_store ?_); refine wpl_store_at rfl 26 (.tmp 2) (.tmp 4) rfl _ (exText s).cells rfl rfl _ _ B2 info_value rfl (jv_one _) ?_; intro w2 hw; have hq := hid_row_below hw G2 HB; replace HB := hq.1; replace B2 := hid_row hw B2; clear hw hq))
  exact bodyPost_ret (results_box rfl _ _ w.heap.size 26 (exText s).cells _ rfl B2 Tryz.underlying26 rfl info_value) rfl ⟨rfl, HB⟩
set_option maxRecDepth 10000 in
theorem mnumber_any (n : Int) (w : World) : Calls Tryz.prog 35 #[.int .i64 n] w fun e w' => e = .returned (.agg (exInt n).cells) ∧ Below w.heap.size w w' := by
  have HB := Below.refl w.heap.size w
  go_enter Tryz.func35, Tryz.ntmps35
  go_wp2_with (first
    | (refine wpl_alloc_at rfl 26 rfl _ zeroV ?_; intro w1 hw; have B2 := hid_alloc0 hw; have hb := hid_grow hw; have G2 := HB.size; replace HB := HB.trans (hb.mono HB.size); clear hw hb)
    | ((with_reducible refine is_store ?_); refine wpl_store_at rfl 26 (.tmp 2) (.tmp 4) rfl _ (exInt n).cells rfl rfl _ _ B2 info_value rfl (jv_one _) ?_; intro w2 hw; have hq := hid_row_below hw G2 HB; replace HB := hq.1; replace B2 := hid_row hw B2; clear hw hq))
  exact bodyPost_ret (results_box rfl _ _ w.heap.size 26 (exInt n).cells _ rfl B2 Tryz.underlying26 rfl info_value) rfl ⟨rfl, HB⟩
def stampB (n : Int) : Bool := decide (0 ≤ n) && decide (n ≤ 9007199254740991)
theorem stamped_any (n : Int) (w : World) : Calls Tryz.prog 13 #[.int .i64 n] w fun e w' => e = .returned (.bool (stampB n)) ∧ Below w.heap.size w w' := by
  have HB := Below.refl w.heap.size w
  by_cases h1 : 0 ≤ n <;> by_cases h2 : n ≤ 9007199254740991
  all_goals
    go_enter Tryz.func13, Tryz.ntmps13
    go_wp2
    go_ret
    exact ⟨ret_bool2 (by unfold stampB; simp [h1, h2]), HB⟩
set_option maxRecDepth 10000 in
theorem mlist_any (w : World) : Calls Tryz.prog 33 #[.slice none 0 0] w fun e w' => e = .returned (.agg exNone.cells) ∧ Below w.heap.size w w' := by
  have HB := Below.refl w.heap.size w
  go_enter Tryz.func33, Tryz.ntmps33
  go_wp2_with (first
    | ((with_reducible refine is_alloc ?_); refine wpl_newbox 3 rfl rfl 26 rfl rfl (.tmp 6) rfl _ zeroV exNone.cells rfl rfl info_value rfl (jv_one _) ?_; intro w2 hw; have hb := hid_grow hw; have B3 := (hid_alloc hw).1; have L3 := IBox.lt B2; replace HB := HB.trans (hb.mono HB.size); replace B2 := IBox.below B2 hb (IBox.lt B2); clear hb hw)
    | ((with_reducible refine is_alloc ?_); refine wpl_alloc_at rfl 26 rfl _ zeroV ?_; intro w1 hw; have B2 := hid_alloc0 hw; have hb := hid_grow hw; have G2 := HB.size; replace HB := HB.trans (hb.mono HB.size); clear hw hb))
  go_loopw [9] (fun i wr => i = .int .i64 0 ∧ wr = w2) (fun _ _ => 0)
  case atStart => exact ⟨rfl, rfl⟩
  case round =>
    obtain ⟨rfl, rfl⟩ := hrel
    go_wp2_with (first
      | ((with_reducible refine is_load ?_); refine wpl_load_box rfl 26 (.tmp 3) rfl _ rfl _ _ _ B3 Tryz.underlying26 rfl info_value ?_)
      | ((with_reducible refine is_store ?_); refine wpl_store_at rfl 26 (.tmp 2) (.tmp 21) rfl _ exNone.cells rfl rfl _ _ B2 info_value rfl (jv_one _) ?_; intro w3 hw; have hq := hid_row_below hw G2 HB; replace HB := hq.1; replace B2 := hid_row hw B2; clear hw hq))
    exact bodyPost_ret (results_box rfl _ _ w.heap.size 26 exNone.cells _ rfl B2 Tryz.underlying26 rfl info_value) rfl ⟨rfl, HB⟩
end Go.Proofs.YtmpoejgclalmfaaGreat
