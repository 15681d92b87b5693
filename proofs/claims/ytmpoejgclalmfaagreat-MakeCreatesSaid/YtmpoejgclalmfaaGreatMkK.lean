/- Layer 19: a new room; its ends; make.Draft there. -/
import Derived.Test.YtmpoejgclalmfaaGreatMkJ
import Derived.Test.YtmpoejgclalmfaaGreatIter
namespace Go.Proofs.YtmpoejgclalmfaaGreat
open Go.RowKit Go.PlainAid Go.Maps Go.Sort Go.Shelf
set_option linter.unusedVariables false
set_option linter.unusedSimpArgs false

def roomC (nm : ByteArray) (m1 m2 : Nat) : Array Value := #[.string nm, .map (some m1), .slice none 0 0, .slice none 0 0, .slice none 0 0, .slice none 0 0, .map (some m2), .slice none 0 0, .bool false, .int .i64 0]
def exRoom : ByteArray := ⟨#[33, 114, 58, 120]⟩
def exUser : ByteArray := ⟨#[64, 97, 58, 120]⟩
theorem exRoom_is : roomB exRoom = true := by kernel_rfl
theorem exUser_is : userB exUser = true := by kernel_rfl
theorem own0 {w : World} {b : Nat} (k : TypeId) (hm : w.heap[b]? = some (.map #[] 0)) : w.ownsMap Tryz.prog k (fun _ => (none : Option (DataW Unit × List MemPlace))) b 0 (.map []) :=
  ⟨#[], 0, hm, ⟨by simp, Go.MapKept.stamped_empty 0, by simp⟩, Nat.le_refl _, rfl⟩
theorem map_below {w w' : World} {b : Nat} {o : Obj} (hb : Below w.heap.size w w') (h : w.heap[b]? = some o) : w'.heap[b]? = some o := (hb.block b (Array.getElem?_eq_some_iff.1 h).1).trans h
set_option maxRecDepth 10000 in
theorem new_lit (w : World) (HM : HasMax w) : Calls Tryz.prog 9 #[.string exRoom] w fun e w' => ∃ g m1 m2, e = .returned (.tuple #[.pointer (some ⟨g, 0, none⟩), .nilIface]) ∧ IBox w' g 56 (roomC exRoom m1 m2) ∧ w'.heap[m2]? = some (.map #[] 0) ∧ Below w.heap.size w w' := by
  have HB := Below.refl w.heap.size w
  have hmm := @run_makeMap Tryz.prog
  go_enter Tryz.func9, Tryz.ntmps9
  go_wp2_with (first
    | (go_at_call 11; (with_reducible refine (roomB_any _ _ (by decide) HM).mono ?_); rw [exRoom_is]; rintro e w9 ⟨rfl, hb⟩; replace HB := HB.trans (hb.mono HB.size); clear hb)
    | (refine wpl_box_at rfl 56 (.tmp 11) rfl _ rfl ?_; intro w1 hw))
  have hq : ((w9.alloc (.map #[] 0)).alloc (.map #[] 0)).heap[(w9.alloc (.map #[] 0)).heap.size]? = some (.map #[] 0) := (MapKept.heap_alloc _ _).1
  have hg2 : w1.heap[w9.heap.size + 1]? = some (.map #[] 0) := by simpa using map_below (hid_grow hw) hq
  have hb := (((Below.refl w9.heap.size w9).alloc (Nat.le_refl _) (.map #[] 0)).alloc (by simp) (.map #[] 0)).trans ((hid_grow hw).mono (by simp; omega))
  have B : IBox w1 (w9.heap.size + 1 + 1) 56 (roomC exRoom w9.heap.size (w9.heap.size + 1)) := by
    have := (hid_alloc hw).1
    simpa [roomC] using this
  exact bodyPost_ret (results_tmp2 rfl _ _ _) rfl ⟨_, _, _, rfl, B, hg2, HB.trans (hb.mono HB.size)⟩
theorem perm_nil {v : Value} {ss : List (List UInt8)} (hS : ss.Perm (strKeys (.map [] : DataW Unit))) (hn : v = .slice none 0 0 ↔ ss = []) : v = .slice none 0 0 := hn.2 (List.Perm.eq_nil hS)
set_option maxRecDepth 10000 in
set_option maxHeartbeats 1000000 in
theorem ends_empty {w : World} {g m1 m2 : Nat} {nm : ByteArray} (B : IBox w g 56 (roomC nm m1 m2)) (hm : w.heap[m2]? = some (.map #[] 0)) :
    Calls Tryz.prog 21 #[.pointer (some ⟨g, 0, none⟩)] w fun e w' => e = .returned (.slice none 0 0) ∧ Below w.heap.size w w' := by
  have hown := own0 9 hm
  have c6 : w.cell? ⟨g, 6, none⟩ = some (.map (some m2)) := B.cell 6
  refine (callsIn_wide (n := 6)).1 ?_
  have hfK : Fence.wide.fn 42 := trivial
  have hfS : Fence.wide.fn 41 := trivial
  refine callsIn_of_wp Tryz.func21 rfl trivial ?_ rfl
  simp only [Tryz.ntmps21, List.size_toArray, List.length_cons, List.length_nil, Nat.reduceAdd, Nat.reduceSub, Array.replicate_succ, Array.replicate_zero, List.push_toArray, List.append_toArray, List.nil_append, List.cons_append]
  gi_wp2_with (first
    | (gi_at_call 42; refine (Tryz.maps_Keys_42 _ _).mono ?_; rintro e w' ⟨rfl, rfl⟩)
    | (gi_at_call 41; refine (Tryz.slices_Sorted_keys_41_42 m2 0 (.map []) _ w hown (by simp [Maps.size]) (by simp [Maps.size])).mono ?_; rintro e w' ⟨v, ss, rfl, hS, hrow, hnil, hb⟩))
  go_ret
  exact ⟨by rw [perm_nil hS hnil]; rfl, ((Below.refl _ w).alloc (Nat.le_refl _) _).trans (hb.mono (by simp))⟩
/-- The event that is drafted in that room. -/
def evM : Array Value := #[.string ⟨#[]⟩, .string ⟨#[109, 46, 114, 111, 111, 109, 46, 109, 101, 115, 115, 97, 103, 101]⟩, .string ⟨#[]⟩, .string exUser, .bool false, .string ⟨#[]⟩, .slice none 0 0, .slice none 0 0, .int .i64 0, .int .i64 0,
  .int .i64 5, .bool false, .int .i64 0, .string ⟨#[]⟩, .slice none 0 0, .slice none 0 0, .int .i64 0, .bool false, .int .i64 0, .string ⟨#[]⟩, .slice none 0 0, .slice none 0 0]
set_option maxRecDepth 10000 in
set_option maxHeartbeats 4000000 in
theorem draft_empty {w : World} {g m1 m2 : Nat} {nm : ByteArray} (B : IBox w g 56 (roomC nm m1 m2)) (hm : w.heap[m2]? = some (.map #[] 0)) (HM : HasMax w) :
    Calls Tryz.prog 10 #[.pointer (some ⟨g, 0, none⟩), .agg evM] w fun e w' => e = .returned (.tuple #[.agg JV.zero.cells, .iface 43 (.int .i64 10)]) ∧ Below w.heap.size w w' := by
  have HB := Below.refl w.heap.size w
  go_enter Tryz.func10, Tryz.ntmps10
  go_wp2_with (first
    | (refine wpl_box_at rfl 42 (.tmp 1) rfl _ rfl ?_; intro w1 hw; have hb := hid_grow hw; have B1 := (hid_alloc hw).1; clear hw; have c1_1 : w1.cell? ⟨_, 1, none⟩ = some (.string ⟨#[109, 46, 114, 111, 111, 109, 46, 109, 101, 115, 115, 97, 103, 101]⟩) := B1.cell 1; have c1_3 : w1.cell? ⟨_, 3, none⟩ = some (.string exUser) := B1.cell 3; have c1_9 : w1.cell? ⟨_, 9, none⟩ = some (.int .i64 0) := B1.cell 9; have c1_10 : w1.cell? ⟨_, 10, none⟩ = some (.int .i64 5) := B1.cell 10; replace HB := HB.trans (hb.mono HB.size); replace HM := HM.below hb; replace B := IBox.below B hb (IBox.lt B); replace hm := map_below hb hm; clear hb)
    | ((with_reducible refine is_alloc ?_); refine wpl_alloc_at rfl 26 rfl _ zeroV ?_; intro w2 hw; have hb := hid_grow hw; have B4 := hid_alloc0 hw; have G4 := HB.size; clear hw; replace HB := HB.trans (hb.mono HB.size); (try replace HM := HM.below hb); replace B := IBox.below B hb (IBox.lt B); replace hm := map_below hb hm; (try replace B1 := IBox.below B1 hb (IBox.lt B1)); (try replace c1_1 := cell_below hb c1_1); (try replace c1_3 := cell_below hb c1_3); (try replace c1_9 := cell_below hb c1_9); (try replace c1_10 := cell_below hb c1_10); clear hb)
    | (go_at_call 12; (with_reducible refine (userB_any _ _ (by decide) HM).mono ?_); rw [exUser_is]; rintro e w9 ⟨rfl, hb⟩; replace HB := HB.trans (hb.mono HB.size); (try replace HM := HM.below hb); replace B := IBox.below B hb (IBox.lt B); replace hm := map_below hb hm; (try replace B1 := IBox.below B1 hb (IBox.lt B1)); (try replace B4 := IBox.below B4 hb (IBox.lt B4)); (try replace c1_1 := cell_below hb c1_1); (try replace c1_3 := cell_below hb c1_3); (try replace c1_9 := cell_below hb c1_9); (try replace c1_10 := cell_below hb c1_10); clear hb)
    | (go_at_call 13; (with_reducible refine (stamped_any _ _).mono ?_); rw [(by decide : stampB 0 = true)]; rintro e w9 ⟨rfl, hb⟩; replace HB := HB.trans (hb.mono HB.size); (try replace HM := HM.below hb); replace B := IBox.below B hb (IBox.lt B); replace hm := map_below hb hm; (try replace B1 := IBox.below B1 hb (IBox.lt B1)); (try replace B4 := IBox.below B4 hb (IBox.lt B4)); (try replace c1_1 := cell_below hb c1_1); (try replace c1_3 := cell_below hb c1_3); (try replace c1_9 := cell_below hb c1_9); (try replace c1_10 := cell_below hb c1_10); clear hb)
    | (go_at_call 21; (with_reducible refine (ends_empty B hm).mono ?_); rintro e w9 ⟨rfl, hb⟩; replace HB := HB.trans (hb.mono HB.size); (try replace HM := HM.below hb); replace B := IBox.below B hb (IBox.lt B); replace hm := map_below hb hm; (try replace B1 := IBox.below B1 hb (IBox.lt B1)); (try replace B4 := IBox.below B4 hb (IBox.lt B4)); (try replace c1_1 := cell_below hb c1_1); (try replace c1_3 := cell_below hb c1_3); (try replace c1_9 := cell_below hb c1_9); (try replace c1_10 := cell_below hb c1_10); clear hb)
    | ((with_reducible refine is_store ?_); refine wpl_store_at rfl 26 (.tmp 4) (.tmp 46) rfl _ JV.zero.cells rfl rfl _ _ B4 info_value rfl (jv_one _) ?_; intro w5 hw; have hq := hid_row_below hw G4 HB; replace HB := hq.1; replace B4 := hid_row hw B4; clear hw hq))
  exact bodyPost_ret (results_box_tmp rfl _ _ w1.heap.size 26 JV.zero.cells _ rfl B4 Tryz.underlying26 rfl info_value) rfl ⟨rfl, HB⟩
end Go.Proofs.YtmpoejgclalmfaaGreat
