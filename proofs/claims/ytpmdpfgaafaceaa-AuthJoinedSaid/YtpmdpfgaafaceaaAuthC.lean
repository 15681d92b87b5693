/- Layer 16: the first event that stands for a pair, in the program and in the reference. -/
import Derived.Test.YtpmdpfgaafaceaaEvA
import Derived.Test.YtpmdpfgaafaceaaMemL
import Derived.Deep.WholeRow
namespace Go.Proofs.Ytpmdpfgaafaceaa
open Go.RowKit
set_option linter.unusedVariables false

theorem zero_event : (Try.prog.info? 32).map (fun i => (i.zero, i.size)) = some (some (.agg Ev.zero.cells), 22) := by kernel_rfl
theorem zeroE (w : World) : (zeroValue 32).run Try.prog w = .ok (.agg Ev.zero.cells) w := (Go.zero_of_info zero_event).1 w
theorem zero_value : (Try.prog.info? 30).map (fun i => (i.zero, i.size)) = some (some (.agg JV.zero.cells), 6) := by kernel_rfl
theorem zeroV (w : World) : (zeroValue 30).run Try.prog w = .ok (.agg JV.zero.cells) w := (Go.zero_of_info zero_value).1 w
theorem ev_one (e : Ev) : e.cells.all (·.oneCell') = true := by simp [Ev.cells, Value.oneCell']
theorem jv_one (j : JV) : j.cells.all (·.oneCell') = true := by simp [JV.cells, VM.cells, Value.oneCell']

theorem ev_range {w : World} {A : Option Addr} {l : List Ev} (h : IsEvs w A 0 l) {k : Nat} {x : Ev} (hx : l[k]? = some x) : ∃ bl off, A = some ⟨bl, off, none⟩ ∧ w.rangeAt bl (off + k * 22) x.cells.toList := by
  obtain ⟨⟨b, off, e, hr⟩, _⟩ := h.get hx
  rw [Nat.zero_add] at hr
  exact ⟨b, off, e, hr⟩

set_option maxHeartbeats 2000000 in
theorem find_any (l : List Ev) (A : Option Addr) (n c : Nat) (kind key : ByteArray) (w : World) (hl : IsEvs w A 0 l) (hn : n = l.length) (hnb : n ≤ 9223372036854775807) :
    Calls Try.prog 34 #[.slice A n c, .string kind, .string key] w fun e w' => e = .returned (.tuple #[.agg (standsD l kind key).cells, .bool (standsS l kind key).isSome]) ∧ Below w.heap.size w w' := by
  have HL := Lib.hid hl
  have HN := Lib.hid hn
  clear hl hn
  go_enter Try.func34, Try.ntmps34
  go_wp2_with (refine wpl_alloc_at rfl 32 rfl _ zeroE ?_; intro w0 hw0)
  have hI0 := hid_alloc hw0
  go_loopw [12] (fun i wr => ∃ k : Nat, k ≤ n ∧ i = .int .i64 k ∧ IBox wr w.heap.size 32 Ev.zero.cells ∧ w.heap.size < wr.heap.size ∧ Below w.heap.size w wr ∧ Hid (standsS l kind key = standsS (l.drop k) kind key)) (fun i _ => n - (intOf i).toNat)
  case atStart => exact ⟨0, Nat.zero_le _, rfl, hI0.1, by omega, hI0.2.2, rfl⟩
  case round =>
    obtain ⟨k, hk, rfl, HB, hsz, hbel, HLK⟩ := hrel
    have HBL := Lib.hid hbel
    clear hbel
    by_cases hlt : k < n
    · have hkv : k < l.length := by rw [← HN.out]; exact hlt
      have ex : l[k]? = some (l[k]) := List.getElem?_eq_getElem hkv
      have hld := stands_drop (kind := kind) (key := key) ex
      obtain ⟨bl, off, hA, hfc⟩ := ev_range HL.out ex
      generalize l[k] = x at hld hfc
      subst hA
      have HFC := Lib.hid (range_below HBL.out hfc)
      have hfo : isFor x kind key = (x.hasKey && (x.ty.toList == kind.toList) && (x.key.toList == key.toList)) := rfl
      rw [hfo] at hld
      have HLD := Lib.hid hld
      clear ex hfc hfo hld
      go_wp2_with (first
        | (refine wpl_load_arr rfl 32 (.tmp 14) rfl bl (off + k * 22) rfl x.cells _ HFC.out Try.underlying32 rfl info_event ?_)
        | (refine wpl_alloc_at rfl 32 rfl _ zeroE ?_; intro w1 hw1)
        | (refine wpl_store_at rfl 32 (.tmp 9) (.tmp 15) rfl wr.heap.size x.cells rfl rfl _ _ (hid_alloc hw1).1 info_event rfl (ev_one x) ?_; intro w2 hw2
           have IB := hid_row hw2 (hid_alloc hw1).1
           have d1 : w2.cell? ⟨wr.heap.size, 1, none⟩ = some (.string x.ty) := IB.cell 1
           have d4 : w2.cell? ⟨wr.heap.size, 4, none⟩ = some (.bool x.hasKey) := IB.cell 4
           have d5 : w2.cell? ⟨wr.heap.size, 5, none⟩ = some (.string x.key) := IB.cell 5)
        | (refine wpl_load_box rfl 32 (.tmp 9) rfl wr.heap.size rfl _ x.cells _ (hid_row hw2 (hid_alloc hw1).1) Try.underlying32 rfl info_event ?_)
        | (refine wpl_store_at rfl 32 (.tmp 6) (.tmp 30) rfl w.heap.size x.cells rfl rfl _ _ (hid_row_other hw2 (by omega) (hid_alloc_old hw1 HB)) info_event rfl (ev_one x) ?_; intro w3 hw3))
      all_goals
        have hI1 := hid_alloc hw1
        have hI2 := hid_row_below hw2 (Nat.le_of_lt hsz) (HBL.out.trans (hI1.2.2.mono HBL.out.size))
      · have hI3 := hid_row_below hw3 (Nat.le_refl _) hI2.1
        have hfin : standsS l kind key = some x := by rw [HLK.out, HLD.out]; simp_all
        exact bodyPost_ret (results_box_tmp rfl _ _ w.heap.size 32 x.cells _ rfl (hid_row hw3 (hid_row_other hw2 (by omega) (hid_alloc_old hw1 HB))) Try.underlying32 rfl info_event) rfl ⟨by unfold standsD; rw [hfin]; rfl, hI3.1⟩
      all_goals
        go_roundw
        case rel => exact ⟨k + 1, by omega, by go_num, hid_row_other hw2 (by omega) (hid_alloc_old hw1 HB), by omega, hI2.1, by show standsS l kind key = _; rw [HLK.out, HLD.out]; simp_all⟩
        case measure => simp [intOf]; omega
    · obtain rfl : k = n := by omega
      have hfin : standsS l kind key = none := by
        rw [HLK.out, List.drop_eq_nil_of_le (Nat.le_of_eq HN.out.symm)]
        rfl
      have HFI := Lib.hid hfin
      clear hfin
      go_wp2_with (refine wpl_store_at rfl 32 (.tmp 6) (.tmp 32) rfl w.heap.size Ev.zero.cells rfl rfl _ _ HB info_event rfl (ev_one _) ?_; intro w3 hw3)
      have hI3 := hid_row_below hw3 (Nat.le_refl _) HBL.out
      exact bodyPost_ret (results_box_tmp rfl _ _ w.heap.size 32 Ev.zero.cells _ rfl (hid_row hw3 HB) Try.underlying32 rfl info_event) rfl ⟨by unfold standsD; rw [HFI.out]; rfl, hI3.1⟩

set_option maxHeartbeats 2000000 in
theorem stands_any (l : List Ev) (A : Option Addr) (n c : Nat) (kind key : ByteArray) (w : World) (hl : IsEvs w A 0 l) (hn : n = l.length) (hnb : n ≤ 9223372036854775807) :
    Calls Try.prog 11 #[.slice A n c, .string kind, .string key] w fun e w' => e = .returned (.tuple #[.agg (standsD l kind key).cells, .bool (standsS l kind key).isSome]) ∧ Below w.heap.size w w' := by
  have HL := Lib.hid hl
  have HN := Lib.hid hn
  clear hl hn
  go_enter Try.func11, Try.ntmps11
  go_wp2_with (refine wpl_alloc_at rfl 32 rfl _ zeroE ?_; intro w0 hw0)
  have hI0 := hid_alloc hw0
  have HI0 := Lib.hid hI0
  clear hI0
  go_loop [8] (fun i => ∃ k : Nat, k ≤ n ∧ i = .int .i64 k ∧ Hid (standsS l kind key = standsS (l.drop k) kind key)) (fun i => n - (intOf i).toNat)
  case atStart => exact ⟨0, Nat.zero_le _, rfl, rfl⟩
  case round =>
    obtain ⟨k, hk, rfl, HLK⟩ := hrel
    by_cases hlt : k < n
    · have hkv : k < l.length := by rw [← HN.out]; exact hlt
      have ex : l[k]? = some (l[k]) := List.getElem?_eq_getElem hkv
      have hld := stands_drop (kind := kind) (key := key) ex
      obtain ⟨bl, off, hA, hfc⟩ := ev_range HL.out ex
      generalize l[k] = x at hld hfc
      subst hA
      have hfc0 := range_below HI0.out.2.2 hfc
      have d1 : w0.cell? ⟨bl, off + k * 22 + 1, none⟩ = some (.string x.ty) := hfc0 1 _ rfl
      have d4 : w0.cell? ⟨bl, off + k * 22 + 4, none⟩ = some (.bool x.hasKey) := hfc0 4 _ rfl
      have d5 : w0.cell? ⟨bl, off + k * 22 + 5, none⟩ = some (.string x.key) := hfc0 5 _ rfl
      have HFC := Lib.hid hfc0
      have hfo : isFor x kind key = (x.hasKey && (x.ty.toList == kind.toList) && (x.key.toList == key.toList)) := rfl
      rw [hfo] at hld
      have HLD := Lib.hid hld
      clear ex hfc hfo hld hfc0
      go_wp2_with (first
        | (refine wpl_load_arr rfl 32 (.tmp 40) rfl bl (off + k * 22) rfl x.cells _ HFC.out Try.underlying32 rfl info_event ?_)
        | (refine wpl_store_at rfl 32 (.tmp 6) (.tmp 41) rfl w.heap.size x.cells rfl rfl _ _ HI0.out.1 info_event rfl (ev_one x) ?_; intro w3 hw3))
      · have hI3 := hid_row_below hw3 (Nat.le_refl _) HI0.out.2.2
        have hfin : standsS l kind key = some x := by rw [HLK.out, HLD.out]; simp_all
        exact bodyPost_ret (results_box_tmp rfl _ _ w.heap.size 32 x.cells _ rfl (hid_row hw3 HI0.out.1) Try.underlying32 rfl info_event) rfl ⟨by unfold standsD; rw [hfin]; rfl, hI3.1⟩
      all_goals
        go_round
        case rel => exact ⟨k + 1, by omega, by go_num, by show standsS l kind key = _; rw [HLK.out, HLD.out]; simp_all⟩
        case measure => simp [intOf]; omega
    · obtain rfl : k = n := by omega
      have hfin : standsS l kind key = none := by
        rw [HLK.out, List.drop_eq_nil_of_le (Nat.le_of_eq HN.out.symm)]
        rfl
      have HFI := Lib.hid hfin
      clear hfin
      go_wp2_with (refine wpl_store_at rfl 32 (.tmp 6) (.tmp 42) rfl w.heap.size Ev.zero.cells rfl rfl _ _ HI0.out.1 info_event rfl (ev_one _) ?_; intro w3 hw3)
      have hI3 := hid_row_below hw3 (Nat.le_refl _) HI0.out.2.2
      exact bodyPost_ret (results_box_tmp rfl _ _ w.heap.size 32 Ev.zero.cells _ rfl (hid_row hw3 HI0.out.1) Try.underlying32 rfl info_event) rfl ⟨by unfold standsD; rw [HFI.out]; rfl, hI3.1⟩

def standsB (l : List Ev) (kind key : ByteArray) : Bool := (standsS l kind key).isSome
theorem findB_any (l : List Ev) (A : Option Addr) (n c : Nat) (kind key : ByteArray) (w : World) (hl : IsEvs w A 0 l) (hn : n = l.length) (hnb : n ≤ 9223372036854775807) :
    Calls Try.prog 34 #[.slice A n c, .string kind, .string key] w fun e w' => e = .returned (.tuple #[.agg (standsD l kind key).cells, .bool (standsB l kind key)]) ∧ Below w.heap.size w w' :=
  find_any l A n c kind key w hl hn hnb
theorem standsB_any (l : List Ev) (A : Option Addr) (n c : Nat) (kind key : ByteArray) (w : World) (hl : IsEvs w A 0 l) (hn : n = l.length) (hnb : n ≤ 9223372036854775807) :
    Calls Try.prog 11 #[.slice A n c, .string kind, .string key] w fun e w' => e = .returned (.tuple #[.agg (standsD l kind key).cells, .bool (standsB l kind key)]) ∧ Below w.heap.size w w' :=
  stands_any l A n c kind key w hl hn hnb
end Go.Proofs.Ytpmdpfgaafaceaa
