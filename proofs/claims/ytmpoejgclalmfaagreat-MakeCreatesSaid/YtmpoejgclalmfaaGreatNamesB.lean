/- Layer 13: 'all'. -/
import Derived.Test.YtmpoejgclalmfaaGreatNamesA
namespace Go.Proofs.YtmpoejgclalmfaaGreat
open Go.RowKit
set_option linter.unusedVariables false

/-- Every byte of a kind. -/
def allB (l : List UInt8) (p : Int → Bool) : Bool := l.all (fun b => p b.toNat)
def allS (s : ByteArray) (least most : Int) (p : Int → Bool) : Bool := decide (least ≤ s.size) && decide ((s.size : Int) ≤ most) && allB s.data.toList p

def IsKind (K : Nat) (p : Int → Bool) : Prop := (∀ args w, (callFunc K args).run Tryz.prog w = .ok (.enter K args) w) ∧ (∀ c : Int, 128 ≤ c → p c = false) ∧ ∀ (c : Int) (w : World), 0 ≤ c → c ≤ 2147483647 →
    Calls Tryz.prog K #[.int .i32 c] w fun e w' => e = .returned (.bool (p c)) ∧ Below w.heap.size w w'

/-- The loop of 'all': the iterator stands at pos, all bytes before it are of the kind. -/
def AllRel (s : ByteArray) (p : Int → Bool) (w : World) (w' : World) : Prop :=
  ∃ pos, w'.heap[w.heap.size]? = some (.stringIter s pos) ∧ Below w.heap.size w w' ∧ allB s.data.toList p = allB (s.data.toList.drop pos) p

theorem all_no (K : Nat) (p : Int → Bool) (s : ByteArray) (least most : Int) (w : World) (h : ¬ (least ≤ (s.size : Int) ∧ (s.size : Int) ≤ most)) :
    Calls Tryz.prog 50 #[.string s, .int .i64 least, .int .i64 most, .func (.func K) #[] #[]] w fun e w' => e = .returned (.bool (allS s least most p)) ∧ w = w' := by
  have e : allS s least most p = false := by
    unfold allS
    have e : (decide (least ≤ (s.size : Int)) && decide ((s.size : Int) ≤ most)) = false := by
      rw [Bool.eq_false_iff]; simpa using h
    rw [e]; rfl
  have E := Lib.hid e
  clear e
  go_enter Tryz.func50, Tryz.ntmps50
  go_wp2
  all_goals
    go_ret
    exact ⟨ret_bool E.out.symm, rfl⟩

theorem width_pos (s : ByteArray) (pos : Nat) (h : pos < s.size) : 1 ≤ (Utf8.decode s pos).2 := by
  by_cases ha : (s[pos]'h).toNat < 128
  · rw [decode_ascii s pos h ha]
    exact Nat.le_refl _
  · exact (decode_high s pos h (by omega)).2

theorem drop_cons (s : ByteArray) (pos : Nat) (h : pos < s.size) : s.data.toList.drop pos = (s[pos]'h) :: s.data.toList.drop (pos + 1) :=
  List.drop_eq_getElem_cons (by simpa using h)
theorem allB_yes {p : Int → Bool} (hp : ∀ c : Int, 128 ≤ c → p c = false) (s : ByteArray) (pos : Nat) (h : pos < s.size) (ht : p ((Utf8.decode s pos).1 : Int) = true) :
    allB (s.data.toList.drop pos) p = allB (s.data.toList.drop (pos + (Utf8.decode s pos).2)) p := by
  by_cases ha : (s[pos]'h).toNat < 128
  · have hd := decode_ascii s pos h ha
    rw [hd] at ht ⊢
    rw [drop_cons s pos h]
    unfold allB
    rw [List.all_cons, ht, Bool.true_and]
  · have := (decode_high s pos h (by omega)).1
    rw [hp _ (by omega)] at ht
    cases ht
theorem allB_no {p : Int → Bool} (hp : ∀ c : Int, 128 ≤ c → p c = false) (s : ByteArray) (pos : Nat) (h : pos < s.size) (ht : p ((Utf8.decode s pos).1 : Int) = false) :
    allB (s.data.toList.drop pos) p = false := by
  rw [drop_cons s pos h]
  unfold allB
  rw [List.all_cons]
  by_cases ha : (s[pos]'h).toNat < 128
  · have hd := decode_ascii s pos h ha
    rw [hd] at ht
    rw [ht, Bool.false_and]
  · rw [hp _ (by omega), Bool.false_and]

theorem all_yes (K : Nat) (p : Int → Bool) (hK : IsKind K p) (s : ByteArray) (least most : Int) (w : World) (h1 : least ≤ (s.size : Int)) (h2 : (s.size : Int) ≤ most) (hs : s.size ≤ maxLen) :
    Calls Tryz.prog 50 #[.string s, .int .i64 least, .int .i64 most, .func (.func K) #[] #[]] w fun e w' => e = .returned (.bool (allB s.data.toList p)) ∧ Below w.heap.size w w' := by
  have hcf : ∀ args w, (callFunc K args).run Tryz.prog w = .ok (.enter K args) w := hK.1
  have HK := Lib.hid hK
  clear hK
  unfold maxLen at hs
  go_enter Tryz.func50, Tryz.ntmps50
  go_wp2
  go_loopw [10] (fun _ w' => AllRel s p w w') (fun _ w' => s.size - w'.iterPos w.heap.size)
  case atStart => exact ⟨0, World.iter_heap _ _ _, below_iter (Below.refl _ _) (Nat.le_refl _) _ _, by simp⟩
  case round =>
    obtain ⟨pos, hit, hb, hd⟩ := hrel
    by_cases hp : pos < s.size
    · have hnx : ∀ ty, (Instr.next (.pointer (some ⟨w.heap.size, 0, none⟩)) true ty).run Tryz.prog wr = _ := fun ty => Lib.run_next_any_at wr w.heap.size s pos ty hit hp
      have HD := Lib.hid hd
      have HIT := Lib.hid hit
      have HB := Lib.hid hb
      clear hd hit hb
      have hle := decode_le s pos
      have hwd := width_pos s pos hp
      cases hv : p ((Utf8.decode s pos).1 : Int)
      all_goals
        have HV := Lib.hid hv
        clear hv
        go_wp2_with fail
        refine (HK.out.2.2 _ _ (by omega) (by omega)).mono ?_
        rintro e w1 ⟨rfl, hb1⟩
        rw [HV.out]
        have HB1 := Lib.hid hb1
        clear hb1
        go_wp2
      · go_ret
        refine ⟨ret_bool ?_, (Lib.below_iterAt HB.out (Nat.le_refl _) _ _).trans (HB1.out.mono ?_)⟩
        · rw [HD.out, allB_no HK.out.2.1 s pos hp HV.out]
        · rw [Lib.iterAt_size]; exact HB.out.size
      · have hlt : w.heap.size < wr.heap.size := (Array.getElem?_eq_some_iff.1 HIT.out).1
        have hw1 : w1.heap[w.heap.size]? = some (.stringIter s (pos + (Utf8.decode s pos).2)) := by
          rw [HB1.out.block _ (by rw [Lib.iterAt_size]; exact hlt)]
          exact Lib.iterAt_heap _ _ _ _ _ HIT.out
        go_roundw
        case rel =>
          refine ⟨pos + (Utf8.decode s pos).2, hw1, (Lib.below_iterAt HB.out (Nat.le_refl _) _ _).trans (HB1.out.mono ?_), ?_⟩
          · rw [Lib.iterAt_size]; exact HB.out.size
          · rw [HD.out, allB_yes HK.out.2.1 s pos hp HV.out]
        case measure =>
          have h1 : w1.iterPos w.heap.size = pos + (Utf8.decode s pos).2 := by unfold World.iterPos; rw [hw1]
          have h2 : wr.iterPos w.heap.size = pos := by unfold World.iterPos; rw [HIT.out]
          rw [h1, h2]
          omega
    · have hnx : ∀ ty, (Instr.next (.pointer (some ⟨w.heap.size, 0, none⟩)) true ty).run Tryz.prog wr = _ := fun ty => Lib.run_next_end_at wr w.heap.size s pos ty hit hp
      go_wp2
      go_ret
      refine ⟨ret_bool ?_, hb⟩
      rw [hd, List.drop_eq_nil_of_le (by simp; omega)]
      rfl
end Go.Proofs.YtmpoejgclalmfaaGreat
