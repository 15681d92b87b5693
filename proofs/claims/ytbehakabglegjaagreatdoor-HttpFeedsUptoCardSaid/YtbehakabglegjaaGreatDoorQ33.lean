/- Layer 9: the document's kinds of bytes; are a text's bytes all of a kind? -/
import Derived.Test.YtbehakabglegjaaGreatDoorQ10
import Derived.Test.YtbehakabglegjaaGreatDoorQ07
namespace Go.Proofs.YtbehakabglegjaaGreatDoor
open Go.RowKit Go.PlainAid
set_option linter.unusedVariables false
set_option linter.unusedSimpArgs false
set_option maxRecDepth 100000
def isLetB (c : UInt8) : Bool := (65 ≤ c.toNat && c.toNat ≤ 90) || (97 ≤ c.toNat && c.toNat ≤ 122)
def isDgB (c : UInt8) : Bool := 48 ≤ c.toNat && c.toNat ≤ 57
theorem rlet_any (c : UInt8) (w : World) : Calls Tryz.prog 91 #[.int .u8 (c.toNat : Int)] w fun e w' => e = .returned (.bool (isLetB c)) ∧ w = w' := by
  go_enter Tryz.func91, Tryz.ntmps91
  go_wp2
  all_goals
    go_ret
    exact ⟨ret_bool (by unfold isLetB; rw [Bool.eq_iff_iff]; simp only [Bool.or_eq_true, Bool.and_eq_true, decide_eq_true_eq, beq_iff_eq, bne_iff_ne, true_iff, false_iff, Bool.false_eq_true, Bool.true_eq_false]; omega), rfl⟩
theorem rdig_any (c : UInt8) (w : World) : Calls Tryz.prog 92 #[.int .u8 (c.toNat : Int)] w fun e w' => e = .returned (.bool (isDgB c)) ∧ w = w' := by
  go_enter Tryz.func92, Tryz.ntmps92
  go_wp2
  all_goals
    go_ret
    exact ⟨ret_bool (by unfold isDgB; rw [Bool.eq_iff_iff]; simp only [Bool.or_eq_true, Bool.and_eq_true, decide_eq_true_eq, beq_iff_eq, bne_iff_ne, true_iff, false_iff, Bool.false_eq_true, Bool.true_eq_false]; omega), rfl⟩
theorem rvalue_any (c : UInt8) (w : World) : Calls Tryz.prog 100 #[.int .u8 (c.toNat : Int)] w fun e w' => e = .returned (.bool (isValueB c)) ∧ w = w' := by
  go_enter Tryz.func100, Tryz.ntmps100
  go_wp2
  all_goals
    go_ret
    exact ⟨ret_bool (by unfold isValueB; rw [Bool.eq_iff_iff]; simp only [Bool.or_eq_true, Bool.and_eq_true, decide_eq_true_eq, beq_iff_eq, bne_iff_ne, true_iff, false_iff, Bool.false_eq_true, Bool.true_eq_false]; omega), rfl⟩
def marks14 : ByteArray := ⟨#[33, 35, 36, 37, 38, 39, 42, 43, 45, 46, 94, 95, 124, 126]⟩
theorem name_tab : ∀ n : Fin 256, isNameB (UInt8.ofNat n.val) = ((isLetB (UInt8.ofNat n.val) || isDgB (UInt8.ofNat n.val)) || (marks14.data.toList.contains (UInt8.ofNat n.val) || decide ((UInt8.ofNat n.val).toNat = 96))) := by decide +kernel
theorem name_is (c : UInt8) : isNameB c = ((isLetB c || isDgB c) || (marks14.data.toList.contains c || decide (c.toNat = 96))) := by
  have h := name_tab ⟨c.toNat, c.toNat_lt⟩
  simp only [UInt8.ofNat_toNat] at h
  exact h
set_option maxHeartbeats 4000000 in
theorem rname_any (c : UInt8) (w : World) : Calls Tryz.prog 99 #[.int .u8 (c.toNat : Int)] w fun e w' => e = .returned (.bool (isNameB c)) ∧ w = w' := by
  have hn := name_is c
  cases hl : isLetB c <;> cases hd : isDgB c
  all_goals
    rw [hl, hd] at hn
    have HN := Lib.hid hn
    have HLE := Lib.hid hl
    have HDI := Lib.hid hd
    clear hn hl hd
  · obtain ⟨s, hs⟩ : ∃ s, s = marks14 := ⟨_, rfl⟩
    have hm : (⟨#[33, 35, 36, 37, 38, 39, 42, 43, 45, 46, 94, 95, 124, 126]⟩ : ByteArray) = s := hs.symm
    have HSZ : Hid (s.size = 14) := Lib.hid (by rw [hs]; rfl)
    rw [← hs] at HN
    clear hs
    have hbs := get_bt s
    have HB0 : Hid (isNameB c = (s.data.toList.contains c || decide (c.toNat = 96))) := Lib.hid (by have h := HN.out; simpa using h)
    clear HN
    go_enter Tryz.func99, Tryz.ntmps99
    rw [hm]
    clear hm
    go_wp2_with (first
      | (go_at_call 91; (with_reducible refine (rlet_any _ _).mono ?_); rintro e w' ⟨rfl, rfl⟩; rw [HLE.out])
      | (go_at_call 92; (with_reducible refine (rdig_any _ _).mono ?_); rintro e w' ⟨rfl, rfl⟩; rw [HDI.out]))
    go_loopw [6] (fun iv wr => ∃ i : Nat, iv = .int .i64 (i : Int) ∧ i ≤ s.size ∧ Hid (∀ j, j < i → s.data.toList[j]? ≠ some c) ∧ w = wr) (fun iv _ => match iv with | .int _ i => (s.size - i.toNat) | _ => 0)
    case atStart => exact ⟨0, rfl, Nat.zero_le _, Lib.hid (fun j h => absurd h (Nat.not_lt_zero _)), rfl⟩
    case round =>
      obtain ⟨i, rfl, hi, HNO, rfl⟩ := hrel
      have hsz := HSZ.out
      by_cases hlt : i < s.size
      · obtain ⟨d, hd⟩ : ∃ d, s.data.toList[i]? = some d := ⟨_, List.getElem?_eq_getElem (show i < s.data.toList.length from hlt)⟩
        have hcb := bt_in hd
        by_cases hdc : d = c
        · have hq : ((d.toNat : Int) == (c.toNat : Int)) = true := by rw [hdc, beq_self_eq_true]
          have HF : Hid (isNameB c = true) := Lib.hid (by
            rw [HB0.out, List.contains_iff_mem.2 (by rw [← hdc]; exact List.mem_of_getElem? hd)]
            rfl)
          clear hd hdc
          go_wp2
          go_ret
          exact ⟨ret_bool HF.out.symm, rfl⟩
        · have hq : ((d.toNat : Int) == (c.toNat : Int)) = false := by
            rw [beq_eq_false_iff_ne]
            intro e
            exact hdc (UInt8.toNat_inj.1 (by omega))
          have HN2 : Hid (∀ j, j < i + 1 → s.data.toList[j]? ≠ some c) := Lib.hid (fun j hj e => by
            by_cases h2 : j = i
            · subst h2
              rw [hd] at e
              exact hdc (Option.some.inj e)
            · exact HNO.out j (by omega) e)
          clear hd hdc
          go_wp2
          go_roundw
          case rel => first | exact ⟨i + 1, rfl, by omega, HN2, rfl⟩ | exact ⟨i + 1, rfl, by omega, HN2, trivial⟩
          case measure => (simp only; omega)
      · obtain rfl : i = s.size := by omega
        have HF : Hid (isNameB c = decide (c.toNat = 96)) := Lib.hid (by
          rw [HB0.out]
          have h : s.data.toList.contains c = false := by
            rw [← Bool.not_eq_true, List.contains_iff_mem]
            intro hm
            obtain ⟨j, hj⟩ := List.getElem?_of_mem hm
            exact HNO.out j (List.getElem?_eq_some_iff.1 hj).1 hj
          rw [h, Bool.false_or])
        clear hlt hi
        go_wp2
        go_ret
        exact ⟨ret_bool (by rw [HF.out, Bool.eq_iff_iff]; simp; omega), rfl⟩
  all_goals
    go_enter Tryz.func99, Tryz.ntmps99
    go_wp2_with (first
      | (go_at_call 91; (with_reducible refine (rlet_any _ _).mono ?_); rintro e w' ⟨rfl, rfl⟩; rw [HLE.out])
      | (go_at_call 92; (with_reducible refine (rdig_any _ _).mono ?_); rintro e w' ⟨rfl, rfl⟩; rw [HDI.out]))
    go_ret
    exact ⟨ret_bool (by rw [HN.out]; rfl), rfl⟩
end Go.Proofs.YtbehakabglegjaaGreatDoor
