/- Layer 9: the document's kinds of bytes; are a text's bytes all of a kind? Layer 9: the document's all: are a text's bytes all of a kind? Layer 9: the document's fits: may a header be written? -/
import Derived.Test.YtbehakabglegjaaGreatDoorQ08
import Derived.Test.YtbehakabglegjaaGreatDoorQ04
import Derived.Test.YtbehakabglegjaaGreatDoorQ17
import Derived.Test.YtbehakabglegjaaGreatDoorQ25
import Derived.Test.YtbehakabglegjaaGreatDoorQ20
namespace Go.Proofs.YtbehakabglegjaaGreatDoor
open Go.RowKit Go.PlainAid
set_option linter.unusedVariables false
set_option linter.unusedSimpArgs false
set_option maxRecDepth 100000
def isLetB (c : UInt8) : Bool := (65 ≤ c.toNat && c.toNat ≤ 90) || (97 ≤ c.toNat && c.toNat ≤ 122)
def isDgB (c : UInt8) : Bool := 48 ≤ c.toNat && c.toNat ≤ 57
theorem rlet_any (c : UInt8) (w : World) : Calls Tryz.prog 91 #[.int .u8 (c.toNat : Int)] w fun e w' => e = .returned (.bool (isLetB c)) ∧ w = w' := by
  go_enter Tryz.func91, Tryz.ntmps91
  go_wp2
  all_goals
    go_ret
    exact ⟨ret_bool (by unfold isLetB; rw [Bool.eq_iff_iff]; simp only [Bool.or_eq_true, Bool.and_eq_true, decide_eq_true_eq, beq_iff_eq, bne_iff_ne, true_iff, false_iff, Bool.false_eq_true, Bool.true_eq_false]; omega), rfl⟩
theorem rdig_any (c : UInt8) (w : World) : Calls Tryz.prog 92 #[.int .u8 (c.toNat : Int)] w fun e w' => e = .returned (.bool (isDgB c)) ∧ w = w' := by
  go_enter Tryz.func92, Tryz.ntmps92
  go_wp2
  all_goals
    go_ret
    exact ⟨ret_bool (by unfold isDgB; rw [Bool.eq_iff_iff]; simp only [Bool.or_eq_true, Bool.and_eq_true, decide_eq_true_eq, beq_iff_eq, bne_iff_ne, true_iff, false_iff, Bool.false_eq_true, Bool.true_eq_false]; omega), rfl⟩
theorem rvalue_any (c : UInt8) (w : World) : Calls Tryz.prog 100 #[.int .u8 (c.toNat : Int)] w fun e w' => e = .returned (.bool (isValueB c)) ∧ w = w' := by
  go_enter Tryz.func100, Tryz.ntmps100
  go_wp2
  all_goals
    go_ret
    exact ⟨ret_bool (by unfold isValueB; rw [Bool.eq_iff_iff]; simp only [Bool.or_eq_true, Bool.and_eq_true, decide_eq_true_eq, beq_iff_eq, bne_iff_ne, true_iff, false_iff, Bool.false_eq_true, Bool.true_eq_false]; omega), rfl⟩
def marks14 : ByteArray := ⟨#[33, 35, 36, 37, 38, 39, 42, 43, 45, 46, 94, 95, 124, 126]⟩
theorem name_tab : ∀ n : Fin 256, isNameB (UInt8.ofNat n.val) = ((isLetB (UInt8.ofNat n.val) || isDgB (UInt8.ofNat n.val)) || (marks14.data.toList.contains (UInt8.ofNat n.val) || decide ((UInt8.ofNat n.val).toNat = 96))) := by decide +kernel
theorem name_is (c : UInt8) : isNameB c = ((isLetB c || isDgB c) || (marks14.data.toList.contains c || decide (c.toNat = 96))) := by
  have h := name_tab ⟨c.toNat, c.toNat_lt⟩
  simp only [UInt8.ofNat_toNat] at h
  exact h
set_option maxHeartbeats 4000000 in
theorem rname_any (c : UInt8) (w : World) : Calls Tryz.prog 99 #[.int .u8 (c.toNat : Int)] w fun e w' => e = .returned (.bool (isNameB c)) ∧ w = w' := by
  have hn := name_is c
  cases hl : isLetB c <;> cases hd : isDgB c
  all_goals
    rw [hl, hd] at hn
    have HN := Lib.hid hn
    have HLE := Lib.hid hl
    have HDI := Lib.hid hd
    clear hn hl hd
  · obtain ⟨s, hs⟩ : ∃ s, s = marks14 := ⟨_, rfl⟩
    have hm : (⟨#[33, 35, 36, 37, 38, 39, 42, 43, 45, 46, 94, 95, 124, 126]⟩ : ByteArray) = s := hs.symm
    have HSZ : Hid (s.size = 14) := Lib.hid (by rw [hs]; rfl)
    rw [← hs] at HN
    clear hs
    have hbs := get_bt s
    have HB0 : Hid (isNameB c = (s.data.toList.contains c || decide (c.toNat = 96))) := Lib.hid (by have h := HN.out; simpa using h)
    clear HN
    go_enter Tryz.func99, Tryz.ntmps99
    rw [hm]
    clear hm
    go_wp2_with (first
      | (go_at_call 91; (with_reducible refine (rlet_any _ _).mono ?_); rintro e w' ⟨rfl, rfl⟩; rw [HLE.out])
      | (go_at_call 92; (with_reducible refine (rdig_any _ _).mono ?_); rintro e w' ⟨rfl, rfl⟩; rw [HDI.out]))
    go_loopw [6] (fun iv wr => ∃ i : Nat, iv = .int .i64 (i : Int) ∧ i ≤ s.size ∧ Hid (∀ j, j < i → s.data.toList[j]? ≠ some c) ∧ w = wr) (fun iv _ => match iv with | .int _ i => (s.size - i.toNat) | _ => 0)
    case atStart => exact ⟨0, rfl, Nat.zero_le _, Lib.hid (fun j h => absurd h (Nat.not_lt_zero _)), rfl⟩
    case round =>
      obtain ⟨i, rfl, hi, HNO, rfl⟩ := hrel
      have hsz := HSZ.out
      by_cases hlt : i < s.size
      · obtain ⟨d, hd⟩ : ∃ d, s.data.toList[i]? = some d := ⟨_, List.getElem?_eq_getElem (show i < s.data.toList.length from hlt)⟩
        have hcb := bt_in hd
        by_cases hdc : d = c
        · have hq : ((d.toNat : Int) == (c.toNat : Int)) = true := by rw [hdc, beq_self_eq_true]
          have HF : Hid (isNameB c = true) := Lib.hid (by
            rw [HB0.out, List.contains_iff_mem.2 (by rw [← hdc]; exact List.mem_of_getElem? hd)]
            rfl)
          clear hd hdc
          go_wp2
          go_ret
          exact ⟨ret_bool HF.out.symm, rfl⟩
        · have hq : ((d.toNat : Int) == (c.toNat : Int)) = false := by
            rw [beq_eq_false_iff_ne]
            intro e
            exact hdc (UInt8.toNat_inj.1 (by omega))
          have HN2 : Hid (∀ j, j < i + 1 → s.data.toList[j]? ≠ some c) := Lib.hid (fun j hj e => by
            by_cases h2 : j = i
            · subst h2
              rw [hd] at e
              exact hdc (Option.some.inj e)
            · exact HNO.out j (by omega) e)
          clear hd hdc
          go_wp2
          go_roundw
          case rel => first | exact ⟨i + 1, rfl, by omega, HN2, rfl⟩ | exact ⟨i + 1, rfl, by omega, HN2, trivial⟩
          case measure => (simp only; omega)
      · obtain rfl : i = s.size := by omega
        have HF : Hid (isNameB c = decide (c.toNat = 96)) := Lib.hid (by
          rw [HB0.out]
          have h : s.data.toList.contains c = false := by
            rw [← Bool.not_eq_true, List.contains_iff_mem]
            intro hm
            obtain ⟨j, hj⟩ := List.getElem?_of_mem hm
            exact HNO.out j (List.getElem?_eq_some_iff.1 hj).1 hj
          rw [h, Bool.false_or])
        clear hlt hi
        go_wp2
        go_ret
        exact ⟨ret_bool (by rw [HF.out, Bool.eq_iff_iff]; simp; omega), rfl⟩
  all_goals
    go_enter Tryz.func99, Tryz.ntmps99
    go_wp2_with (first
      | (go_at_call 91; (with_reducible refine (rlet_any _ _).mono ?_); rintro e w' ⟨rfl, rfl⟩; rw [HLE.out])
      | (go_at_call 92; (with_reducible refine (rdig_any _ _).mono ?_); rintro e w' ⟨rfl, rfl⟩; rw [HDI.out]))
    go_ret
    exact ⟨ret_bool (by rw [HN.out]; rfl), rfl⟩
end Go.Proofs.YtbehakabglegjaaGreatDoor
namespace Go.Proofs.YtbehakabglegjaaGreatDoor
open Go.RowKit Go.PlainAid
set_option linter.unusedVariables false
set_option linter.unusedSimpArgs false
theorem all_parts (P : UInt8 → Bool) (s : ByteArray) : (∀ i, i < s.size → ∃ c, s.data.toList[i]? = some c ∧ (s.data.toList.take (i + 1)).all P = ((s.data.toList.take i).all P && P c) ∧ (P c = false → s.data.toList.all P = false)) := fun i hi => by
  have hl : i < s.data.toList.length := hi
  refine ⟨_, List.getElem?_eq_getElem hl, ?_, fun hp => ?_⟩
  · rw [List.take_add_one, List.getElem?_eq_getElem hl, List.all_append]
    simp
  · rw [List.all_eq_false]
    exact ⟨_, List.getElem_mem hl, by rw [hp]; simp⟩
set_option maxRecDepth 100000 in
set_option maxHeartbeats 4000000 in
theorem all0_any (s : ByteArray) (w : World) (hs : s.size ≤ 9223372036854775806) : Calls Tryz.prog 68 #[.string s, .int .i64 0] w fun e w' => e = .returned (.bool (s.data.toList.all isSeenB)) ∧ w = w' := by
  have hbs := get_bt s
  have HA := Lib.hid (all_parts isSeenB s)
  have HE : Hid ((s.data.toList.take s.size).all isSeenB = s.data.toList.all isSeenB) := Lib.hid (by rw [show s.size = s.data.toList.length from rfl, List.take_length])
  go_enter Tryz.func68, Tryz.ntmps68
  go_wp2
  go_loopw [5] (fun iv wr => ∃ i : Nat, iv = .int .i64 (i : Int) ∧ i ≤ s.size ∧ (s.data.toList.take i).all isSeenB = true ∧ w = wr) (fun iv _ => match iv with | .int _ i => (s.size - i.toNat) | _ => 0)
  case atStart => exact ⟨0, rfl, Nat.zero_le _, by simp, rfl⟩
  case round =>
    obtain ⟨i, rfl, hi, hal, rfl⟩ := hrel
    have HAL := Lib.hid hal
    clear hal
    by_cases hlt : i < s.size
    · obtain ⟨c, hc, hn, hf⟩ := HA.out i hlt
      have hcb := bt_in hc
      have HN := Lib.hid hn
      have HF := Lib.hid hf
      have hc8 := c.toNat_lt
      clear hc hn hf
      cases hp : isSeenB c
      · have HP := Lib.hid hp
        by_cases b1 : 33 ≤ c.toNat
        · have b2 : ¬ (c.toNat : Int) ≤ 126 := by
            intro h
            unfold isSeenB at hp
            have h1 : decide (33 ≤ c.toNat) = true := by simpa using b1
            have h2 : decide (c.toNat ≤ 126) = true := by rw [decide_eq_true_eq]; omega
            rw [h1, h2] at hp
            cases hp
          have b3 : (33 : Int) ≤ (c.toNat : Int) := by omega
          clear hp b1
          go_wp2
          go_ret
          exact ⟨ret_bool (by have h := (HF.out HP.out).symm; first | exact h | simpa using h), rfl⟩
        · have b2 : ¬ (33 : Int) ≤ (c.toNat : Int) := by omega
          clear hp b1
          go_wp2
          go_ret
          exact ⟨ret_bool (by have h := (HF.out HP.out).symm; first | exact h | simpa using h), rfl⟩
      · have HP := Lib.hid hp
        have b0 : 33 ≤ c.toNat ∧ c.toNat ≤ 126 := by
          unfold isSeenB at hp
          simpa using hp
        have b1 : (33 : Int) ≤ (c.toNat : Int) := by omega
        have b2 : (c.toNat : Int) ≤ 126 := by omega
        clear hp b0
        have HT : Hid ((s.data.toList.take (i + 1)).all isSeenB = true) := Lib.hid (by rw [HN.out, HAL.out, HP.out]; rfl)
        go_wp2
        go_roundw
        case rel => first | exact ⟨i + 1, rfl, by omega, HT.out, rfl⟩ | exact ⟨i + 1, rfl, by omega, HT.out, trivial⟩
        case measure => (simp only; omega)
    · obtain rfl : i = s.size := by omega
      have HX : Hid (s.data.toList.all isSeenB = true) := Lib.hid (by rw [← HE.out]; exact HAL.out)
      clear hlt hi
      go_wp2
      go_ret
      exact ⟨ret_bool (by have h := HX.out.symm; first | exact h | simpa using h), rfl⟩
set_option maxRecDepth 100000 in
set_option maxHeartbeats 4000000 in
theorem all3_any (s : ByteArray) (w : World) (hs : s.size ≤ 9223372036854775806) : Calls Tryz.prog 68 #[.string s, .int .i64 3] w fun e w' => e = .returned (.bool (s.data.toList.all isUpB)) ∧ w = w' := by
  have hbs := get_bt s
  have HA := Lib.hid (all_parts isUpB s)
  have HE : Hid ((s.data.toList.take s.size).all isUpB = s.data.toList.all isUpB) := Lib.hid (by rw [show s.size = s.data.toList.length from rfl, List.take_length])
  go_enter Tryz.func68, Tryz.ntmps68
  go_wp2
  go_loopw [5] (fun iv wr => ∃ i : Nat, iv = .int .i64 (i : Int) ∧ i ≤ s.size ∧ (s.data.toList.take i).all isUpB = true ∧ w = wr) (fun iv _ => match iv with | .int _ i => (s.size - i.toNat) | _ => 0)
  case atStart => exact ⟨0, rfl, Nat.zero_le _, by simp, rfl⟩
  case round =>
    obtain ⟨i, rfl, hi, hal, rfl⟩ := hrel
    have HAL := Lib.hid hal
    clear hal
    by_cases hlt : i < s.size
    · obtain ⟨c, hc, hn, hf⟩ := HA.out i hlt
      have hcb := bt_in hc
      have HN := Lib.hid hn
      have HF := Lib.hid hf
      have hc8 := c.toNat_lt
      clear hc hn hf
      cases hp : isUpB c
      · have HP := Lib.hid hp
        by_cases b1 : 65 ≤ c.toNat
        · have b2 : ¬ (c.toNat : Int) ≤ 90 := by
            intro h
            unfold isUpB at hp
            have h1 : decide (65 ≤ c.toNat) = true := by simpa using b1
            have h2 : decide (c.toNat ≤ 90) = true := by rw [decide_eq_true_eq]; omega
            rw [h1, h2] at hp
            cases hp
          have b3 : (65 : Int) ≤ (c.toNat : Int) := by omega
          clear hp b1
          go_wp2
          go_ret
          exact ⟨ret_bool (by have h := (HF.out HP.out).symm; first | exact h | simpa using h), rfl⟩
        · have b2 : ¬ (65 : Int) ≤ (c.toNat : Int) := by omega
          clear hp b1
          go_wp2
          go_ret
          exact ⟨ret_bool (by have h := (HF.out HP.out).symm; first | exact h | simpa using h), rfl⟩
      · have HP := Lib.hid hp
        have b0 : 65 ≤ c.toNat ∧ c.toNat ≤ 90 := by
          unfold isUpB at hp
          simpa using hp
        have b1 : (65 : Int) ≤ (c.toNat : Int) := by omega
        have b2 : (c.toNat : Int) ≤ 90 := by omega
        clear hp b0
        have HT : Hid ((s.data.toList.take (i + 1)).all isUpB = true) := Lib.hid (by rw [HN.out, HAL.out, HP.out]; rfl)
        go_wp2
        go_roundw
        case rel => first | exact ⟨i + 1, rfl, by omega, HT.out, rfl⟩ | exact ⟨i + 1, rfl, by omega, HT.out, trivial⟩
        case measure => (simp only; omega)
    · obtain rfl : i = s.size := by omega
      have HX : Hid (s.data.toList.all isUpB = true) := Lib.hid (by rw [← HE.out]; exact HAL.out)
      clear hlt hi
      go_wp2
      go_ret
      exact ⟨ret_bool (by have h := HX.out.symm; first | exact h | simpa using h), rfl⟩
set_option maxRecDepth 100000 in
set_option maxHeartbeats 4000000 in
theorem all4_any (s : ByteArray) (w : World) (hs : s.size ≤ 9223372036854775806) : Calls Tryz.prog 68 #[.string s, .int .i64 4] w fun e w' => e = .returned (.bool (s.data.toList.all isTextB)) ∧ w = w' := by
  have hbs := get_bt s
  have HA := Lib.hid (all_parts isTextB s)
  have HE : Hid ((s.data.toList.take s.size).all isTextB = s.data.toList.all isTextB) := Lib.hid (by rw [show s.size = s.data.toList.length from rfl, List.take_length])
  go_enter Tryz.func68, Tryz.ntmps68
  go_wp2
  go_loopw [5] (fun iv wr => ∃ i : Nat, iv = .int .i64 (i : Int) ∧ i ≤ s.size ∧ (s.data.toList.take i).all isTextB = true ∧ w = wr) (fun iv _ => match iv with | .int _ i => (s.size - i.toNat) | _ => 0)
  case atStart => exact ⟨0, rfl, Nat.zero_le _, by simp, rfl⟩
  case round =>
    obtain ⟨i, rfl, hi, hal, rfl⟩ := hrel
    have HAL := Lib.hid hal
    clear hal
    by_cases hlt : i < s.size
    · obtain ⟨c, hc, hn, hf⟩ := HA.out i hlt
      have hcb := bt_in hc
      have HN := Lib.hid hn
      have HF := Lib.hid hf
      have hc8 := c.toNat_lt
      clear hc hn hf
      cases hp : isTextB c
      · have HP := Lib.hid hp
        by_cases b1 : 32 ≤ c.toNat
        · have b2 : ¬ (c.toNat : Int) ≤ 126 := by
            intro h
            unfold isTextB at hp
            have h1 : decide (32 ≤ c.toNat) = true := by simpa using b1
            have h2 : decide (c.toNat ≤ 126) = true := by rw [decide_eq_true_eq]; omega
            rw [h1, h2] at hp
            cases hp
          have b3 : (32 : Int) ≤ (c.toNat : Int) := by omega
          clear hp b1
          go_wp2
          go_ret
          exact ⟨ret_bool (by have h := (HF.out HP.out).symm; first | exact h | simpa using h), rfl⟩
        · have b2 : ¬ (32 : Int) ≤ (c.toNat : Int) := by omega
          clear hp b1
          go_wp2
          go_ret
          exact ⟨ret_bool (by have h := (HF.out HP.out).symm; first | exact h | simpa using h), rfl⟩
      · have HP := Lib.hid hp
        have b0 : 32 ≤ c.toNat ∧ c.toNat ≤ 126 := by
          unfold isTextB at hp
          simpa using hp
        have b1 : (32 : Int) ≤ (c.toNat : Int) := by omega
        have b2 : (c.toNat : Int) ≤ 126 := by omega
        clear hp b0
        have HT : Hid ((s.data.toList.take (i + 1)).all isTextB = true) := Lib.hid (by rw [HN.out, HAL.out, HP.out]; rfl)
        go_wp2
        go_roundw
        case rel => first | exact ⟨i + 1, rfl, by omega, HT.out, rfl⟩ | exact ⟨i + 1, rfl, by omega, HT.out, trivial⟩
        case measure => (simp only; omega)
    · obtain rfl : i = s.size := by omega
      have HX : Hid (s.data.toList.all isTextB = true) := Lib.hid (by rw [← HE.out]; exact HAL.out)
      clear hlt hi
      go_wp2
      go_ret
      exact ⟨ret_bool (by have h := HX.out.symm; first | exact h | simpa using h), rfl⟩
set_option maxRecDepth 100000 in
set_option maxHeartbeats 4000000 in
theorem all1_any (s : ByteArray) (w : World) (hs : s.size ≤ 9223372036854775806) : Calls Tryz.prog 68 #[.string s, .int .i64 1] w fun e w' => e = .returned (.bool (s.data.toList.all isNameB)) ∧ w = w' := by
  have hbs := get_bt s
  have HA := Lib.hid (all_parts isNameB s)
  have HE : Hid ((s.data.toList.take s.size).all isNameB = s.data.toList.all isNameB) := Lib.hid (by rw [show s.size = s.data.toList.length from rfl, List.take_length])
  go_enter Tryz.func68, Tryz.ntmps68
  go_wp2
  go_loopw [5] (fun iv wr => ∃ i : Nat, iv = .int .i64 (i : Int) ∧ i ≤ s.size ∧ (s.data.toList.take i).all isNameB = true ∧ w = wr) (fun iv _ => match iv with | .int _ i => (s.size - i.toNat) | _ => 0)
  case atStart => exact ⟨0, rfl, Nat.zero_le _, by simp, rfl⟩
  case round =>
    obtain ⟨i, rfl, hi, hal, rfl⟩ := hrel
    have HAL := Lib.hid hal
    clear hal
    by_cases hlt : i < s.size
    · obtain ⟨c, hc, hn, hf⟩ := HA.out i hlt
      have hcb := bt_in hc
      have HN := Lib.hid hn
      have HF := Lib.hid hf
      have hc8 := c.toNat_lt
      clear hc hn hf
      cases hp : isNameB c
      · have HP := Lib.hid hp
        clear hp
        go_wp2_with (first
          | (go_at_call 99; (with_reducible refine (rname_any c _).mono ?_); rintro e w9 ⟨rfl, rfl⟩; rw [HP.out]))
        go_ret
        exact ⟨ret_bool (by have h := (HF.out HP.out).symm; first | exact h | simpa using h), rfl⟩
      · have HP := Lib.hid hp
        clear hp
        have HT : Hid ((s.data.toList.take (i + 1)).all isNameB = true) := Lib.hid (by rw [HN.out, HAL.out, HP.out]; rfl)
        go_wp2_with (first
          | (go_at_call 99; (with_reducible refine (rname_any c _).mono ?_); rintro e w9 ⟨rfl, rfl⟩; rw [HP.out]))
        go_roundw
        case rel => first | exact ⟨i + 1, rfl, by omega, HT.out, rfl⟩ | exact ⟨i + 1, rfl, by omega, HT.out, trivial⟩
        case measure => (simp only; omega)
    · obtain rfl : i = s.size := by omega
      have HX : Hid (s.data.toList.all isNameB = true) := Lib.hid (by rw [← HE.out]; exact HAL.out)
      clear hlt hi
      go_wp2
      go_ret
      exact ⟨ret_bool (by have h := HX.out.symm; first | exact h | simpa using h), rfl⟩
set_option maxRecDepth 100000 in
set_option maxHeartbeats 4000000 in
theorem all2_any (s : ByteArray) (w : World) (hs : s.size ≤ 9223372036854775806) : Calls Tryz.prog 68 #[.string s, .int .i64 2] w fun e w' => e = .returned (.bool (s.data.toList.all isValueB)) ∧ w = w' := by
  have hbs := get_bt s
  have HA := Lib.hid (all_parts isValueB s)
  have HE : Hid ((s.data.toList.take s.size).all isValueB = s.data.toList.all isValueB) := Lib.hid (by rw [show s.size = s.data.toList.length from rfl, List.take_length])
  go_enter Tryz.func68, Tryz.ntmps68
  go_wp2
  go_loopw [5] (fun iv wr => ∃ i : Nat, iv = .int .i64 (i : Int) ∧ i ≤ s.size ∧ (s.data.toList.take i).all isValueB = true ∧ w = wr) (fun iv _ => match iv with | .int _ i => (s.size - i.toNat) | _ => 0)
  case atStart => exact ⟨0, rfl, Nat.zero_le _, by simp, rfl⟩
  case round =>
    obtain ⟨i, rfl, hi, hal, rfl⟩ := hrel
    have HAL := Lib.hid hal
    clear hal
    by_cases hlt : i < s.size
    · obtain ⟨c, hc, hn, hf⟩ := HA.out i hlt
      have hcb := bt_in hc
      have HN := Lib.hid hn
      have HF := Lib.hid hf
      have hc8 := c.toNat_lt
      clear hc hn hf
      cases hp : isValueB c
      · have HP := Lib.hid hp
        clear hp
        go_wp2_with (first
          | (go_at_call 100; (with_reducible refine (rvalue_any c _).mono ?_); rintro e w9 ⟨rfl, rfl⟩; rw [HP.out]))
        go_ret
        exact ⟨ret_bool (by have h := (HF.out HP.out).symm; first | exact h | simpa using h), rfl⟩
      · have HP := Lib.hid hp
        clear hp
        have HT : Hid ((s.data.toList.take (i + 1)).all isValueB = true) := Lib.hid (by rw [HN.out, HAL.out, HP.out]; rfl)
        go_wp2_with (first
          | (go_at_call 100; (with_reducible refine (rvalue_any c _).mono ?_); rintro e w9 ⟨rfl, rfl⟩; rw [HP.out]))
        go_roundw
        case rel => first | exact ⟨i + 1, rfl, by omega, HT.out, rfl⟩ | exact ⟨i + 1, rfl, by omega, HT.out, trivial⟩
        case measure => (simp only; omega)
    · obtain rfl : i = s.size := by omega
      have HX : Hid (s.data.toList.all isValueB = true) := Lib.hid (by rw [← HE.out]; exact HAL.out)
      clear hlt hi
      go_wp2
      go_ret
      exact ⟨ret_bool (by have h := HX.out.symm; first | exact h | simpa using h), rfl⟩
end Go.Proofs.YtbehakabglegjaaGreatDoor
namespace Go.Proofs.YtbehakabglegjaaGreatDoor
open Go.RowKit Go.PlainAid
set_option linter.unusedVariables false
set_option linter.unusedSimpArgs false
theorem op_conv_own {o : Oper} {a : Act} {w : World} {Q : Exit → Act → World → Prop} {K : Act → World → Prop} (x : Operand) (ho : o.op = .convert 9 23 x) (s : ByteArray) (hx : a.eval x = .string s) (hs : s.size ≤ maxLen)
    (hQ : ∀ w' v, OwnM w' w.heap.size v s.data.toList → Below w.heap.size w w' → K (a.put o.dst v) w') : o.wp Tryz.prog a w K Q := by
  have e := Lib.run_convert_string_bytes (P := Tryz.prog) w 9 23 5 s Tryz.underlying9 Tryz.underlying23 Tryz.underlying5
  have hr := OwnM.conv w s hs
  have hb : Below w.heap.size w (Lib.bytesWorld w 5 s) := Lib.bytesWorld_below w 5 s
  generalize Lib.bytesWorld w 5 s = w9 at *
  generalize hP : Tryz.prog = P at *
  unfold Oper.wp execOp
  simp only [ho, hx, Sem.run_bind, e, Result.andThen_ok, Sem.run_pure]
  exact hQ w9 _ hr hb
theorem OwnM.bt {w : World} {base : Nat} {v : Value} {l : List UInt8} (h : OwnM w base v l) : BtAt w v l := by
  rcases h with h | ⟨g, cap, cur, fz, rfl, _, hg, _, _, _, hs, ht⟩
  · exact bt_own h
  · refine ⟨_, _, rfl, fun i u hu => ⟨g, 0, rfl, ?_⟩⟩
    rw [Nat.zero_add, Lib.cell_of_heap hg]
    have h1 : (Lib.byteCells l)[i]? = some (.int .u8 (u.toNat : Int)) := by
      unfold Lib.byteCells
      rw [List.getElem?_map, hu]; rfl
    rw [← ht, List.getElem?_take] at h1
    split at h1
    · simpa using h1
    · cases h1
def fitR (pn pv : ByteArray) : Bool := (((((bl pn).all isNameB && (bl pv).all isValueB) && (txt (trimL (bl pv))).toList == pv.toList) && !(txt (lowL (bl pn))).toList.isEmpty) && !((txt (lowL (bl pn))).toList == [116, 114, 97, 110, 115, 102, 101, 114, 45, 101, 110, 99, 111, 100, 105, 110, 103])) && !((txt (lowL (bl pn))).toList == [99, 111, 110, 116, 101, 110, 116, 45, 108, 101, 110, 103, 116, 104])
theorem low_coding : lowL codingL = [116, 114, 97, 110, 115, 102, 101, 114, 45, 101, 110, 99, 111, 100, 105, 110, 103] := by decide +kernel
theorem low_length : lowL lengthL = [99, 111, 110, 116, 101, 110, 116, 45, 108, 101, 110, 103, 116, 104] := by decide +kernel
theorem fitR_is (pn pv : ByteArray) : fitR pn pv = fitB (pn, pv) := by
  rw [fitB_eq]
  unfold fitR alikeB
  rw [low_coding, low_length]
  have e1 : (txt (lowL (bl pn))).toList = lowL (bl pn) := by rw [ba_toList]; rfl
  have e2 : ((txt (trimL (bl pv))).toList == pv.toList) = (trimL (bl pv) == bl pv) := by rw [ba_toList, ba_toList]; rfl
  have e3 : (lowL (bl pn)).isEmpty = !decide (pn.size ≠ 0) := by
    have : (lowL (bl pn)).length = pn.size := by unfold lowL; rw [List.length_map]; rfl
    cases hh : lowL (bl pn) with
    | nil =>
      have h0 : pn.size = 0 := by rw [hh] at this; exact this.symm
      rw [decide_eq_false (by omega)]
      rfl
    | cons a r =>
      have h0 : r.length + 1 = pn.size := by rw [hh] at this; exact this
      rw [decide_eq_true (by omega)]
      rfl
  rw [e1, e2, e3]
  cases decide (pn.size ≠ 0) <;> cases (bl pn).all isNameB <;> cases (bl pv).all isValueB <;> cases (trimL (bl pv) == bl pv) <;> simp
set_option maxRecDepth 100000 in
set_option maxHeartbeats 8000000 in
theorem fits_any {pn pv : ByteArray} {w : World} (h1 : pn.size ≤ 140737488355328) (h2 : pv.size ≤ 140737488355328) : Calls Tryz.prog 39 #[.agg (hdA pn pv)] w fun e w' => e = .returned (.bool (fitB (pn, pv))) ∧ Below w.heap.size w w' := by
  have hfit := fitR_is pn pv
  have HLW : Hid (∀ w, Calls Tryz.prog 43 #[.string pn] w fun e w' => e = .returned (.string (txt (lowL (bl pn)))) ∧ Below w.heap.size w w') := Lib.hid fun w => rlower_any pn w h1
  have HA1 : Hid (∀ w, Calls Tryz.prog 68 #[.string pn, .int .i64 1] w fun e w' => e = .returned (.bool ((bl pn).all isNameB)) ∧ w = w') := Lib.hid fun w => all1_any pn w (by omega)
  have HA2 : Hid (∀ w, Calls Tryz.prog 68 #[.string pv, .int .i64 2] w fun e w' => e = .returned (.bool ((bl pv).all isValueB)) ∧ w = w') := Lib.hid fun w => all2_any pv w (by omega)
  have HTR : Hid (∀ A c w, BtAt w (.slice A (bl pv).length c) (bl pv) → (bl pv).length ≤ c → Calls Tryz.prog 69 #[.slice A pv.size c] w fun e w' => e = .returned (.string (txt (trimL (bl pv)))) ∧ w = w') := Lib.hid fun A c w hb hc => trimmed_any hb (show pv.size ≤ _ from h2) hc
  unfold fitR at hfit
  have HMX : Hid (pv.size ≤ maxLen) := Lib.hid (by unfold maxLen; omega)
  generalize (bl pn).all isNameB = b1 at HA1 hfit
  generalize (bl pv).all isValueB = b2 at HA2 hfit
  generalize txt (lowL (bl pn)) = lo at HLW hfit
  generalize txt (trimL (bl pv)) = tr at HTR hfit
  generalize hq3 : (tr.toList == pv.toList) = b3 at hfit
  generalize hq4 : lo.toList.isEmpty = b4 at hfit
  generalize hq5 : (lo.toList == [116, 114, 97, 110, 115, 102, 101, 114, 45, 101, 110, 99, 111, 100, 105, 110, 103]) = b5 at hfit
  generalize hq6 : (lo.toList == [99, 111, 110, 116, 101, 110, 116, 45, 108, 101, 110, 103, 116, 104]) = b6 at hfit
  have HF := Lib.hid hfit
  clear hfit h1 h2
  go_enter Tryz.func39, Tryz.ntmps39
  go_wp2_with (first
    | (refine wpl_box_at rfl 51 (.tmp 0) rfl _ rfl ?_; intro w1 hw; have B1 := hid_alloc0 hw; have HB := hid_grow hw; clear hw; have c0 : w1.cell? ⟨w.heap.size, 0, none⟩ = some (.string pn) := B1.cell 0; have c1 : w1.cell? ⟨w.heap.size, 1, none⟩ = some (.string pv) := B1.cell 1)
    | (go_at_call 43; (with_reducible refine (HLW.out _).mono ?_); rintro e w2 ⟨rfl, hb⟩; replace B1 := IBox.below B1 hb (IBox.lt B1); replace HB := HB.trans (hb.mono HB.size); clear hb c0 c1; have c0 : w2.cell? ⟨w.heap.size, 0, none⟩ = some (.string pn) := B1.cell 0; have c1 : w2.cell? ⟨w.heap.size, 1, none⟩ = some (.string pv) := B1.cell 1)
    | (go_at_call 68; (with_reducible refine (HA1.out _).mono ?_); rintro e w3 ⟨rfl, rfl⟩)
    | (go_at_call 68; (with_reducible refine (HA2.out _).mono ?_); rintro e w3 ⟨rfl, rfl⟩))
  refine wp_region_S (S := fun w' => w'.cell? ⟨w.heap.size, 0, none⟩ = some (.string pn) ∧ w'.cell? ⟨w.heap.size, 1, none⟩ = some (.string pv)) (by kernel_rfl) (fun w5 hh => ⟨(box_heap hh B1).cell 0, (box_heap hh B1).cell 1⟩) (fun w5 hh hbb HS0 => ?_)
  replace HB := HB.trans ((hbb _ (Nat.le_refl _)).mono HB.size)
  replace B1 := box_heap hh B1
  clear hh hbb c0 c1
  refine TKC 0 16 rfl ?_
  try simp only [Act.put, zA, zB, zC]
  refine TKC 1 17 rfl ?_ (by (intro w hSw; (try dsimp only at hSw); have q1 := hSw.2; go_simp; try with_reducible rfl))
  try simp only [Act.put, zA, zB, zC]
  refine TKC 4 20 rfl ?_
  try simp only [Act.put, zA, zB, zC]
  refine TKC 5 21 rfl ?_ (by (intro w hSw; (try dsimp only at hSw); have q1 := hSw.2; go_simp; try with_reducible rfl))
  try simp only [Act.put, zA, zB, zC]
  refine wpAnyH_ready (rs := [2]) (by kernel_rfl) (by simp) ?_
  refine AllReadyH.cons (o := ⟨some 18, _, _, _, _, _⟩) rfl (fun K hK => ?_) AllReadyH.nil
  simp only [Region.wanted, if_true]
  refine op_conv_own _ rfl pv rfl HMX.out ?_
  intro w6 rv ho hb
  obtain ⟨rA, rc, rfl⟩ := ho.slice
  have HBT : BtAt w6 (.slice rA (bl pv).length rc) (bl pv) := OwnM.bt ho
  have HCC : (bl pv).length ≤ rc := OwnM.cap ho
  replace B1 := IBox.below B1 hb (IBox.lt B1)
  replace HB := HB.trans (hb.mono HB.size)
  clear ho hb
  replace HS0 : w6.cell? ⟨w.heap.size, 0, none⟩ = some (.string pn) ∧ w6.cell? ⟨w.heap.size, 1, none⟩ = some (.string pv) := ⟨B1.cell 0, B1.cell 1⟩
  refine hK.out _ _ HS0 (fun hS2 => ?_)
  clear hK K hS2
  try simp only [Act.put, zA, zB, zC]
  refine wpAnyH_ready (rs := [3]) (by kernel_rfl) (by simp) ?_
  refine AllReadyH.cons (o := ⟨some 19, _, _, _, _, _⟩) rfl (fun K hK => ?_) AllReadyH.nil
  go_simp
  (go_at_call 69; (with_reducible refine (HTR.out _ _ _ HBT HCC).mono ?_); rintro e w7 ⟨rfl, rfl⟩)
  refine hK.out _ _ HS0 (fun hS2 => ?_)
  clear hK K hS2
  try simp only [Act.put, zA, zB, zC]
  refine TKC 6 22 (v := .bool b3) rfl ?_
  try simp only [Act.put, zA, zB, zC]
  refine TKC 7 6 rfl ?_
  try simp only [Act.put, zA, zB, zC]
  refine wpAnyH_done (by kernel_rfl) ?_ _
  clear HS0
  cases b1 <;> cases b2 <;> cases b3 <;> cases b4 <;> cases b5 <;> cases b6
  all_goals
    go_wp2
    go_ret
    exact ⟨by rw [← HF.out]; rfl, HB⟩
end Go.Proofs.YtbehakabglegjaaGreatDoor
