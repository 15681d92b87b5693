/- Layer 13: the walks of names.Event, names.Key. -/
import Derived.Test.YtifffggppgphkaaNamesF
namespace Go.Proofs.Ytifffggppgphkaa
open Go.RowKit Go.PlainAid
set_option linter.unusedVariables false

def eventR (s : ByteArray) : Bool := decide (s.size = 44) && decide (bt s 0 = 36) && allB (s.data.toList.drop 1) roomI
def keyPre : List UInt8 := [101, 100, 50, 53, 53, 49, 57, 58]
def keyR (s : ByteArray) : Bool := decide (9 ≤ s.size) && decide (s.size ≤ 24) && Lib.hasPrefix s.data.toList keyPre && allB (s.data.toList.drop 8) plainI

theorem event_any (s : ByteArray) (w : World) (hs : s.size ≤ maxLen) :
    Calls Try.prog 17 #[.string s] w fun e w' => e = .returned (.bool (eventR s)) ∧ Below w.heap.size w w' := by
  by_cases h : 0 < s.size ∧ bt s 0 = (36 : UInt8).toNat
  · obtain ⟨h0, h1⟩ := h
    have hsz : (s.extract 1 s.size).size = s.size - 1 := by rw [size_extract]; omega
    have H0 := Lib.hid h0
    have H1 := Lib.hid h1
    by_cases hr : s.size = 44
    · have hz : eventR s = allB (s.extract 1 s.size).data.toList roomI := by
        unfold eventR
        rw [decide_eq_true hr, decide_eq_true (show bt s 0 = 36 from h1), list_extract_all]; rfl
      generalize hA : allB (s.extract 1 s.size).data.toList roomI = A at hz
      have HA := Lib.hid hA
      clear hA
      have g1 : (43 : Int) ≤ ((s.extract 1 s.size).size : Int) := by omega
      have g2 : ((s.extract 1 s.size).size : Int) ≤ 43 := by omega
      have g3 : (s.extract 1 s.size).size ≤ maxLen := by unfold maxLen; omega
      have G1 := Lib.hid g1
      have G2 := Lib.hid g2
      have G3 := Lib.hid g3
      have HZ := Lib.hid hz
      clear g1 g2 g3 hz hr hsz h0 h1 hs
      go_enter Try.func17, Try.ntmps17
      go_wp2_with (first
        | (go_at_call 37; (with_reducible refine (prefix_yes s 36 _ H0.out H1.out).mono ?_); rintro e w' ⟨rfl, rfl⟩)
        | (go_at_call 26; (with_reducible refine (all_yes _ roomI kind_event _ _ _ _ G1.out G2.out G3.out).mono ?_); rintro e w1 ⟨rfl, hb1⟩; rw [HA.out]))
      go_ret
      exact ⟨ret_bool HZ.out.symm, hb1⟩
    · have hz : eventR s = false := by
        unfold eventR; rw [decide_eq_false hr]; rfl
      have hr2 : ¬ ((43 : Int) ≤ ((s.extract 1 s.size).size : Int) ∧ ((s.extract 1 s.size).size : Int) ≤ 43) := by omega
      have ha : allS (s.extract 1 s.size) 43 43 roomI = false := by
        unfold allS
        have e : (decide ((43 : Int) ≤ ((s.extract 1 s.size).size : Int)) && decide (((s.extract 1 s.size).size : Int) ≤ 43)) = false := by
          rw [Bool.eq_false_iff]; simpa using hr2
        rw [e]; rfl
      have HZ := Lib.hid hz
      have HR2 := Lib.hid hr2
      have HA := Lib.hid ha
      clear hz hr2 ha hr hsz h0 h1 hs
      go_enter Try.func17, Try.ntmps17
      go_wp2_with (first
        | (go_at_call 37; (with_reducible refine (prefix_yes s 36 _ H0.out H1.out).mono ?_); rintro e w' ⟨rfl, rfl⟩)
        | (go_at_call 26; (with_reducible refine (all_no _ roomI _ _ _ _ HR2.out).mono ?_); rintro e w1 ⟨rfl, rfl⟩; rw [HA.out]))
      go_ret
      exact ⟨ret_bool HZ.out.symm, Below.refl _ _⟩
  · have hz : eventR s = false := by
      unfold eventR
      by_cases h1 : bt s 0 = 36
      · have h2 : ¬ s.size = 44 := by
          intro h3
          exact h ⟨by omega, h1⟩
        rw [decide_eq_false h2]; rfl
      · rw [decide_eq_false h1]; simp
    have HZ := Lib.hid hz
    have H := Lib.hid h
    clear h hz
    go_enter Try.func17, Try.ntmps17
    go_wp2_with (go_at_call 37; (with_reducible refine (prefix_no s 36 _ H.out).mono ?_); rintro e w' ⟨rfl, rfl⟩)
    go_ret
    exact ⟨ret_bool HZ.out.symm, Below.refl _ _⟩

theorem prefixK_yes (s : ByteArray) (w : World) (h : Lib.hasPrefix s.data.toList keyPre = true) :
    Calls Try.prog 37 #[.string s, .string ⟨#[101, 100, 50, 53, 53, 49, 57, 58]⟩] w fun e w' => e = .returned (.tuple #[.string (s.extract 8 s.size), .bool true]) ∧ w = w' := by
  refine (Try.strings_CutPrefix s ⟨#[101, 100, 50, 53, 53, 49, 57, 58]⟩ w).mono fun e w' ⟨he, hw⟩ => ⟨?_, hw.symm⟩
  rw [he]
  show Ending.returned (.tuple #[.string ⟨(Lib.trimPrefix s.data.toList keyPre).toArray⟩, .bool (Lib.hasPrefix s.data.toList keyPre)]) = _
  unfold Lib.trimPrefix
  rw [h]
  have : (⟨(List.drop 8 s.data.toList).toArray⟩ : ByteArray) = s.extract 8 s.size := by
    apply ba_ext
    rw [list_extract_all]
  rw [← this]
  rfl
theorem prefixK_no (s : ByteArray) (w : World) (h : Lib.hasPrefix s.data.toList keyPre = false) :
    Calls Try.prog 37 #[.string s, .string ⟨#[101, 100, 50, 53, 53, 49, 57, 58]⟩] w fun e w' => e = .returned (.tuple #[.string s, .bool false]) ∧ w = w' := by
  refine (Try.strings_CutPrefix s ⟨#[101, 100, 50, 53, 53, 49, 57, 58]⟩ w).mono fun e w' ⟨he, hw⟩ => ⟨?_, hw.symm⟩
  rw [he]
  show Ending.returned (.tuple #[.string ⟨(Lib.trimPrefix s.data.toList keyPre).toArray⟩, .bool (Lib.hasPrefix s.data.toList keyPre)]) = _
  unfold Lib.trimPrefix
  rw [h]
  rfl

theorem hasPrefix_size {s : ByteArray} {p : List UInt8} (h : Lib.hasPrefix s.data.toList p = true) : p.length ≤ s.size := by
  have := (List.isPrefixOf_iff_prefix.1 h).length_le
  rw [Lib.size_eq]; exact this

theorem key_any (s : ByteArray) (w : World) (hs : s.size ≤ maxLen) :
    Calls Try.prog 19 #[.string s] w fun e w' => e = .returned (.bool (keyR s)) ∧ Below w.heap.size w w' := by
  cases h : Lib.hasPrefix s.data.toList keyPre
  · have hz : keyR s = false := by
      unfold keyR; rw [h]; simp
    have HZ := Lib.hid hz
    have H := Lib.hid h
    clear h hz
    go_enter Try.func19, Try.ntmps19
    go_wp2_with (go_at_call 37; (with_reducible refine (prefixK_no s _ H.out).mono ?_); rintro e w' ⟨rfl, rfl⟩)
    go_ret
    exact ⟨ret_bool HZ.out.symm, Below.refl _ _⟩
  · have h8 := hasPrefix_size h
    have h8' : 8 ≤ s.size := h8
    have hsz : (s.extract 8 s.size).size = s.size - 8 := by rw [size_extract]; omega
    by_cases hr : 9 ≤ s.size ∧ s.size ≤ 24
    · have hz : keyR s = allB (s.extract 8 s.size).data.toList plainI := by
        unfold keyR
        rw [decide_eq_true hr.1, decide_eq_true hr.2, h, list_extract_all]; rfl
      generalize hA : allB (s.extract 8 s.size).data.toList plainI = A at hz
      have HA := Lib.hid hA
      clear hA
      have g1 : (1 : Int) ≤ ((s.extract 8 s.size).size : Int) := by omega
      have g2 : ((s.extract 8 s.size).size : Int) ≤ 16 := by omega
      have g3 : (s.extract 8 s.size).size ≤ maxLen := by unfold maxLen; omega
      have G1 := Lib.hid g1
      have G2 := Lib.hid g2
      have G3 := Lib.hid g3
      have HZ := Lib.hid hz
      have H := Lib.hid h
      clear g1 g2 g3 hz hr hsz h hs h8 h8'
      go_enter Try.func19, Try.ntmps19
      go_wp2_with (first
        | (go_at_call 37; (with_reducible refine (prefixK_yes s _ H.out).mono ?_); rintro e w' ⟨rfl, rfl⟩)
        | (go_at_call 26; (with_reducible refine (all_yes _ plainI kind_plain _ _ _ _ G1.out G2.out G3.out).mono ?_); rintro e w1 ⟨rfl, hb1⟩; rw [HA.out]))
      go_ret
      exact ⟨ret_bool HZ.out.symm, hb1⟩
    · have hz : keyR s = false := by
        unfold keyR
        have e : (decide (9 ≤ s.size) && decide (s.size ≤ 24)) = false := by
          rw [Bool.eq_false_iff]; simpa using hr
        rw [e]; rfl
      have hr2 : ¬ ((1 : Int) ≤ ((s.extract 8 s.size).size : Int) ∧ ((s.extract 8 s.size).size : Int) ≤ 16) := by omega
      have ha : allS (s.extract 8 s.size) 1 16 plainI = false := by
        unfold allS
        have e : (decide ((1 : Int) ≤ ((s.extract 8 s.size).size : Int)) && decide (((s.extract 8 s.size).size : Int) ≤ 16)) = false := by
          rw [Bool.eq_false_iff]; simpa using hr2
        rw [e]; rfl
      have HZ := Lib.hid hz
      have HR2 := Lib.hid hr2
      have HA := Lib.hid ha
      have H := Lib.hid h
      clear hz hr2 ha hr hsz h h8 h8' hs
      go_enter Try.func19, Try.ntmps19
      go_wp2_with (first
        | (go_at_call 37; (with_reducible refine (prefixK_yes s _ H.out).mono ?_); rintro e w' ⟨rfl, rfl⟩)
        | (go_at_call 26; (with_reducible refine (all_no _ plainI _ _ _ _ HR2.out).mono ?_); rintro e w1 ⟨rfl, rfl⟩; rw [HA.out]))
      go_ret
      exact ⟨ret_bool HZ.out.symm, Below.refl _ _⟩
end Go.Proofs.Ytifffggppgphkaa
