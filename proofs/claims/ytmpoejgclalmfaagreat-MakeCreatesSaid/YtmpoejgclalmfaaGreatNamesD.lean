/- The library's strings.Cut at one byte, at any text; strings.CutPrefix at one byte. -/
import Derived.Test.YtmpoejgclalmfaaGreatNamesC
namespace Go.Proofs.YtmpoejgclalmfaaGreat
open Go.RowKit Go.PlainAid
set_option linter.unusedVariables false

theorem indexByte_cases (l : List UInt8) (c : UInt8) : Lib.indexByte l c = -1 ∨ ∃ i : Nat, Lib.indexByte l c = i ∧ i < l.length := by
  have hge := Lib.indexByte_ge l c
  by_cases h : Lib.indexByte l c = -1
  · exact .inl h
  · refine .inr ⟨(Lib.indexByte l c).toNat, by omega, ?_⟩
    have := Lib.indexByte_some (l := l) (c := c) (o := (Lib.indexByte l c).toNat) (by omega)
    exact (List.getElem?_eq_some_iff.1 this.1).1

theorem scut_miss (s : ByteArray) (c : UInt8) (w : World) (h : Lib.indexByte s.data.toList c = -1) :
    Calls Tryz.prog 61 #[.string s, .string ⟨#[c]⟩] w fun e w' => e = .returned (.tuple #[.string s, .string ByteArray.empty, .bool false]) ∧ ∃ n, w' = w.drewN n := by
  have H := Lib.hid h
  clear h
  go_enter Tryz.func61, Tryz.ntmps61
  go_wp2_with (go_at_call 75; refine (Tryz.stringslite_Index_one _ _ _).mono ?_; rintro e w' ⟨rfl, rfl⟩; rw [H.out])
  go_ret3
  exact ⟨rfl, 0, rfl⟩

theorem scut_hit (s : ByteArray) (c : UInt8) (w : World) (i : Nat) (hs : s.size ≤ maxLen) (h : Lib.indexByte s.data.toList c = i) (hi : i < s.size) :
    Calls Tryz.prog 61 #[.string s, .string ⟨#[c]⟩] w fun e w' => e = .returned (.tuple #[.string (s.extract 0 i), .string (s.extract (i + 1) s.size), .bool true]) ∧ ∃ n, w' = w.drewN n := by
  have H := Lib.hid h
  clear h
  unfold maxLen at hs
  have c1 : (0 : Int) ≤ ↑i := by omega
  have c2 : (↑i : Int) ≤ ↑s.size := by omega
  have c3 : (0 : Int) ≤ ↑i + 1 := by omega
  have c4 : (↑i + 1 : Int) ≤ ↑s.size := by omega
  have hc1 : (ByteArray.mk #[c]).size = 1 := rfl
  go_enter Tryz.func61, Tryz.ntmps61
  go_wp2_with (go_at_call 75; refine (Tryz.stringslite_Index_one _ _ _).mono ?_; rintro e w' ⟨rfl, rfl⟩; rw [H.out])
  go_region
  go_wp2
  go_ret3
  exact ⟨rfl, 1, rfl⟩

theorem cut_miss (s : ByteArray) (c : UInt8) (w : World) (h : Lib.indexByte s.data.toList c = -1) :
    Calls Tryz.prog 49 #[.string s, .string ⟨#[c]⟩] w fun e w' => e = .returned (.tuple #[.string s, .string ByteArray.empty, .bool false]) ∧ ∃ n, w' = w.drewN n := by
  have H := Lib.hid h
  clear h
  go_enter Tryz.func49, Tryz.ntmps49
  go_wp2_with (go_at_call 61; refine (scut_miss _ _ _ H.out).mono ?_; rintro e w' ⟨rfl, n, rfl⟩)
  go_ret3
  exact ⟨rfl, n, rfl⟩

theorem cut_hit (s : ByteArray) (c : UInt8) (w : World) (i : Nat) (hs : s.size ≤ maxLen) (h : Lib.indexByte s.data.toList c = i) (hi : i < s.size) :
    Calls Tryz.prog 49 #[.string s, .string ⟨#[c]⟩] w fun e w' => e = .returned (.tuple #[.string (s.extract 0 i), .string (s.extract (i + 1) s.size), .bool true]) ∧ ∃ n, w' = w.drewN n := by
  have H := Lib.hid h
  clear h
  have HS := Lib.hid hs
  clear hs
  go_enter Tryz.func49, Tryz.ntmps49
  go_wp2_with (go_at_call 61; refine (scut_hit _ _ _ i HS.out H.out hi).mono ?_; rintro e w' ⟨rfl, n, rfl⟩)
  go_ret3
  exact ⟨rfl, n, rfl⟩

theorem ba_ext {a b : ByteArray} (h : a.data.toList = b.data.toList) : a = b := by
  cases a; cases b; simp only [ByteArray.mk.injEq]; exact Array.toList_inj.1 h

theorem prefix_yes (s : ByteArray) (c : UInt8) (w : World) (h0 : 0 < s.size) (h : bt s 0 = c.toNat) :
    Calls Tryz.prog 48 #[.string s, .string ⟨#[c]⟩] w fun e w' => e = .returned (.tuple #[.string (s.extract 1 s.size), .bool true]) ∧ w = w' := by
  refine (Tryz.strings_CutPrefix s ⟨#[c]⟩ w).mono fun e w' ⟨he, hw⟩ => ⟨?_, hw.symm⟩
  rw [he]
  have hp : Lib.hasPrefix s.data.toList [c] = true := by
    unfold bt at h
    rw [dif_pos h0] at h
    have e0 := drop_cons s 0 h0
    rw [List.drop_zero] at e0
    have e1 : s[0]'h0 = c := UInt8.toNat_inj.1 (by omega)
    rw [e0, e1]
    simp [Lib.hasPrefix]
  show Ending.returned (.tuple #[.string ⟨(Lib.trimPrefix s.data.toList [c]).toArray⟩, .bool (Lib.hasPrefix s.data.toList [c])]) = _
  unfold Lib.trimPrefix
  rw [hp]
  have : (⟨(List.drop 1 s.data.toList).toArray⟩ : ByteArray) = s.extract 1 s.size := by
    apply ba_ext
    rw [Lib.extract_data]
    rw [List.take_of_length_le (by rw [List.length_drop, ← Lib.size_eq]; exact Nat.le_refl _)]
  rw [← this]
  rfl

theorem prefix_no (s : ByteArray) (c : UInt8) (w : World) (h : ¬ (0 < s.size ∧ bt s 0 = c.toNat)) :
    Calls Tryz.prog 48 #[.string s, .string ⟨#[c]⟩] w fun e w' => e = .returned (.tuple #[.string s, .bool false]) ∧ w = w' := by
  refine (Tryz.strings_CutPrefix s ⟨#[c]⟩ w).mono fun e w' ⟨he, hw⟩ => ⟨?_, hw.symm⟩
  rw [he]
  have hp : Lib.hasPrefix s.data.toList [c] = false := by
    by_cases h0 : 0 < s.size
    · unfold bt at h
      rw [dif_pos h0] at h
      have e0 := drop_cons s 0 h0
      rw [List.drop_zero] at e0
      rw [e0]
      have : (c == s[0]'h0) = false := by
        rw [beq_eq_false_iff_ne]
        rintro rfl
        exact h ⟨h0, rfl⟩
      show ((c == s[0]'h0) && _) = false
      rw [this]; rfl
    · have : s.data.toList = [] := List.eq_nil_of_length_eq_zero (by rw [← Lib.size_eq]; omega)
      rw [this]; rfl
  show Ending.returned (.tuple #[.string ⟨(Lib.trimPrefix s.data.toList [c]).toArray⟩, .bool (Lib.hasPrefix s.data.toList [c])]) = _
  unfold Lib.trimPrefix
  rw [hp]
  rfl
end Go.Proofs.YtmpoejgclalmfaaGreat
