/- Layer 13: names.Split and the reference's. -/
import Derived.Test.YtpmdpfgaafaceaaNamesI
namespace Go.Proofs.Ytpmdpfgaafaceaa
open Go.RowKit Go.PlainAid
set_option linter.unusedVariables false

/-- Is a text a user's or a room's? -/
def namedR (s : ByteArray) : Bool := partedR s 64 userI || partedR s 33 roomI

theorem parted_colon {s : ByteArray} {m : Int} {p : Int → Bool} (h : partedR s m p = true) : ∃ k : Nat, colonI s = k ∧ 2 ≤ k ∧ k ≤ 33 ∧ k < s.size ∧ bt s 0 = m ∧ serverR (s.extract (k + 1) s.size) = true := by
  unfold partedR at h
  simp only [Bool.and_eq_true, decide_eq_true_eq] at h
  obtain ⟨⟨⟨⟨h1, h2⟩, h3⟩, h4⟩, h5⟩ := h
  rcases colon_cases s with hc | ⟨k, hc, hk, _, _⟩
  · rw [hc] at h1; omega
  · rw [hc] at h1 h2 h5
    exact ⟨k, hc, by omega, by omega, hk, h3, h5⟩
theorem named_colon {s : ByteArray} (h : namedR s = true) : ∃ k : Nat, colonI s = k ∧ 2 ≤ k ∧ k ≤ 33 ∧ k < s.size ∧ (bt s 0 = 64 ∨ bt s 0 = 33) ∧ serverR (s.extract (k + 1) s.size) = true := by
  unfold namedR at h
  rw [Bool.or_eq_true] at h
  rcases h with h | h
  · obtain ⟨k, a, b, c, d, e, f⟩ := parted_colon h
    exact ⟨k, a, b, c, d, .inl e, f⟩
  · obtain ⟨k, a, b, c, d, e, f⟩ := parted_colon h
    exact ⟨k, a, b, c, d, .inr e, f⟩

theorem split_no (s : ByteArray) (w : World) (hs : s.size ≤ maxLen) (hm : HasMax w) (h : namedR s = false) :
    Calls Try.prog 37 #[.string s] w fun e w' => e = .returned (.tuple #[.string ⟨#[]⟩, .string ⟨#[]⟩, .iface 81 (.int .i64 3)]) ∧ Below w.heap.size w w' := by
  unfold namedR at h
  obtain ⟨h1, h2⟩ := Bool.or_eq_false_iff.1 h
  have H1 := Lib.hid h1
  have H2 := Lib.hid h2
  have HS := Lib.hid hs
  have HM := Lib.hid hm
  clear h h1 h2 hs hm
  go_enter Try.func37, Try.ntmps37
  go_wp2_with (first
    | (go_at_call 39; (with_reducible refine (user_any s _ HS.out HM.out).mono ?_); rintro e w1 ⟨rfl, hb1⟩; rw [H1.out]; have HB1 := Lib.hid hb1; clear hb1; have HM1 := Lib.hid (HM.out.below HB1.out))
    | (go_at_call 38; (with_reducible refine (room_any s _ HS.out HM1.out).mono ?_); rintro e w2 ⟨rfl, hb2⟩; rw [H2.out]; have HB2 := Lib.hid (HB1.out.trans (hb2.mono HB1.out.size)); clear hb2))
  go_ret3
  exact ⟨rfl, HB2.out⟩

theorem split_yes (s : ByteArray) (w : World) (k : Nat) (hs : s.size ≤ maxLen) (hm : HasMax w) (h : namedR s = true) (hk : colonI s = k) :
    Calls Try.prog 37 #[.string s] w fun e w' => e = .returned (.tuple #[.string (s.extract 1 k), .string (s.extract (k + 1) s.size), .nilIface]) ∧ Below w.heap.size w w' := by
  obtain ⟨k', hk', k2, _, klt, hb0, _⟩ := named_colon h
  obtain rfl : k' = k := by omega
  obtain ⟨i, rfl⟩ : ∃ i, k' = i + 1 := ⟨k' - 1, by omega⟩
  have h0 : 0 < s.size := by omega
  have hc : Lib.indexByte (s.extract 1 s.size).data.toList 58 = i ∧ i < (s.extract 1 s.size).size := by
    have key : ∀ m : UInt8, bt s 0 = m.toNat → m ≠ 58 → Lib.indexByte (s.extract 1 s.size).data.toList 58 = i ∧ i < (s.extract 1 s.size).size := by
      intro m h1 h2
      rcases colon_rest s m h0 h1 h2 with ⟨a, b⟩ | ⟨i', a, b, c⟩
      · omega
      · obtain rfl : i' = i := by omega
        exact ⟨a, c⟩
    rcases hb0 with h1 | h1
    · exact key 64 h1 (by decide)
    · exact key 33 h1 (by decide)
  obtain ⟨hc, hi⟩ := hc
  have hrs : (s.extract 1 s.size).size ≤ maxLen := by rw [size_extract]; unfold maxLen at hs ⊢; omega
  have el : (s.extract 1 s.size).extract 0 i = s.extract 1 (i + 1) := ba_ext (by rw [extract_first, list_extract])
  have er : (s.extract 1 s.size).extract (i + 1) (s.size - 1) = s.extract (i + 1 + 1) s.size := by
    rw [show s.size - 1 = (s.extract 1 s.size).size from by rw [size_extract]; omega, extract_rest, show 1 + (i + 1) = i + 1 + 1 from by omega]
  rw [← el, ← er]
  have hn : (partedR s 64 userI || partedR s 33 roomI) = true := h
  generalize hA : partedR s 64 userI = A at hn
  generalize hB : partedR s 33 roomI = B at hn
  have HA := Lib.hid hA
  have HB := Lib.hid hB
  have HN := Lib.hid hn
  have HS := Lib.hid hs
  have HR := Lib.hid hrs
  have HM := Lib.hid hm
  have HC := Lib.hid hc
  clear hA hB hn hs hrs hm hc el er h hk hk' hb0 k2 klt
  have hk1 : (1 : Int) ≤ (s.size : Int) := by omega
  cases A
  · have hB1 : B = true := by have := HN.out; simpa using this
    subst hB1
    go_enter Try.func37, Try.ntmps37
    go_wp2_with (first
      | (go_at_call 39; (with_reducible refine (user_any s _ HS.out HM.out).mono ?_); rintro e w1 ⟨rfl, hb1⟩; rw [HA.out]; have HB1 := Lib.hid hb1; clear hb1; have HM1 := Lib.hid (HM.out.below HB1.out))
      | (go_at_call 38; (with_reducible refine (room_any s _ HS.out HM1.out).mono ?_); rintro e w2 ⟨rfl, hb2⟩; rw [HB.out]; have HB2 := Lib.hid (HB1.out.trans (hb2.mono HB1.out.size)); clear hb2)
      | (go_at_call 60; (with_reducible refine (cut_hit (s.extract 1 s.size) 58 _ i HR.out HC.out hi).mono ?_); rintro e w3 ⟨rfl, n, rfl⟩))
    go_ret3
    exact ⟨by simp, below_drewN HB2.out _⟩
  · go_enter Try.func37, Try.ntmps37
    go_wp2_with (first
      | (go_at_call 39; (with_reducible refine (user_any s _ HS.out HM.out).mono ?_); rintro e w1 ⟨rfl, hb1⟩; rw [HA.out]; have HB1 := Lib.hid hb1; clear hb1; have HM1 := Lib.hid (HM.out.below HB1.out))
      | (go_at_call 60; (with_reducible refine (cut_hit (s.extract 1 s.size) 58 _ i HR.out HC.out hi).mono ?_); rintro e w3 ⟨rfl, n, rfl⟩))
    go_ret3
    exact ⟨by simp, below_drewN HB1.out _⟩

theorem rsplit_no (s : ByteArray) (w : World) (hs : s.size ≤ maxLen) (h : namedR s = false) :
    Calls Try.prog 50 #[.string s] w fun e w' => e = .returned (.tuple #[.string ⟨#[]⟩, .string ⟨#[]⟩, .int .i64 3]) ∧ w = w' := by
  unfold namedR at h
  obtain ⟨h1, h2⟩ := Bool.or_eq_false_iff.1 h
  have H1 := Lib.hid h1
  have H2 := Lib.hid h2
  have HS := Lib.hid hs
  clear h h1 h2 hs
  go_enter Try.func50, Try.ntmps50
  go_wp2_with (first
    | (go_at_call 52; (with_reducible refine (ruser_any s _ HS.out).mono ?_); rintro e w1 ⟨rfl, rfl⟩; rw [H1.out])
    | (go_at_call 51; (with_reducible refine (rroom_any s _ HS.out).mono ?_); rintro e w2 ⟨rfl, rfl⟩; rw [H2.out]))
  go_ret3
  exact ⟨rfl, rfl⟩

theorem rsplit_yes (s : ByteArray) (w : World) (k : Nat) (hs : s.size ≤ maxLen) (h : namedR s = true) (hk : colonI s = k) :
    Calls Try.prog 50 #[.string s] w fun e w' => e = .returned (.tuple #[.string (s.extract 1 k), .string (s.extract (k + 1) s.size), .int .i64 0]) ∧ ∃ n, w' = w.drewN n := by
  obtain ⟨k', hk', k2, _, klt, hb0, _⟩ := named_colon h
  obtain rfl : k' = k := by omega
  have hn : (partedR s 64 userI || partedR s 33 roomI) = true := h
  generalize hA : partedR s 64 userI = A at hn
  generalize hB : partedR s 33 roomI = B at hn
  have HA := Lib.hid hA
  have HB := Lib.hid hB
  have HS := Lib.hid hs
  have HC := Lib.hid hk
  unfold maxLen at hs
  clear hA hB h hk hk' hb0
  have c1 : (0 : Int) ≤ (k' : Int) + 1 := by omega
  have c2 : (k' : Int) + 1 ≤ (s.size : Int) := by omega
  have c3 : (k' : Int) ≤ (s.size : Int) := by omega
  have c4 : (1 : Int) ≤ (k' : Int) := by omega
  cases A <;> cases B
  · cases hn
  all_goals
    go_enter Try.func50, Try.ntmps50
    go_wp2_with (first
      | (go_at_call 52; (with_reducible refine (ruser_any s _ HS.out).mono ?_); rintro e w1 ⟨rfl, rfl⟩; rw [HA.out])
      | (go_at_call 51; (with_reducible refine (rroom_any s _ HS.out).mono ?_); rintro e w2 ⟨rfl, rfl⟩; rw [HB.out])
      | (go_at_call 74; (with_reducible refine (rcolon_any s _ HS.out).mono ?_); rintro e w3 ⟨rfl, rfl⟩; rw [HC.out]))
    go_region
    go_wp2
    go_ret3
    exact ⟨rfl, 1, rfl⟩
end Go.Proofs.Ytpmdpfgaafaceaa
