/- Layer 13: the laws NamesJoins and NamesBack. -/
import Derived.Test.YtifffggppgphkaaNamesM
namespace Go.Proofs.Ytifffggppgphkaa
open Go.RowKit Go.PlainAid
set_option linter.unusedVariables false

/-- NamesJoins: the name of any parts. -/
theorem joins_any (m l v : ByteArray) (w : World) (h1 : m.size ≤ 140737488355328) (h2 : l.size ≤ 140737488355328) (h3 : v.size ≤ 140737488355328) (hm : HasMax w) :
    Calls Try.prog 5 #[.string m, .string l, .string v] w fun e w' => e = .returned (.bool true) ∧ Below w.heap.size w w' := by
  have HM := Lib.hid hm
  have H1 := Lib.hid h1
  have H2 := Lib.hid h2
  have H3 := Lib.hid h3
  clear hm h1 h2 h3
  cases hj : joinR m l v
  · have HJ := Lib.hid hj
    clear hj
    go_enter Try.func5, Try.ntmps5
    go_wp2_with (first
      | (go_at_call 7; (with_reducible refine (up_any _ HM.out).mono ?_); rintro e w1 ⟨rfl, hb⟩; have HB1 := Lib.hid hb; clear hb; have HM1 := Lib.hid (HM.out.below HB1.out))
      | (go_at_call 21; (with_reducible refine (join_no m l v _ H1.out H2.out H3.out HM1.out HJ.out).mono ?_); rintro e w2 ⟨rfl, hb⟩; have HB2 := Lib.hid (HB1.out.trans (hb.mono HB1.out.size)); clear hb)
      | (go_at_call 22; (with_reducible refine (rjoin_no m l v _ H1.out H2.out H3.out HJ.out).mono ?_); rintro e w3 ⟨rfl, rfl⟩)
      | (go_at_call 10; (with_reducible refine (code_3 _).mono ?_); rintro e w4 ⟨rfl, rfl⟩))
    go_ret
    exact ⟨rfl, HB2.out⟩
  · have HJ := Lib.hid hj
    clear hj
    go_enter Try.func5, Try.ntmps5
    go_wp2_with (first
      | (go_at_call 7; (with_reducible refine (up_any _ HM.out).mono ?_); rintro e w1 ⟨rfl, hb⟩; have HB1 := Lib.hid hb; clear hb; have HM1 := Lib.hid (HM.out.below HB1.out))
      | (go_at_call 21; (with_reducible refine (join_yes m l v _ H1.out H2.out H3.out HM1.out HJ.out).mono ?_); rintro e w2 ⟨rfl, hb⟩; have HB2 := Lib.hid (HB1.out.trans (hb.mono HB1.out.size)); clear hb)
      | (go_at_call 22; (with_reducible refine (rjoin_yes m l v _ H1.out H2.out H3.out HJ.out).mono ?_); rintro e w3 ⟨rfl, rfl⟩)
      | (go_at_call 10; (with_reducible refine (code_nil _).mono ?_); rintro e w4 ⟨rfl, rfl⟩))
    go_ret
    exact ⟨rfl, HB2.out⟩

/-! ### No text is a name of two kinds -/
theorem small_first {s : ByteArray} (h : serverR s = true) : smallI (bt s 0) = true ∧ ∀ j, j < s.size → srvI (bt s j) = true := by
  have hsz : 1 ≤ s.size ∧ s.size ≤ 64 := by
    unfold serverR at h
    simp only [Bool.and_eq_true, decide_eq_true_eq] at h
    exact h.1
  refine ⟨?_, server_all h⟩
  rw [← server_same s hsz.1 hsz.2] at h
  unfold serverP at h
  simp only [Bool.and_eq_true] at h
  exact h.1.1.1.1.2
theorem key_bytes {s : ByteArray} (h : keyR s = true) : bt s 0 = 101 ∧ bt s 7 = 58 ∧ 7 < s.size := by
  unfold keyR at h
  simp only [Bool.and_eq_true, decide_eq_true_eq] at h
  obtain ⟨⟨⟨h1, h2⟩, h3⟩, h4⟩ := h
  obtain ⟨t, ht⟩ := List.isPrefixOf_iff_prefix.1 h3
  have e0 : s.data.toList[0]? = some 101 := by rw [← ht]; rfl
  have e7 : s.data.toList[7]? = some 58 := by rw [← ht]; rfl
  exact ⟨(bt_some s 0 101 e0).2, (bt_some s 7 58 e7).2, by omega⟩
theorem parted_first {s : ByteArray} {m : Int} {p : Int → Bool} (h : partedR s m p = true) : bt s 0 = m := by
  obtain ⟨_, _, _, _, _, e, _⟩ := parted_colon h
  exact e
theorem event_first {s : ByteArray} (h : eventR s = true) : bt s 0 = 36 := by
  unfold eventR at h
  simp only [Bool.and_eq_true, decide_eq_true_eq] at h
  exact h.1.2

/-- At most one kind. -/
def OneKind (a b c d e : Bool) : Prop :=
  (a = false ∧ b = false ∧ c = false ∧ d = false ∧ e = false) ∨ (a = true ∧ b = false ∧ c = false ∧ d = false ∧ e = false) ∨ (a = false ∧ b = true ∧ c = false ∧ d = false ∧ e = false) ∨
  (a = false ∧ b = false ∧ c = true ∧ d = false ∧ e = false) ∨ (a = false ∧ b = false ∧ c = false ∧ d = true ∧ e = false) ∨ (a = false ∧ b = false ∧ c = false ∧ d = false ∧ e = true)
theorem one_kind (s : ByteArray) : OneKind (serverR s) (partedR s 64 userI) (partedR s 33 roomI) (eventR s) (keyR s) := by
  have n1 : ∀ c : Int, smallI c = true → c ≠ 64 ∧ c ≠ 33 ∧ c ≠ 36 := by
    intro c h
    unfold smallI at h
    simp only [Bool.or_eq_true, Bool.and_eq_true, decide_eq_true_eq] at h
    omega
  have fa := @small_first s
  have fb := @parted_first s 64 userI
  have fc := @parted_first s 33 roomI
  have fd := @event_first s
  have fe := @key_bytes s
  unfold OneKind
  cases ha : serverR s
  · cases hb : partedR s 64 userI <;> cases hc : partedR s 33 roomI <;> cases hd : eventR s <;> cases he : keyR s <;> simp only [Bool.true_eq_false, Bool.false_eq_true, and_true, and_false, or_false, or_true, and_self]
    all_goals
      (try have gb := fb hb)
      (try have gc := fc hc)
      (try have gd := fd hd)
      (try have ge := fe he)
      omega
  · obtain ⟨g1, g2⟩ := fa ha
    have g3 := n1 _ g1
    have hb : partedR s 64 userI = false := by rw [Bool.eq_false_iff]; exact fun h => g3.1 (fb h)
    have hc : partedR s 33 roomI = false := by rw [Bool.eq_false_iff]; exact fun h => g3.2.1 (fc h)
    have hd : eventR s = false := by rw [Bool.eq_false_iff]; exact fun h => g3.2.2 (fd h)
    have he : keyR s = false := by
      rw [Bool.eq_false_iff]
      intro h
      have h2 := fe h
      have := g2 7 h2.2.2
      rw [h2.2.1] at this
      revert this; decide
    rw [hb, hc, hd, he]
    simp

theorem back_join (s : ByteArray) (k : Nat) (hk : colonI s = k) (h : namedR s = true) :
    joined (s.extract 0 1) (s.extract 1 k) (s.extract (k + 1) s.size) = s ∧ joinR (s.extract 0 1) (s.extract 1 k) (s.extract (k + 1) s.size) = true := by
  obtain ⟨k', hk', k2, _, klt, hb, _⟩ := named_colon h
  obtain rfl : k' = k := by omega
  have hcol : bt s k' = 58 := by
    rcases colon_cases s with hn | ⟨k'', hk'', _, hb', _⟩
    · omega
    · obtain rfl : k'' = k' := by omega
      exact hb'
  have hj : joined (s.extract 0 1) (s.extract 1 k') (s.extract (k' + 1) s.size) = s := by
    apply ba_ext
    rw [joined_list, list_extract, list_extract, list_extract_all, List.drop_zero]
    have hl : k' < s.data.toList.length := by rw [← Lib.size_eq]; exact klt
    have e58 : s.data.toList[k'] = 58 := by
      have := bt_is s k' 58 klt hcol
      rw [List.getElem?_eq_getElem hl] at this
      exact Option.some.inj this
    have a1 : s.data.toList.take 1 ++ (s.data.toList.take k').drop 1 = s.data.toList.take k' := by
      have : s.data.toList.take 1 = (s.data.toList.take k').take 1 := by rw [List.take_take, show min 1 k' = 1 from by omega]
      rw [this, List.take_append_drop]
    have a2 : [58] ++ s.data.toList.drop (k' + 1) = s.data.toList.drop k' := by
      rw [List.drop_eq_getElem_cons hl, e58]; rfl
    rw [a1, List.append_assoc, a2, List.take_append_drop]
  refine ⟨hj, ?_⟩
  have h0 : 0 < s.size := by omega
  have hfirst : ∀ c : UInt8, bt s 0 = c.toNat → (s.extract 0 1).toList = [c] := by
    intro c hc
    rw [ba_toList, list_extract, List.drop_zero]
    have := bt_is s 0 c h0 hc
    have hl : 0 < s.data.toList.length := by rw [← Lib.size_eq]; exact h0
    rw [List.getElem?_eq_getElem hl] at this
    have e := List.drop_eq_getElem_cons hl
    rw [List.drop_zero] at e
    rw [e, Option.some.inj this]
    rfl
  unfold joinR
  rw [hj]
  unfold namedR at h
  rw [Bool.or_eq_true] at h
  rcases h with h | h
  · rw [hfirst 64 (parted_first h), h]; rfl
  · rw [hfirst 33 (parted_first h), h]; rfl

theorem back_no (s : ByteArray) (w : World) (hs : s.size ≤ maxLen) (hm : HasMax w) (a d e : Bool) (hA : serverR s = a) (hB : partedR s 64 userI = false) (hC : partedR s 33 roomI = false) (hD : eventR s = d) (hE : keyR s = e)
    (h1 : (a = false ∧ d = false ∧ e = false) ∨ (a = true ∧ d = false ∧ e = false) ∨ (a = false ∧ d = true ∧ e = false) ∨ (a = false ∧ d = false ∧ e = true)) :
    Calls Try.prog 6 #[.string s] w fun e w' => e = .returned (.bool true) ∧ Below w.heap.size w w' := by
  have hn : namedR s = false := by unfold namedR; rw [hB, hC]; rfl
  have HM := Lib.hid hm
  have HS := Lib.hid hs
  have HN := Lib.hid hn
  clear hm hs hn
  rcases h1 with ⟨rfl, rfl, rfl⟩ | ⟨rfl, rfl, rfl⟩ | ⟨rfl, rfl, rfl⟩ | ⟨rfl, rfl, rfl⟩
  all_goals
    have HA := Lib.hid hA
    have HB := Lib.hid hB
    have HC := Lib.hid hC
    have HD := Lib.hid hD
    have HE := Lib.hid hE
    clear hA hB hC hD hE
    go_enter Try.func6, Try.ntmps6
    go_wp2_with (first
      | (go_at_call 7; (with_reducible refine (up_any _ HM.out).mono ?_); rintro e w1 ⟨rfl, hb⟩; have HB1 := Lib.hid hb; clear hb; have HM1 := Lib.hid (HM.out.below HB1.out))
      | (go_at_call 11; (with_reducible refine (server_any s _ HM1.out).mono ?_); rintro e w2 ⟨rfl, hb⟩; rw [HA.out]; have HB2 := Lib.hid (HB1.out.trans (hb.mono HB1.out.size)); clear hb; have HM2 := Lib.hid (HM.out.below HB2.out))
      | (go_at_call 13; (with_reducible refine (user_any s _ HS.out HM2.out).mono ?_); rintro e w3 ⟨rfl, hb⟩; rw [HB.out]; have HB3 := Lib.hid (HB2.out.trans (hb.mono HB2.out.size)); clear hb; have HM3 := Lib.hid (HM.out.below HB3.out))
      | (go_at_call 15; (with_reducible refine (room_any s _ HS.out HM3.out).mono ?_); rintro e w4 ⟨rfl, hb⟩; rw [HC.out]; have HB4 := Lib.hid (HB3.out.trans (hb.mono HB3.out.size)); clear hb)
      | (go_at_call 17; (with_reducible refine (event_any s _ HS.out).mono ?_); rintro e w5 ⟨rfl, hb⟩; rw [HD.out]; have HB5 := Lib.hid (HB4.out.trans (hb.mono HB4.out.size)); clear hb)
      | (go_at_call 19; (with_reducible refine (key_any s _ HS.out).mono ?_); rintro e w6 ⟨rfl, hb⟩; rw [HE.out]; have HB6 := Lib.hid (HB5.out.trans (hb.mono HB5.out.size)); clear hb; have HM6 := Lib.hid (HM.out.below HB6.out))
      | (go_at_call 8; (with_reducible refine (split_no s _ HS.out HM6.out HN.out).mono ?_); rintro e w7 ⟨rfl, hb⟩; have HB7 := Lib.hid (HB6.out.trans (hb.mono HB6.out.size)); clear hb; have HM7 := Lib.hid (HM.out.below HB7.out); clear HM2 HM3)
      | (go_at_call 13; (with_reducible refine (user_any s _ HS.out HM7.out).mono ?_); rintro e w8 ⟨rfl, hb⟩; rw [HB.out]; have HB8 := Lib.hid (HB7.out.trans (hb.mono HB7.out.size)); clear hb; have HM8 := Lib.hid (HM.out.below HB8.out))
      | (go_at_call 15; (with_reducible refine (room_any s _ HS.out HM8.out).mono ?_); rintro e w9 ⟨rfl, hb⟩; rw [HC.out]; have HB9 := Lib.hid (HB8.out.trans (hb.mono HB8.out.size)); clear hb))
    go_ret
    exact ⟨rfl, HB9.out⟩

theorem back_yes (s : ByteArray) (w : World) (hs : s.size ≤ 140737488355328) (hm : HasMax w) (b c : Bool) (hA : serverR s = false) (hB : partedR s 64 userI = b) (hC : partedR s 33 roomI = c) (hD : eventR s = false) (hE : keyR s = false)
    (h1 : (b = true ∧ c = false) ∨ (b = false ∧ c = true)) :
    Calls Try.prog 6 #[.string s] w fun e w' => e = .returned (.bool true) ∧ Below w.heap.size w w' := by
  have hs2 : s.size ≤ maxLen := by unfold maxLen; omega
  have hn : namedR s = true := by
    unfold namedR
    rcases h1 with ⟨rfl, rfl⟩ | ⟨rfl, rfl⟩
    · rw [hB]; rfl
    · rw [hC, Bool.or_true]
  obtain ⟨k, hk, k2, _, klt, _, hsv⟩ := named_colon hn
  obtain ⟨hj, hj2⟩ := back_join s k hk hn
  have q1 : (s.extract 0 1).size ≤ 140737488355328 := by rw [size_extract]; omega
  have q2 : (s.extract 1 k).size ≤ 140737488355328 := by rw [size_extract]; omega
  have q3 : (s.extract (k + 1) s.size).size ≤ 140737488355328 := by rw [size_extract]; omega
  have hjn : ∀ w0, HasMax w0 → Calls Try.prog 21 #[.string (s.extract 0 1), .string (s.extract 1 k), .string (s.extract (k + 1) s.size)] w0 fun e w' => e = .returned (.tuple #[.string s, .nilIface]) ∧ Below w0.heap.size w0 w' := by
    intro w0 hm0
    refine (join_yes _ _ _ w0 q1 q2 q3 hm0 hj2).mono fun e w' ⟨he, hw⟩ => ⟨?_, hw⟩
    rw [he, hj]
  have h0 : (1 : Int) ≤ (s.size : Int) := by omega
  have HM := Lib.hid hm
  have HS := Lib.hid hs2
  have HN := Lib.hid hn
  have HK := Lib.hid hk
  have HJN := Lib.hid hjn
  have HSV := Lib.hid hsv
  clear hm hs2 hn hk hjn hsv hj hj2 q1 q2 q3 hs k2 klt
  rcases h1 with ⟨rfl, rfl⟩ | ⟨rfl, rfl⟩
  all_goals
    have HA := Lib.hid hA
    have HB := Lib.hid hB
    have HC := Lib.hid hC
    have HD := Lib.hid hD
    have HE := Lib.hid hE
    clear hA hB hC hD hE
    go_enter Try.func6, Try.ntmps6
    go_wp2_with (first
      | (go_at_call 7; (with_reducible refine (up_any _ HM.out).mono ?_); rintro e w1 ⟨rfl, hb⟩; have HB1 := Lib.hid hb; clear hb; have HM1 := Lib.hid (HM.out.below HB1.out))
      | (go_at_call 11; (with_reducible refine (server_any s _ HM1.out).mono ?_); rintro e w2 ⟨rfl, hb⟩; rw [HA.out]; have HB2 := Lib.hid (HB1.out.trans (hb.mono HB1.out.size)); clear hb; have HM2 := Lib.hid (HM.out.below HB2.out))
      | (go_at_call 13; (with_reducible refine (user_any s _ HS.out HM2.out).mono ?_); rintro e w3 ⟨rfl, hb⟩; rw [HB.out]; have HB3 := Lib.hid (HB2.out.trans (hb.mono HB2.out.size)); clear hb; have HM3 := Lib.hid (HM.out.below HB3.out))
      | (go_at_call 15; (with_reducible refine (room_any s _ HS.out HM3.out).mono ?_); rintro e w4 ⟨rfl, hb⟩; rw [HC.out]; have HB4 := Lib.hid (HB3.out.trans (hb.mono HB3.out.size)); clear hb)
      | (go_at_call 17; (with_reducible refine (event_any s _ HS.out).mono ?_); rintro e w5 ⟨rfl, hb⟩; rw [HD.out]; have HB5 := Lib.hid (HB4.out.trans (hb.mono HB4.out.size)); clear hb)
      | (go_at_call 19; (with_reducible refine (key_any s _ HS.out).mono ?_); rintro e w6 ⟨rfl, hb⟩; rw [HE.out]; have HB6 := Lib.hid (HB5.out.trans (hb.mono HB5.out.size)); clear hb; have HM6 := Lib.hid (HM.out.below HB6.out))
      | (go_at_call 8; (with_reducible refine (split_yes s _ k HS.out HM6.out HN.out HK.out).mono ?_); rintro e w7 ⟨rfl, hb⟩; have HB7 := Lib.hid (HB6.out.trans (hb.mono HB6.out.size)); clear hb; have HM7 := Lib.hid (HM.out.below HB7.out); clear HM1)
      | (go_at_call 21; (with_reducible refine (HJN.out _ HM7.out).mono ?_); rintro e w8 ⟨rfl, hb⟩; have HB8 := Lib.hid (HB7.out.trans (hb.mono HB7.out.size)); clear hb; have HM8 := Lib.hid (HM.out.below HB8.out))
      | (go_at_call 11; (with_reducible refine (server_any (s.extract (k + 1) s.size) _ HM8.out).mono ?_); rintro e w9 ⟨rfl, hb⟩; rw [HSV.out]; have HB9 := Lib.hid (HB8.out.trans (hb.mono HB8.out.size)); clear hb))
    go_ret
    exact ⟨rfl, HB9.out⟩

theorem back_any (s : ByteArray) (w : World) (hs : s.size ≤ 140737488355328) (hm : HasMax w) :
    Calls Try.prog 6 #[.string s] w fun e w' => e = .returned (.bool true) ∧ Below w.heap.size w w' := by
  have hs2 : s.size ≤ maxLen := by unfold maxLen; omega
  have h := one_kind s
  unfold OneKind at h
  rcases h with ⟨a, b, c, d, e⟩ | ⟨a, b, c, d, e⟩ | ⟨a, b, c, d, e⟩ | ⟨a, b, c, d, e⟩ | ⟨a, b, c, d, e⟩ | ⟨a, b, c, d, e⟩
  · exact back_no s w hs2 hm false false false a b c d e (.inl ⟨rfl, rfl, rfl⟩)
  · exact back_no s w hs2 hm true false false a b c d e (.inr (.inl ⟨rfl, rfl, rfl⟩))
  · exact back_yes s w hs hm true false a b c d e (.inl ⟨rfl, rfl⟩)
  · exact back_yes s w hs hm false true a b c d e (.inr ⟨rfl, rfl⟩)
  · exact back_no s w hs2 hm false true false a b c d e (.inr (.inr (.inl ⟨rfl, rfl, rfl⟩)))
  · exact back_no s w hs2 hm false false true a b c d e (.inr (.inr (.inr ⟨rfl, rfl, rfl⟩)))
end Go.Proofs.Ytifffggppgphkaa
