/- Layer 13: names.Join and the reference's. -/
import Derived.Test.YtifffggppgphkaaNamesK
namespace Go.Proofs.Ytifffggppgphkaa
open Go.RowKit Go.PlainAid
set_option linter.unusedVariables false

/-! ### The plain law: a mark, a local part, a colon and a server part at the very same places -/
def joined (m l v : ByteArray) : ByteArray := m ++ l ++ ⟨#[58]⟩ ++ v

theorem joined_list (m l v : ByteArray) : (joined m l v).data.toList = m.data.toList ++ l.data.toList ++ [58] ++ v.data.toList := by
  unfold joined
  simp [ByteArray.data_append]
theorem joined_size (m l v : ByteArray) : (joined m l v).size = m.size + l.size + 1 + v.size := by
  rw [Lib.size_eq, joined_list, Lib.size_eq m, Lib.size_eq l, Lib.size_eq v]
  simp only [List.length_append, List.length_cons, List.length_nil]

theorem server_all {t : ByteArray} (h : serverR t = true) : ∀ j, j < t.size → srvI (bt t j) = true := by
  have hsz : 1 ≤ t.size ∧ t.size ≤ 64 := by
    unfold serverR at h
    simp only [Bool.and_eq_true, decide_eq_true_eq] at h
    exact h.1
  rw [← server_same t hsz.1 hsz.2] at h
  unfold serverP at h
  simp only [Bool.and_eq_true] at h
  exact (allB_bt t srvI).1 h.1.1.1.1.1

theorem bt_extract (s : ByteArray) (a j : Nat) (h : a + j < s.size) : bt (s.extract a s.size) j = bt s (a + j) := by
  have hl : j < (s.extract a s.size).data.toList.length := by rw [list_extract_all, List.length_drop, ← Lib.size_eq]; omega
  have hl2 : a + j < s.data.toList.length := by rw [← Lib.size_eq]; exact h
  rw [bt_get _ j hl, bt_get _ (a + j) hl2]
  simp only [list_extract_all, List.getElem_drop]

theorem joined_colon (c : UInt8) (l v : ByteArray) (h : namedR (joined ⟨#[c]⟩ l v) = true) : colonI (joined ⟨#[c]⟩ l v) = (1 + l.size : Nat) := by
  obtain ⟨k, hk, k2, _, klt, _, hsv⟩ := named_colon h
  have hsize := joined_size ⟨#[c]⟩ l v
  have h1 : (ByteArray.mk #[c]).size = 1 := rfl
  rw [h1] at hsize
  have hcol : bt (joined ⟨#[c]⟩ l v) (1 + l.size) = 58 := by
    have : (joined ⟨#[c]⟩ l v).data.toList[1 + l.size]? = some 58 := by
      rw [joined_list]
      have e : ([c] ++ l.data.toList).length = 1 + l.size := by rw [List.length_append, ← Lib.size_eq]; rfl
      show (([c] ++ l.data.toList ++ [58]) ++ v.data.toList)[1 + l.size]? = _
      rw [List.append_assoc, ← e, List.getElem?_append_right (Nat.le_refl _), Nat.sub_self]
      rfl
    exact (bt_some _ _ 58 this).2
  rcases colon_cases (joined ⟨#[c]⟩ l v) with hn | ⟨k', hk', _, hb, hlt⟩
  · omega
  · obtain rfl : k' = k := by omega
    rcases Nat.lt_trichotomy k' (1 + l.size) with h3 | h3 | h3
    · exfalso
      have := server_all hsv (1 + l.size - (k' + 1)) (by rw [size_extract]; omega)
      rw [bt_extract _ _ _ (by omega), show k' + 1 + (1 + l.size - (k' + 1)) = 1 + l.size from by omega, hcol] at this
      revert this; decide
    · rw [hk, h3]
    · exact absurd hcol (hlt _ h3)

theorem joined_local (c : UInt8) (l v : ByteArray) : (joined ⟨#[c]⟩ l v).extract 1 (1 + l.size) = l := by
  apply ba_ext
  rw [list_extract, joined_list]
  show List.drop 1 (List.take (1 + l.size) (([c] ++ l.data.toList ++ [58]) ++ v.data.toList)) = _
  have e : ([c] ++ l.data.toList).length = 1 + l.size := by rw [List.length_append, ← Lib.size_eq]; rfl
  rw [List.append_assoc, ← e, List.take_left]
  rfl
theorem joined_server (c : UInt8) (l v : ByteArray) : (joined ⟨#[c]⟩ l v).extract (1 + l.size + 1) (joined ⟨#[c]⟩ l v).size = v := by
  apply ba_ext
  rw [list_extract_all, joined_list]
  show List.drop (1 + l.size + 1) ([c] ++ l.data.toList ++ [58] ++ v.data.toList) = _
  have e : ([c] ++ l.data.toList ++ [58]).length = 1 + l.size + 1 := by
    rw [List.length_append, List.length_append, ← Lib.size_eq]; rfl
  rw [← e, List.drop_left]

/-- When is a name joined? -/
def joinR (m l v : ByteArray) : Bool := (m.toList == [64] && partedR (joined m l v) 64 userI) || (m.toList == [33] && partedR (joined m l v) 33 roomI)

/-! ### The walks -/

theorem rjoin_yes (m l v : ByteArray) (w : World) (h1 : m.size ≤ 140737488355328) (h2 : l.size ≤ 140737488355328) (h3 : v.size ≤ 140737488355328) (hj : joinR m l v = true) :
    Calls Try.prog 22 #[.string m, .string l, .string v] w fun e w' => e = .returned (.tuple #[.string (joined m l v), .int .i64 0]) ∧ w = w' := by
  have hjs : (joined m l v).size ≤ maxLen := by rw [joined_size]; unfold maxLen; omega
  have hjr : joinR m l v = ((m.toList == [64] && partedR (joined m l v) 64 userI) || (m.toList == [33] && partedR (joined m l v) 33 roomI)) := rfl
  have hjd : m ++ l ++ ⟨#[58]⟩ ++ v = joined m l v := rfl
  rw [hj] at hjr
  generalize joined m l v = s at hjs hjr hjd ⊢
  generalize hA : partedR s 64 userI = A at hjr
  generalize hB : partedR s 33 roomI = B at hjr
  have HJ := Lib.hid hjr
  have HS := Lib.hid hjs
  have HD := Lib.hid hjd
  have HA := Lib.hid hA
  have HB := Lib.hid hB
  have hc1 : (ByteArray.mk #[58]).size = 1 := rfl
  clear hjr hjs hjd hA hB hj
  cases hm64 : (m.toList == [64]) <;> cases hm33 : (m.toList == [33]) <;> cases A <;> cases B
  all_goals first
    | (exfalso
       have := HJ.out
       rw [hm64, hm33] at this
       revert this
       decide)
    | skip
  all_goals
    go_enter Try.func22, Try.ntmps22
    go_wp2_with fail
    rw [HD.out]
    go_wp2_with (first
      | (go_at_call 14; (with_reducible refine (ruser_any s _ HS.out).mono ?_); rintro e w1 ⟨rfl, rfl⟩; rw [HA.out])
      | (go_at_call 16; (with_reducible refine (rroom_any s _ HS.out).mono ?_); rintro e w2 ⟨rfl, rfl⟩; rw [HB.out]))
    go_ret2
    exact ⟨rfl, rfl⟩

theorem rjoin_no (m l v : ByteArray) (w : World) (h1 : m.size ≤ 140737488355328) (h2 : l.size ≤ 140737488355328) (h3 : v.size ≤ 140737488355328) (hj : joinR m l v = false) :
    Calls Try.prog 22 #[.string m, .string l, .string v] w fun e w' => e = .returned (.tuple #[.string ⟨#[]⟩, .int .i64 3]) ∧ w = w' := by
  have hjs : (joined m l v).size ≤ maxLen := by rw [joined_size]; unfold maxLen; omega
  have hjr : joinR m l v = ((m.toList == [64] && partedR (joined m l v) 64 userI) || (m.toList == [33] && partedR (joined m l v) 33 roomI)) := rfl
  have hjd : m ++ l ++ ⟨#[58]⟩ ++ v = joined m l v := rfl
  rw [hj] at hjr
  generalize joined m l v = s at hjs hjr hjd ⊢
  generalize hA : partedR s 64 userI = A at hjr
  generalize hB : partedR s 33 roomI = B at hjr
  have HJ := Lib.hid hjr
  have HS := Lib.hid hjs
  have HD := Lib.hid hjd
  have HA := Lib.hid hA
  have HB := Lib.hid hB
  have hc1 : (ByteArray.mk #[58]).size = 1 := rfl
  clear hjr hjs hjd hA hB hj
  cases hm64 : (m.toList == [64]) <;> cases hm33 : (m.toList == [33]) <;> cases A <;> cases B
  all_goals first
    | (exfalso
       have := HJ.out
       rw [hm64, hm33] at this
       revert this
       decide)
    | skip
  all_goals
    go_enter Try.func22, Try.ntmps22
    go_wp2_with fail
    rw [HD.out]
    go_wp2_with (first
      | (go_at_call 14; (with_reducible refine (ruser_any s _ HS.out).mono ?_); rintro e w1 ⟨rfl, rfl⟩; rw [HA.out])
      | (go_at_call 16; (with_reducible refine (rroom_any s _ HS.out).mono ?_); rintro e w2 ⟨rfl, rfl⟩; rw [HB.out]))
    go_ret2
    exact ⟨rfl, rfl⟩

theorem join_yes (m l v : ByteArray) (w : World) (h1 : m.size ≤ 140737488355328) (h2 : l.size ≤ 140737488355328) (h3 : v.size ≤ 140737488355328) (hm : HasMax w) (hj : joinR m l v = true) :
    Calls Try.prog 21 #[.string m, .string l, .string v] w fun e w' => e = .returned (.tuple #[.string (joined m l v), .nilIface]) ∧ Below w.heap.size w w' := by
  have hjs : (joined m l v).size ≤ maxLen := by rw [joined_size]; unfold maxLen; omega
  have hjr : joinR m l v = ((m.toList == [64] && partedR (joined m l v) 64 userI) || (m.toList == [33] && partedR (joined m l v) 33 roomI)) := rfl
  have hjd : m ++ l ++ ⟨#[58]⟩ ++ v = joined m l v := rfl
  rw [hj] at hjr
  have hsp : ∀ w0, HasMax w0 → Calls Try.prog 8 #[.string (joined m l v)] w0 fun e w' => e = .returned (.tuple #[.string l, .string v, .nilIface]) ∧ Below w0.heap.size w0 w' := by
    intro w0 hm0
    have key : ∀ c : UInt8, m = ⟨#[c]⟩ → namedR (joined m l v) = true → Calls Try.prog 8 #[.string (joined m l v)] w0 fun e w' => e = .returned (.tuple #[.string l, .string v, .nilIface]) ∧ Below w0.heap.size w0 w' := by
      intro c hc hn
      subst hc
      refine (split_yes _ w0 (1 + l.size) hjs hm0 hn (joined_colon c l v hn)).mono fun e w' ⟨he, hw⟩ => ⟨?_, hw⟩
      rw [he, joined_local, joined_server]
    have hor := hjr.symm
    simp only [Bool.or_eq_true, Bool.and_eq_true, beq_iff_eq, ba_toList] at hor
    rcases hor with ⟨a, b⟩ | ⟨a, b⟩
    · exact key 64 (ba_ext a) (by unfold namedR; rw [b]; rfl)
    · exact key 33 (ba_ext a) (by unfold namedR; rw [b, Bool.or_true])
  generalize joined m l v = s at hjs hjr hjd hsp ⊢
  generalize hA : partedR s 64 userI = A at hjr
  generalize hB : partedR s 33 roomI = B at hjr
  have HJ := Lib.hid hjr
  have HS := Lib.hid hjs
  have HD := Lib.hid hjd
  have HA := Lib.hid hA
  have HB := Lib.hid hB
  have HM := Lib.hid hm
  have hb0 := Below.refl w.heap.size w
  have HB0 := Lib.hid hb0
  have HSP := Lib.hid hsp
  clear hsp
  have hc1 : (ByteArray.mk #[58]).size = 1 := rfl
  clear hjr hjs hjd hA hB hj hm hb0
  cases hm64 : (m.toList == [64]) <;> cases hm33 : (m.toList == [33]) <;> cases A <;> cases B
  all_goals first
    | (exfalso
       have := HJ.out
       rw [hm64, hm33] at this
       revert this
       decide)
    | skip
  all_goals
    go_enter Try.func21, Try.ntmps21
    first
      | (go_wp2_with (go_at_call 13; fail)
         rw [HD.out])
      | skip
    go_wp2_with (first
      | (go_at_call 13; (try rw [HD.out]); (with_reducible refine (user_any s _ HS.out HM.out).mono ?_); rintro e w1 ⟨rfl, hb⟩; rw [HA.out]; have HB1 := Lib.hid hb; clear hb; have HM1 := Lib.hid (HM.out.below HB1.out))
      | (go_at_call 15; (try rw [HD.out]); (with_reducible refine (room_any s _ HS.out HM1.out).mono ?_); rintro e w2 ⟨rfl, hb⟩; rw [HB.out]; have HB2 := Lib.hid (HB1.out.trans (hb.mono HB1.out.size)); clear hb; have HM2 := Lib.hid (HM.out.below HB2.out))
      | (go_at_call 15; (try rw [HD.out]); (with_reducible refine (room_any s _ HS.out HM.out).mono ?_); rintro e w2 ⟨rfl, hb⟩; rw [HB.out]; have HB2 := Lib.hid hb; clear hb; have HM2 := Lib.hid (HM.out.below HB2.out))
      | (go_at_call 8; (with_reducible refine (HSP.out _ HM2.out).mono ?_); rintro e w3 ⟨rfl, hb⟩; have HB3 := Lib.hid (HB2.out.trans (hb.mono HB2.out.size)); clear hb)
      | (go_at_call 8; (with_reducible refine (HSP.out _ HM1.out).mono ?_); rintro e w3 ⟨rfl, hb⟩; have HB3 := Lib.hid (HB1.out.trans (hb.mono HB1.out.size)); clear hb))
    go_ret2
    exact ⟨rfl, HB3.out⟩

theorem join_no (m l v : ByteArray) (w : World) (h1 : m.size ≤ 140737488355328) (h2 : l.size ≤ 140737488355328) (h3 : v.size ≤ 140737488355328) (hm : HasMax w) (hj : joinR m l v = false) :
    Calls Try.prog 21 #[.string m, .string l, .string v] w fun e w' => e = .returned (.tuple #[.string ⟨#[]⟩, .iface 36 (.int .i64 3)]) ∧ Below w.heap.size w w' := by
  have hjs : (joined m l v).size ≤ maxLen := by rw [joined_size]; unfold maxLen; omega
  have hjr : joinR m l v = ((m.toList == [64] && partedR (joined m l v) 64 userI) || (m.toList == [33] && partedR (joined m l v) 33 roomI)) := rfl
  have hjd : m ++ l ++ ⟨#[58]⟩ ++ v = joined m l v := rfl
  rw [hj] at hjr
  generalize joined m l v = s at hjs hjr hjd ⊢
  generalize hA : partedR s 64 userI = A at hjr
  generalize hB : partedR s 33 roomI = B at hjr
  have HJ := Lib.hid hjr
  have HS := Lib.hid hjs
  have HD := Lib.hid hjd
  have HA := Lib.hid hA
  have HB := Lib.hid hB
  have HM := Lib.hid hm
  have hb0 := Below.refl w.heap.size w
  have HB0 := Lib.hid hb0
  have hc1 : (ByteArray.mk #[58]).size = 1 := rfl
  clear hjr hjs hjd hA hB hj hm hb0
  cases hm64 : (m.toList == [64]) <;> cases hm33 : (m.toList == [33]) <;> cases A <;> cases B
  all_goals first
    | (exfalso
       have := HJ.out
       rw [hm64, hm33] at this
       revert this
       decide)
    | skip
  all_goals
    go_enter Try.func21, Try.ntmps21
    first
      | (go_wp2_with (go_at_call 13; fail)
         rw [HD.out])
      | skip
    go_wp2_with (first
      | (go_at_call 13; (try rw [HD.out]); (with_reducible refine (user_any s _ HS.out HM.out).mono ?_); rintro e w1 ⟨rfl, hb⟩; rw [HA.out]; have HB1 := Lib.hid hb; clear hb; have HM1 := Lib.hid (HM.out.below HB1.out))
      | (go_at_call 15; (try rw [HD.out]); (with_reducible refine (room_any s _ HS.out HM1.out).mono ?_); rintro e w2 ⟨rfl, hb⟩; rw [HB.out]; have HB2 := Lib.hid (HB1.out.trans (hb.mono HB1.out.size)); clear hb; have HM2 := Lib.hid (HM.out.below HB2.out))
      | (go_at_call 15; (try rw [HD.out]); (with_reducible refine (room_any s _ HS.out HM.out).mono ?_); rintro e w2 ⟨rfl, hb⟩; rw [HB.out]; have HB2 := Lib.hid hb; clear hb; have HM2 := Lib.hid (HM.out.below HB2.out)))
    go_ret2
    exact ⟨rfl, by first | exact HB2.out | exact HB1.out | exact HB0.out⟩
end Go.Proofs.Ytifffggppgphkaa
