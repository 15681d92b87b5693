/- Layer 13: the examples at the head; the laws NamesSplits and NamesAre. -/
import Derived.Test.YtifffggppgphkaaNamesJ
namespace Go.Proofs.Ytifffggppgphkaa
open Go.RowKit Go.PlainAid
set_option linter.unusedVariables false

theorem up_server1 : serverR ⟨#[97, 46, 101, 120, 97, 109, 112, 108, 101]⟩ = true := by decide +kernel
theorem up_server2 : serverR ⟨#[97, 46, 46, 98]⟩ = false := by decide +kernel
theorem up_room : partedR ⟨#[33, 65, 98, 95, 45, 58, 120]⟩ 33 roomI = true := by decide +kernel
theorem up_key : keyR ⟨#[101, 100, 50, 53, 53, 49, 57, 58, 107, 95, 49]⟩ = true := by decide +kernel
theorem up_split : namedR ⟨#[64, 97, 108, 58, 120, 46, 121]⟩ = true := by decide +kernel
theorem up_colon : colonI ⟨#[64, 97, 108, 58, 120, 46, 121]⟩ = (3 : Nat) := by decide +kernel

theorem split_up (w : World) (hm : HasMax w) :
    Calls Try.prog 8 #[.string ⟨#[64, 97, 108, 58, 120, 46, 121]⟩] w fun e w' => e = .returned (.tuple #[.string ⟨#[97, 108]⟩, .string ⟨#[120, 46, 121]⟩, .nilIface]) ∧ Below w.heap.size w w' := by
  refine (split_yes _ w 3 (by decide) hm up_split up_colon).mono fun e w' ⟨he, hw⟩ => ⟨?_, hw⟩
  rw [he]
  rfl

theorem up_any (w : World) (hm : HasMax w) : Calls Try.prog 7 #[] w fun e w' => e = .returned (.bool true) ∧ Below w.heap.size w w' := by
  have HM := Lib.hid hm
  clear hm
  go_enter Try.func7, Try.ntmps7
  go_wp2_with (first
    | (go_at_call 8; (with_reducible refine (split_up _ HM.out).mono ?_); rintro e w1 ⟨rfl, hb⟩; have HB1 := Lib.hid hb; clear hb; have HM1 := Lib.hid (HM.out.below HB1.out))
    | (go_at_call 11; (with_reducible refine (server_any ⟨#[97, 46, 101, 120, 97, 109, 112, 108, 101]⟩ _ HM1.out).mono ?_); rintro e w2 ⟨rfl, hb⟩; rw [up_server1]; have HB2 := Lib.hid (HB1.out.trans (hb.mono HB1.out.size)); clear hb; have HM2 := Lib.hid (HM.out.below HB2.out))
    | (go_at_call 11; (with_reducible refine (server_any ⟨#[97, 46, 46, 98]⟩ _ HM2.out).mono ?_); rintro e w3 ⟨rfl, hb⟩; rw [up_server2]; have HB3 := Lib.hid (HB2.out.trans (hb.mono HB2.out.size)); clear hb; have HM3 := Lib.hid (HM.out.below HB3.out))
    | (go_at_call 15; (with_reducible refine (room_any ⟨#[33, 65, 98, 95, 45, 58, 120]⟩ _ (by decide) HM3.out).mono ?_); rintro e w4 ⟨rfl, hb⟩; rw [up_room]; have HB4 := Lib.hid (HB3.out.trans (hb.mono HB3.out.size)); clear hb; have HM4 := Lib.hid (HM.out.below HB4.out))
    | (go_at_call 19; (with_reducible refine (key_any ⟨#[101, 100, 50, 53, 53, 49, 57, 58, 107, 95, 49]⟩ _ (by decide)).mono ?_); rintro e w5 ⟨rfl, hb⟩; rw [up_key]; have HB5 := Lib.hid (HB4.out.trans (hb.mono HB4.out.size)); clear hb))
  go_ret
  exact ⟨rfl, HB5.out⟩

theorem hasMax_of (W : World) (h : W.ShapedOpen Try.prog) : HasMax W := by
  obtain ⟨m, hm⟩ : ∃ m, W.cell? ⟨0, 0, none⟩ = some (.int .i64 m) := Try.laysM144.s1_3 W h
  refine ⟨⟨m, hm⟩, ?_⟩
  rcases Nat.lt_or_ge 0 W.heap.size with hlt | hge
  · exact hlt
  · exfalso
    have : W.heap[0]? = none := Array.getElem?_eq_none hge
    simp [World.cell?, this] at hm

/-- NamesSplits: the parts of any text. -/
theorem splits_any (s : ByteArray) (w : World) (hs : s.size ≤ maxLen) (hm : HasMax w) :
    Calls Try.prog 3 #[.string s] w fun e w' => e = .returned (.bool true) ∧ Below w.heap.size w w' := by
  have HM := Lib.hid hm
  have HS := Lib.hid hs
  clear hm hs
  cases hn : namedR s
  · have HN := Lib.hid hn
    clear hn
    go_enter Try.func3, Try.ntmps3
    go_wp2_with (first
      | (go_at_call 7; (with_reducible refine (up_any _ HM.out).mono ?_); rintro e w1 ⟨rfl, hb⟩; have HB1 := Lib.hid hb; clear hb; have HM1 := Lib.hid (HM.out.below HB1.out))
      | (go_at_call 8; (with_reducible refine (split_no s _ HS.out HM1.out HN.out).mono ?_); rintro e w2 ⟨rfl, hb⟩; have HB2 := Lib.hid (HB1.out.trans (hb.mono HB1.out.size)); clear hb)
      | (go_at_call 9; (with_reducible refine (rsplit_no s _ HS.out HN.out).mono ?_); rintro e w3 ⟨rfl, rfl⟩)
      | (go_at_call 10; (with_reducible refine (code_3 _).mono ?_); rintro e w4 ⟨rfl, rfl⟩))
    go_ret
    exact ⟨rfl, HB2.out⟩
  · obtain ⟨k, hk, _⟩ := named_colon hn
    have HN := Lib.hid hn
    have HK := Lib.hid hk
    clear hn hk
    go_enter Try.func3, Try.ntmps3
    go_wp2_with (first
      | (go_at_call 7; (with_reducible refine (up_any _ HM.out).mono ?_); rintro e w1 ⟨rfl, hb⟩; have HB1 := Lib.hid hb; clear hb; have HM1 := Lib.hid (HM.out.below HB1.out))
      | (go_at_call 8; (with_reducible refine (split_yes s _ k HS.out HM1.out HN.out HK.out).mono ?_); rintro e w2 ⟨rfl, hb⟩; have HB2 := Lib.hid (HB1.out.trans (hb.mono HB1.out.size)); clear hb)
      | (go_at_call 9; (with_reducible refine (rsplit_yes s _ k HS.out HN.out HK.out).mono ?_); rintro e w3 ⟨rfl, n, rfl⟩)
      | (go_at_call 10; (with_reducible refine (code_nil _).mono ?_); rintro e w4 ⟨rfl, rfl⟩))
    go_ret
    exact ⟨rfl, below_drewN HB2.out _⟩

/-- NamesAre: which names any text is. -/
theorem are_any (s : ByteArray) (w : World) (hs : s.size ≤ maxLen) (hm : HasMax w) :
    Calls Try.prog 4 #[.string s] w fun e w' => e = .returned (.bool true) ∧ Below w.heap.size w w' := by
  have HM := Lib.hid hm
  have HS := Lib.hid hs
  clear hm hs
  generalize hA : serverR s = A
  generalize hB : partedR s 64 userI = B
  generalize hC : partedR s 33 roomI = C
  generalize hD : eventR s = D
  generalize hE : keyR s = E
  have HA := Lib.hid hA
  have HB := Lib.hid hB
  have HC := Lib.hid hC
  have HD := Lib.hid hD
  have HE := Lib.hid hE
  clear hA hB hC hD hE
  go_enter Try.func4, Try.ntmps4
  go_wp2_with (first
    | (go_at_call 7; (with_reducible refine (up_any _ HM.out).mono ?_); rintro e w1 ⟨rfl, hb⟩; have HB1 := Lib.hid hb; clear hb; have HM1 := Lib.hid (HM.out.below HB1.out))
    | (go_at_call 11; (with_reducible refine (server_any s _ HM1.out).mono ?_); rintro e w2 ⟨rfl, hb⟩; rw [HA.out]; have HB2 := Lib.hid (HB1.out.trans (hb.mono HB1.out.size)); clear hb; have HM2 := Lib.hid (HM.out.below HB2.out))
    | (go_at_call 13; (with_reducible refine (user_any s _ HS.out HM2.out).mono ?_); rintro e w3 ⟨rfl, hb⟩; rw [HB.out]; have HB3 := Lib.hid (HB2.out.trans (hb.mono HB2.out.size)); clear hb; have HM3 := Lib.hid (HM.out.below HB3.out))
    | (go_at_call 15; (with_reducible refine (room_any s _ HS.out HM3.out).mono ?_); rintro e w4 ⟨rfl, hb⟩; rw [HC.out]; have HB4 := Lib.hid (HB3.out.trans (hb.mono HB3.out.size)); clear hb)
    | (go_at_call 17; (with_reducible refine (event_any s _ HS.out).mono ?_); rintro e w5 ⟨rfl, hb⟩; rw [HD.out]; have HB5 := Lib.hid (HB4.out.trans (hb.mono HB4.out.size)); clear hb)
    | (go_at_call 19; (with_reducible refine (key_any s _ HS.out).mono ?_); rintro e w6 ⟨rfl, hb⟩; rw [HE.out]; have HB6 := Lib.hid (HB5.out.trans (hb.mono HB5.out.size)); clear hb)
    | (go_at_call 12; (with_reducible refine (rserver_any s _ HS.out).mono ?_); rintro e w7 ⟨rfl, rfl⟩; rw [HA.out])
    | (go_at_call 14; (with_reducible refine (ruser_any s _ HS.out).mono ?_); rintro e w7 ⟨rfl, rfl⟩; rw [HB.out])
    | (go_at_call 16; (with_reducible refine (rroom_any s _ HS.out).mono ?_); rintro e w7 ⟨rfl, rfl⟩; rw [HC.out])
    | (go_at_call 18; (with_reducible refine (revent_any s _ HS.out).mono ?_); rintro e w7 ⟨rfl, rfl⟩; rw [HD.out])
    | (go_at_call 20; (with_reducible refine (rkey_any s _ HS.out).mono ?_); rintro e w7 ⟨rfl, rfl⟩; rw [HE.out]))
  all_goals
    go_ret
    exact ⟨ret_bool (by simp), HB6.out⟩
end Go.Proofs.Ytifffggppgphkaa
