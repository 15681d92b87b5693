/- Layer 13: the walks of names.Server, parted, User, Room, Event, Key. -/
import Derived.Test.YtmpoejgclalmfaaGreatNamesE
namespace Go.Proofs.YtmpoejgclalmfaaGreat
open Go.RowKit Go.PlainAid
set_option linter.unusedVariables false

theorem contains_any (s sub : ByteArray) (w : World) (hs : s.size < 4294967281) (h : HasMax w) :
    Calls Tryz.prog 63 #[.string s, .string sub] w fun e w' => e = .returned (.bool (Lib.contains s.data.toList sub.data.toList)) ∧ w = w' := by
  obtain ⟨⟨m, hm⟩, _⟩ := h
  exact (Tryz.strings_Contains s sub m w hs hm).mono fun e w' ⟨he, hw⟩ => ⟨he, hw.symm⟩

theorem server_no (s : ByteArray) (w : World) (h1 : ¬ (1 ≤ s.size ∧ s.size ≤ 64)) :
    Calls Tryz.prog 51 #[.string s] w fun e w' => e = .returned (.bool (serverR s)) ∧ Below w.heap.size w w' := by
  have hz : serverR s = false := by
    unfold serverR
    have : (decide (1 ≤ s.size) && decide (s.size ≤ 64)) = false := by
      rw [Bool.eq_false_iff]; simpa using h1
    rw [this]; rfl
  have HZ := Lib.hid hz
  clear hz
  have hal : allS s 1 64 srvI = false := by
    unfold allS
    have e : (decide ((1 : Int) ≤ (s.size : Int)) && decide ((s.size : Int) ≤ 64)) = false := by
      rw [Bool.eq_false_iff]
      intro h
      simp only [Bool.and_eq_true, decide_eq_true_eq] at h
      exact h1 ⟨by omega, by omega⟩
    rw [e]; rfl
  have HAL := Lib.hid hal
  clear hal
  have h2 : ¬ ((1 : Int) ≤ (s.size : Int) ∧ (s.size : Int) ≤ 64) := by omega
  have H2 := Lib.hid h2
  clear h2 h1
  go_enter Tryz.func51, Tryz.ntmps51
  go_wp2_with (go_at_call 50; refine (all_no _ srvI _ _ _ _ H2.out).mono ?_; rintro e w' ⟨rfl, rfl⟩; rw [HAL.out])
  go_ret
  exact ⟨ret_bool HZ.out.symm, Below.refl _ _⟩

theorem server_yes (s : ByteArray) (w : World) (h1 : 1 ≤ s.size) (h2 : s.size ≤ 64) (hm : HasMax w) :
    Calls Tryz.prog 51 #[.string s] w fun e w' => e = .returned (.bool (serverR s)) ∧ Below w.heap.size w w' := by
  have hz := (server_same s h1 h2).symm
  obtain ⟨n, hn⟩ : ∃ n, s.size = n + 1 := ⟨s.size - 1, by omega⟩
  unfold serverP at hz
  rw [show s.size - 1 = n from by omega] at hz
  generalize hA : allB s.data.toList srvI = A at hz
  generalize hF : smallI (bt s 0) = F at hz
  generalize hL : smallI (bt s n) = L at hz
  generalize hC : Lib.contains s.data.toList [46, 46] = C at hz
  generalize hD : Lib.contains s.data.toList [46, 45] = D at hz
  generalize hE : Lib.contains s.data.toList [45, 46] = E at hz
  have HZ := Lib.hid hz
  have HA := Lib.hid hA
  have HF := Lib.hid hF
  have HL := Lib.hid hL
  have HC := Lib.hid hC
  have HD := Lib.hid hD
  have HE := Lib.hid hE
  have HM := Lib.hid hm
  clear hz hA hF hL hC hD hE hm
  have hb := get_bt s
  have p1 := bt_nonneg s 0
  have p2 := bt_le s 0
  have p3 := bt_nonneg s n
  have p4 := bt_le s n
  have k1 : (1 : Int) ≤ (s.size : Int) := by omega
  have k2 : (s.size : Int) ≤ 64 := by omega
  have k3 : s.size ≤ maxLen := by unfold maxLen; omega
  have k4 : s.size < 4294967281 := by omega
  have K1 := Lib.hid k1
  have K2 := Lib.hid k2
  have K3 := Lib.hid k3
  have K4 := Lib.hid k4
  clear k1 k2 k3 k4
  go_enter Tryz.func51, Tryz.ntmps51
  go_wp2_with (first
    | (go_at_call 50; (with_reducible refine (all_yes _ srvI kind_server _ _ _ _ K1.out K2.out K3.out).mono ?_); rintro e w1 ⟨rfl, hb1⟩; rw [HA.out]; have HB1 := Lib.hid hb1; clear hb1; have HM1 := Lib.hid (HM.out.below HB1.out))
    | (go_at_call 30; (with_reducible refine (small_any (bt s 0) _).mono ?_); rintro e w' ⟨rfl, rfl⟩; rw [HF.out])
    | (go_at_call 30; (with_reducible refine (small_any (bt s n) _).mono ?_); rintro e w' ⟨rfl, rfl⟩; rw [HL.out])
    | (go_at_call 63; (with_reducible refine (contains_any s ⟨#[46, 46]⟩ _ K4.out HM1.out).mono ?_); rintro e w' ⟨rfl, rfl⟩; rw [HC.out])
    | (go_at_call 63; (with_reducible refine (contains_any s ⟨#[46, 45]⟩ _ K4.out HM1.out).mono ?_); rintro e w' ⟨rfl, rfl⟩; rw [HD.out])
    | (go_at_call 63; (with_reducible refine (contains_any s ⟨#[45, 46]⟩ _ K4.out HM1.out).mono ?_); rintro e w' ⟨rfl, rfl⟩; rw [HE.out]))
  all_goals
    go_ret
    exact ⟨ret_bool (by rw [HZ.out]; simp_all), HB1.out⟩

theorem server_any (s : ByteArray) (w : World) (hm : HasMax w) :
    Calls Tryz.prog 51 #[.string s] w fun e w' => e = .returned (.bool (serverR s)) ∧ Below w.heap.size w w' := by
  by_cases h : 1 ≤ s.size ∧ s.size ≤ 64
  · exact server_yes s w h.1 h.2 hm
  · exact server_no s w h

/-! ### A mark, a local part of a kind, a colon and a server -/
/-- The colon's place, -1 if there is none. -/
def colonI (s : ByteArray) : Int := Lib.indexByte s.data.toList 58
def partedR (s : ByteArray) (m : Int) (p : Int → Bool) : Bool :=
  decide (2 ≤ colonI s) && decide (colonI s ≤ 33) && decide (bt s 0 = m) && allB ((s.data.toList.take (colonI s).toNat).drop 1) p && serverR (s.extract ((colonI s).toNat + 1) s.size)

/-- The rest behind a mark that is no colon. -/
theorem colon_rest (s : ByteArray) (m : UInt8) (h0 : 0 < s.size) (hm : bt s 0 = m.toNat) (hne : m ≠ 58) :
    (Lib.indexByte (s.extract 1 s.size).data.toList 58 = -1 ∧ colonI s = -1) ∨ (∃ i : Nat, Lib.indexByte (s.extract 1 s.size).data.toList 58 = i ∧ colonI s = i + 1 ∧ i < (s.extract 1 s.size).size) := by
  have e0 : s.data.toList = m :: (s.extract 1 s.size).data.toList := by
    have := drop_cons s 0 h0
    rw [List.drop_zero] at this
    have e1 : s[0]'h0 = m := by
      unfold bt at hm
      rw [dif_pos h0] at hm
      exact UInt8.toNat_inj.1 (by omega)
    rw [this, e1, Lib.extract_data]
    congr 1
    rw [List.take_of_length_le (by rw [List.length_drop, ← Lib.size_eq]; exact Nat.le_refl _)]
  have e2 : colonI s = if Lib.indexByte (s.extract 1 s.size).data.toList 58 == -1 then -1 else Lib.indexByte (s.extract 1 s.size).data.toList 58 + 1 := by
    unfold colonI
    conv => lhs; rw [e0]; unfold Lib.indexByte
    rw [show (m == 58) = false from by rw [beq_eq_false_iff_ne]; exact hne]
    rfl
  rcases indexByte_cases (s.extract 1 s.size).data.toList 58 with h | ⟨i, h, hi⟩
  · left
    refine ⟨h, ?_⟩
    rw [e2, h]; rfl
  · right
    refine ⟨i, h, ?_, by rw [Lib.size_eq]; exact hi⟩
    rw [e2, h, show ((i : Int) == -1) = false from by rw [beq_eq_false_iff_ne]; omega]
    rfl

theorem size_extract (s : ByteArray) (a b : Nat) : (s.extract a b).size = min b s.size - a := by
  simp

theorem parted_bad (K : Nat) (p : Int → Bool) (s : ByteArray) (m : UInt8) (w : World) (hs : s.size ≤ maxLen) (h : ¬ (0 < s.size ∧ bt s 0 = m.toNat)) :
    Calls Tryz.prog 26 #[.string s, .string ⟨#[m]⟩, .func (.func K) #[] #[]] w fun e w' => e = .returned (.bool false) ∧ Below w.heap.size w w' := by
  have H := Lib.hid h
  clear h
  rcases indexByte_cases s.data.toList 58 with hc | ⟨i, hc, hi⟩
  · have HC := Lib.hid hc
    clear hc
    go_enter Tryz.func26, Tryz.ntmps26
    go_wp2_with (first
      | (go_at_call 48; (with_reducible refine (prefix_no s m _ H.out).mono ?_); rintro e w' ⟨rfl, rfl⟩)
      | (go_at_call 49; (with_reducible refine (cut_miss s 58 _ HC.out).mono ?_); rintro e w' ⟨rfl, n, rfl⟩))
    go_ret
    exact ⟨rfl, below_drewN (Below.refl _ _) _⟩
  · have HC := Lib.hid hc
    clear hc
    rw [← Lib.size_eq] at hi
    have HS := Lib.hid hs
    clear hs
    go_enter Tryz.func26, Tryz.ntmps26
    go_wp2_with (first
      | (go_at_call 48; (with_reducible refine (prefix_no s m _ H.out).mono ?_); rintro e w' ⟨rfl, rfl⟩)
      | (go_at_call 49; (with_reducible refine (cut_hit s 58 _ i HS.out HC.out hi).mono ?_); rintro e w' ⟨rfl, n, rfl⟩))
    go_ret
    exact ⟨rfl, below_drewN (Below.refl _ _) _⟩

theorem list_extract (s : ByteArray) (a b : Nat) : (s.extract a b).data.toList = (s.data.toList.take b).drop a := by
  rw [Lib.extract_data, List.drop_take]
theorem list_extract_all (s : ByteArray) (a : Nat) : (s.extract a s.size).data.toList = s.data.toList.drop a := by
  rw [list_extract, List.take_of_length_le (by rw [← Lib.size_eq]; exact Nat.le_refl _)]

theorem extract_rest (s : ByteArray) (a b : Nat) : (s.extract a s.size).extract b (s.extract a s.size).size = s.extract (a + b) s.size := by
  apply ba_ext
  rw [list_extract_all, list_extract_all, list_extract_all, List.drop_drop]
theorem extract_first (s : ByteArray) (a b : Nat) : ((s.extract a s.size).extract 0 b).data.toList = (s.data.toList.take (b + a)).drop a := by
  rw [list_extract, list_extract_all, List.drop_zero, List.drop_take, Nat.add_sub_cancel]

theorem parted_any (K : Nat) (p : Int → Bool) (hK : IsKind K p) (s : ByteArray) (m : UInt8) (hne : m ≠ 58) (w : World) (hs : s.size ≤ maxLen) (hm : HasMax w) :
    Calls Tryz.prog 26 #[.string s, .string ⟨#[m]⟩, .func (.func K) #[] #[]] w fun e w' => e = .returned (.bool (partedR s m.toNat p)) ∧ Below w.heap.size w w' := by
  by_cases h : 0 < s.size ∧ bt s 0 = m.toNat
  · obtain ⟨h0, h1⟩ := h
    have hrs : (s.extract 1 s.size).size ≤ maxLen := by rw [size_extract]; unfold maxLen at hs ⊢; omega
    have hcr := colon_rest s m h0 h1 hne
    have HS := Lib.hid hs
    have HR := Lib.hid hrs
    have H0 := Lib.hid h0
    have H1 := Lib.hid h1
    have HK := Lib.hid hK
    have HM := Lib.hid hm
    clear hs hrs h0 h1 hK hm
    rcases hcr with ⟨hc, hcs⟩ | ⟨i, hc, hcs, hi⟩
    · have hz : partedR s m.toNat p = false := by
        unfold partedR; rw [hcs]; rfl
      have HZ := Lib.hid hz
      have HC := Lib.hid hc
      clear hz hc hcs
      go_enter Tryz.func26, Tryz.ntmps26
      go_wp2_with (first
        | (go_at_call 48; (with_reducible refine (prefix_yes s m _ H0.out H1.out).mono ?_); rintro e w' ⟨rfl, rfl⟩)
        | (go_at_call 49; (with_reducible refine (cut_miss (s.extract 1 s.size) 58 _ HC.out).mono ?_); rintro e w' ⟨rfl, n, rfl⟩))
      go_ret
      exact ⟨ret_bool HZ.out.symm, below_drewN (Below.refl _ _) _⟩
    · have hlsz : ((s.extract 1 s.size).extract 0 i).size = i := by rw [size_extract]; omega
      have hz : partedR s m.toNat p = (allS ((s.extract 1 s.size).extract 0 i) 1 32 p && serverR ((s.extract 1 s.size).extract (i + 1) (s.size - 1))) := by
        unfold partedR allS
        rw [hcs, hlsz, extract_first, show (s.extract 1 s.size).extract (i + 1) (s.size - 1) = s.extract (1 + (i + 1)) s.size from by rw [← extract_rest s 1 (i + 1)]; simp, decide_eq_true H1.out, show ((i : Int) + 1).toNat = i + 1 from by omega, show 1 + (i + 1) = i + 1 + 1 from by omega]
        have d1 : decide ((2 : Int) ≤ (i : Int) + 1) = decide ((1 : Int) ≤ (i : Int)) := by rw [decide_eq_decide]; omega
        have d2 : decide ((i : Int) + 1 ≤ 33) = decide ((i : Int) ≤ 32) := by rw [decide_eq_decide]; omega
        rw [d1, d2, Bool.and_true]
      generalize hS : serverR ((s.extract 1 s.size).extract (i + 1) (s.size - 1)) = S at hz
      have HSV := Lib.hid hS
      have HC := Lib.hid hc
      have HLS := Lib.hid hlsz
      clear hS hc hcs
      by_cases hr : (1 : Int) ≤ (i : Int) ∧ (i : Int) ≤ 32
      · have ha : allS ((s.extract 1 s.size).extract 0 i) 1 32 p = allB ((s.extract 1 s.size).extract 0 i).data.toList p := by
          unfold allS
          rw [hlsz, decide_eq_true hr.1, decide_eq_true hr.2]; rfl
        rw [ha] at hz
        generalize hA : allB ((s.extract 1 s.size).extract 0 i).data.toList p = A at hz
        have HA := Lib.hid hA
        have HZ := Lib.hid hz
        have g1 : (1 : Int) ≤ (((s.extract 1 s.size).extract 0 i).size : Int) := by rw [hlsz]; exact hr.1
        have g2 : (((s.extract 1 s.size).extract 0 i).size : Int) ≤ 32 := by rw [hlsz]; exact hr.2
        have g3 : ((s.extract 1 s.size).extract 0 i).size ≤ maxLen := by rw [hlsz]; unfold maxLen; omega
        have G1 := Lib.hid g1
        have G2 := Lib.hid g2
        have G3 := Lib.hid g3
        have hb0 := Below.refl w.heap.size w
        have HB0 := Lib.hid hb0
        clear hA hz g1 g2 g3 ha hr hlsz hb0
        go_enter Tryz.func26, Tryz.ntmps26
        go_wp2_with (first
          | (go_at_call 48; (with_reducible refine (prefix_yes s m _ H0.out H1.out).mono ?_); rintro e w' ⟨rfl, rfl⟩)
          | (go_at_call 49; (with_reducible refine (cut_hit (s.extract 1 s.size) 58 _ i HR.out HC.out hi).mono ?_); rintro e w' ⟨rfl, n, rfl⟩)
          | (go_at_call 50; (with_reducible refine (all_yes K p HK.out _ _ _ _ G1.out G2.out G3.out).mono ?_); rintro e w1 ⟨rfl, hb1⟩; rw [HA.out]; have HB1 := Lib.hid ((below_drewN HB0.out n).trans hb1); clear hb1; have HM1 := Lib.hid (HM.out.below HB1.out))
          | (go_at_call 51; (with_reducible refine (server_any _ _ HM1.out).mono ?_); rintro e w2 ⟨rfl, hb2⟩; rw [HSV.out]; have HB2 := Lib.hid (HB1.out.trans (hb2.mono HB1.out.size)); clear hb2))
        all_goals
          go_ret
          exact ⟨ret_bool (by rw [HZ.out]; simp_all), by first | exact HB2.out | exact HB1.out⟩
      · have ha : allS ((s.extract 1 s.size).extract 0 i) 1 32 p = false := by
          unfold allS
          have e : (decide ((1 : Int) ≤ (i : Int)) && decide ((i : Int) ≤ 32)) = false := by
            rw [Bool.eq_false_iff]; simpa using hr
          rw [hlsz, e]; rfl
        have hr2 : ¬ ((1 : Int) ≤ (((s.extract 1 s.size).extract 0 i).size : Int) ∧ (((s.extract 1 s.size).extract 0 i).size : Int) ≤ 32) := by rw [hlsz]; exact hr
        rw [ha] at hz
        have HAL := Lib.hid ha
        have HZ := Lib.hid hz
        have HR2 := Lib.hid hr2
        clear ha hz hr2 hlsz hr
        go_enter Tryz.func26, Tryz.ntmps26
        go_wp2_with (first
          | (go_at_call 48; (with_reducible refine (prefix_yes s m _ H0.out H1.out).mono ?_); rintro e w' ⟨rfl, rfl⟩)
          | (go_at_call 49; (with_reducible refine (cut_hit (s.extract 1 s.size) 58 _ i HR.out HC.out hi).mono ?_); rintro e w' ⟨rfl, n, rfl⟩)
          | (go_at_call 50; (with_reducible refine (all_no K p _ _ _ _ HR2.out).mono ?_); rintro e w1 ⟨rfl, rfl⟩; rw [HAL.out]))
        all_goals
          go_ret
          exact ⟨ret_bool (by rw [HZ.out]; simp), below_drewN (Below.refl _ _) _⟩
  · have hz : partedR s m.toNat p = false := by
      unfold partedR
      by_cases h1 : bt s 0 = m.toNat
      · have h2 : s.size = 0 := by
          by_cases h3 : 0 < s.size
          · exact absurd ⟨h3, h1⟩ h
          · omega
        have : colonI s = -1 := by
          unfold colonI
          have : s.data.toList = [] := List.eq_nil_of_length_eq_zero (by rw [← Lib.size_eq]; exact h2)
          rw [this]; rfl
        rw [this]; rfl
      · rw [decide_eq_false h1]; simp
    rw [hz]
    exact parted_bad K p s m w hs h

theorem user_any (s : ByteArray) (w : World) (hs : s.size ≤ maxLen) (hm : HasMax w) :
    Calls Tryz.prog 12 #[.string s] w fun e w' => e = .returned (.bool (partedR s 64 userI)) ∧ Below w.heap.size w w' := by
  have HS := Lib.hid hs
  have HM := Lib.hid hm
  clear hs hm
  go_enter Tryz.func12, Tryz.ntmps12
  go_wp2_with (go_at_call 26; (with_reducible refine (parted_any _ userI kind_user s 64 (by decide) _ HS.out HM.out).mono ?_); rintro e w1 ⟨rfl, hb⟩)
  go_ret
  exact ⟨rfl, hb⟩
theorem room_any (s : ByteArray) (w : World) (hs : s.size ≤ maxLen) (hm : HasMax w) :
    Calls Tryz.prog 11 #[.string s] w fun e w' => e = .returned (.bool (partedR s 33 roomI)) ∧ Below w.heap.size w w' := by
  have HS := Lib.hid hs
  have HM := Lib.hid hm
  clear hs hm
  go_enter Tryz.func11, Tryz.ntmps11
  go_wp2_with (go_at_call 26; (with_reducible refine (parted_any _ roomI kind_room s 33 (by decide) _ HS.out HM.out).mono ?_); rintro e w1 ⟨rfl, hb⟩)
  go_ret
  exact ⟨rfl, hb⟩
end Go.Proofs.YtmpoejgclalmfaaGreat
