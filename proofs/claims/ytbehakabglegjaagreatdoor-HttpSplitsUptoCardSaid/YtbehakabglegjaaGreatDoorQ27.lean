/- Layer 9: a target is cut, by the document. -/
import Derived.Test.YtbehakabglegjaaGreatDoorQ26
import Derived.Test.YtbehakabglegjaaGreatDoorQ24
namespace Go.Proofs.YtbehakabglegjaaGreatDoor
open Go.RowKit Go.PlainAid
set_option linter.unusedVariables false
set_option linter.unusedSimpArgs false
/-- Where a part ends: at the text's end, or at one of the ends. -/
theorem partL_stop (en s : List UInt8) : ∀ (n i : Nat) (acc t : List UInt8) (k : Nat), i ≤ s.length → s.length - i < n → partL en n (s.drop i) i acc = .inr (t, k) → k = s.length ∨ ∃ c, s[k]? = some c ∧ en.contains c = true
  | 0, i, acc, t, k, _, h, _ => by cases h
  | n + 1, i, acc, t, k, hi, hn, h => by
    cases hd : s.drop i with
    | nil =>
      rw [hd] at h
      injection h with h
      injection h with _ h
      have := List.drop_eq_nil_iff.1 hd
      exact .inl (by omega)
    | cons c r =>
      obtain ⟨h1, h2, h3⟩ := drop_head hd
      rw [hd] at h
      unfold partL at h
      split at h
      · rename_i he
        injection h with h
        injection h with _ h
        exact .inr ⟨c, h ▸ h1, he⟩
      · split at h
        · cases h
        · split at h
          · match r, h2, h with
            | [], _, h => cases h
            | [_], _, h => cases h
            | a :: b :: r2, h2, h =>
              simp only at h
              split at h
              · cases h
              · obtain ⟨j1, j2, j3⟩ := drop_head h2
                obtain ⟨l1, l2, l3⟩ := drop_head j2
                rw [← l2] at h
                exact partL_stop en s n (i + 3) _ t k (by omega) (by omega) h
          · rw [← h2] at h
            exact partL_stop en s n (i + 1) _ t k (by omega) (by omega) h
theorem partS_stop {en s : List UInt8} {i k : Nat} {t : ByteArray} (h : partS en s i = .inr (t, k)) (hi : i ≤ s.length) : k = s.length ∨ ∃ c, s[k]? = some c ∧ en.contains c = true := by
  unfold partS at h
  split at h
  · cases h
  · rename_i t2 k2 hp
    split at h
    · injection h with h
      injection h with _ h
      subst h
      exact partL_stop en s _ i [] t2 k2 hi (by omega) hp
    · cases h
theorem partS_code {en s : List UInt8} {i : Nat} {e : Int × Nat} (h : partS en s i = .inl e) : e.1 = 3 ∨ e.1 = 7 := by
  have hL : ∀ (n : Nat) (l : List UInt8) (i : Nat) (acc : List UInt8) (e : Int × Nat), partL en n l i acc = .inl e → e.1 = 3 := by
    intro n
    induction n with
    | zero => intro l i acc e h; cases h
    | succ n ih =>
      intro l i acc e h
      cases l with
      | nil => cases h
      | cons c r =>
        unfold partL at h
        split at h
        · cases h
        · split at h
          · injection h with h; rw [← h]
          · split at h
            · match r, h with
              | [], h => injection h with h; rw [← h]
              | [_], h => injection h with h; rw [← h]
              | a :: b :: r2, h =>
                simp only at h
                split at h
                · injection h with h; rw [← h]
                · exact ih _ _ _ _ h
            · exact ih _ _ _ _ h
  unfold partS at h
  split at h
  · rename_i e2 hp
    injection h with h
    subst h
    exact .inl (hL _ _ _ _ _ hp)
  · split at h
    · cases h
    · injection h with h; exact .inr (by rw [← h])
/-- What the document's Split gives. -/
def RsV (w : World) (base : Nat) (r : (Int × Nat) ⊕ (List ByteArray × List (ByteArray × ByteArray))) (e : Ending) : Prop := match r with
  | .inl (c, p) => e = .returned (.tuple #[.slice none 0 0, .slice none 0 0, .int .i64 c, .int .i64 (p : Int)])
  | .inr (path, q) => ∃ pv qv, e = .returned (.tuple #[pv, qv, .int .i64 0, .int .i64 0]) ∧ OwnT w base pv path ∧ OwnP w base qv q ∧ path.length ≤ 1099511627776 ∧ q.length ≤ 1099511627776
/-- What is left to be said of a query. -/
def qEnd (s : List UInt8) (k : Nat) : (Int × Nat) ⊕ (List (ByteArray × ByteArray)) := if s[k]? ≠ some 63 ∨ k + 1 = s.length then .inr [] else queryS s (s.length + 1) (k + 1) []
theorem split_bad {s : List UInt8} {e : Int × Nat} (h : pathS s (s.length + 1) 0 [] = .inl e) : splitS s = .inl e := by unfold splitS; rw [h]
theorem split_none {s : List UInt8} (h : s[0]? ≠ some 47) : splitS s = .inl (3, 0) := by
  unfold splitS
  have : pathS s (s.length + 1) 0 [] = .inr ([], 0) := by unfold pathS; rw [if_neg h]
  rw [this]
theorem split_path {s : List UInt8} {acc : List ByteArray} {k : Nat} (h : pathS s (s.length + 1) 0 [] = .inr (acc, k)) (ha : acc ≠ []) : splitS s = qOut acc (qEnd s k) := by
  unfold splitS
  rw [h]
  cases acc with
  | nil => exact absurd rfl ha
  | cons p r =>
    simp only
    unfold qEnd
    split
    · rfl
    · cases queryS s (s.length + 1) (k + 1) [] <;> rfl
theorem pm_build2 (a b : ByteArray) (w : World) : (Instr.build 54 [(0, .string a), (1, .string b)].toArray).run Tryz.prog w = .ok (.agg (hdA a b)) w := by kernel_rfl
set_option maxRecDepth 100000 in
set_option maxHeartbeats 32000000 in
theorem rsplit_any {s : ByteArray} {w : World} (hs : s.size ≤ 1099511627776) :
    Calls Tryz.prog 29 #[.string s] w fun e w' => RsV w' w.heap.size (splitS (bl s)) e ∧ Below w.heap.size w w' := by
  have hbs := get_bt s
  have HS := Lib.hid hs
  obtain ⟨ie1, j1, j2, j3, j4⟩ := info_str
  obtain ⟨ie2, y1, y2, y3, y4⟩ := info_pm
  have hl : (bl s).length = s.size := bl_len s
  have HBL := Lib.hid hl
  by_cases h0 : s.size = 0
  · have HV : Hid (splitS (bl s) = .inl (3, 0)) := Lib.hid (split_none (by rw [List.getElem?_eq_none (by omega)]; simp))
    have hne := is_empty h0
    clear hs hl h0
    go_enter Tryz.func29, Tryz.ntmps29
    go_wp2
    try simp only [Exit.inBlock, Exit.then]
    refine bodyPost_ret (results_tmp4 rfl _ _ _) rfl ?_
    exact ⟨by rw [HV.out]; rfl, Below.refl _ _⟩
  obtain ⟨c0, hc0⟩ : ∃ c, (bl s)[0]? = some c := ⟨_, List.getElem?_eq_getElem (show 0 < (bl s).length by omega)⟩
  have hb0 := bt_at hc0
  have hne := ne_empty h0
  have hlt0 : 0 < s.size := by omega
  by_cases h47 : c0 = 47
  rotate_left
  · have HV : Hid (splitS (bl s) = .inl (3, 0)) := Lib.hid (split_none (by rw [hc0]; simpa using h47))
    have hnq := byte_ne h47
    have hnq2 : ((c0.toNat : Int) == 47) = false := hnq
    clear hs hl h0 hc0 h47
    go_enter Tryz.func29, Tryz.ntmps29
    go_wp2
    try simp only [Exit.inBlock, Exit.then]
    refine bodyPost_ret (results_tmp4 rfl _ _ _) rfl ?_
    exact ⟨by rw [HV.out]; rfl, Below.refl _ _⟩
  subst h47
  have HC0 := Lib.hid hc0
  have hpt := PT.start (bl s)
  generalize hR : pathS (bl s) ((bl s).length + 1) 0 [] = R at hpt
  have HR := Lib.hid hR
  have HPT := Lib.hid hpt
  clear hR hpt hs hl h0 hc0
  go_enter Tryz.func29, Tryz.ntmps29
  go_wp2
  go_loopw [7, 6, 8, 9, 10, 11] (fun kv pv0 _ _ _ _ wr => ∃ (k : Nat) (acc : List ByteArray) (pv : Value), pv = pv0 ∧ kv = .int .i64 (k : Int) ∧ k ≤ s.size ∧ acc.length ≤ k ∧ (acc = [] → k = 0) ∧ (acc ≠ [] → k = s.size ∨ ∃ c, (bl s)[k]? = some c ∧ ([47, 63] : List UInt8).contains c = true) ∧ OwnT wr w.heap.size pv acc ∧ Hid (PT (bl s) k acc R) ∧ Below w.heap.size w wr) (fun kv _ _ _ _ _ _ => match kv with | .int _ k => s.size - k.toNat | _ => 0)
  case atStart => exact ⟨0, [], _, rfl, rfl, Nat.zero_le _, Nat.zero_le _, fun _ => rfl, fun h => absurd rfl h, own_nil _ _ _ _, HPT, Below.refl _ _⟩
  case round =>
    clear HPT
    obtain ⟨k, acc, pv, rfl, rfl, hk, hacc, hz, hstop, HO, HPT, HB⟩ := hrel
    have hs := HS.out
    have hbl := HBL.out
    by_cases hgo : (bl s)[k]? = some 47
    · have hklt : k < s.size := lt_at hgo
      have hcb := bt_at hgo
      have hkl : k + 1 ≤ (bl s).length := by omega
      have HPC0 : Hid (∀ wx, Calls Tryz.prog 52 #[.string s, .int .i64 ((k : Int) + 1), .string ⟨#[47, 63]⟩] wx fun e w' => e = .returned (RpV (partS [47, 63] (bl s) (k + 1))) ∧ Below wx.heap.size wx w') := Lib.hid fun wx => rpiece_any (s := s) (en := ⟨#[47, 63]⟩) (k0 := k + 1) (by omega) (by omega) (by decide)
      rcases hp : partS [47, 63] (bl s) (k + 1) with ⟨c, p⟩ | ⟨pn, k1⟩
      · have HV : Hid (splitS (bl s) = .inl (c, p)) := Lib.hid (split_bad (HR.out.trans (HPT.out.bad hgo hp)))
        have hcode : c = 3 ∨ c = 7 := partS_code hp
        have HPC : Hid (∀ wx, Calls Tryz.prog 52 #[.string s, .int .i64 ((k : Int) + 1), .string ⟨#[47, 63]⟩] wx fun e w' => e = .returned (.tuple #[.string ⟨#[]⟩, .int .i64 0, .int .i64 c, .int .i64 (p : Int)]) ∧ Below wx.heap.size wx w') := by rw [hp] at HPC0; exact HPC0
        have hcd : (c == 0) = false := by rw [beq_eq_false_iff_ne]; omega
        have hcd2 : ¬ c = 0 := by omega
        clear hgo hp hcode HPT hstop hz HPC0
        go_wp2_with (first
          | (go_at_call 52; (refine (HPC.out _).mono ?_); rintro e w3 ⟨rfl, hb⟩; replace HO := own_below HO hb; replace HB := HB.trans (hb.mono HB.size); clear hb))
        try simp only [Exit.inBlock, Exit.then]
        refine bodyPost_ret (results_tmp4 rfl _ _ _) rfl ?_
        exact ⟨by rw [HV.out]; rfl, HB⟩
      · have HN := Lib.hid (HPT.out.more hgo hp)
        have hbd := partS_bd hp hkl
        have hst := partS_stop hp hkl
        rw [hbl] at hst hbd
        have HST := Lib.hid hst
        have HPC : Hid (∀ wx, Calls Tryz.prog 52 #[.string s, .int .i64 ((k : Int) + 1), .string ⟨#[47, 63]⟩] wx fun e w' => e = .returned (.tuple #[.string pn, .int .i64 (k1 : Int), .int .i64 0, .int .i64 0]) ∧ Below wx.heap.size wx w') := by rw [hp] at HPC0; exact HPC0
        obtain ⟨hbd1, hbd2⟩ := hbd
        clear hgo hp HPT hstop hz hst hkl HPC0
        go_wp2_with (first
          | (go_at_call 52; (refine (HPC.out _).mono ?_); rintro e w3 ⟨rfl, hb⟩; replace HO := own_below HO hb; replace HB := HB.trans (hb.mono HB.size); clear hb)
          | ((with_reducible refine is_slice ?_); refine wpl_slice_at 1 [(0, .string pn)] #[.string pn] ie1 _ (by rw [j3]; exact str_fill _) rfl 48 9 _ rfl rfl Tryz.underlying48 j1 j2 (by rw [j3]; decide) (by rw [j3]; decide) ?_; intro w5 hw; have hb := hid_grow hw; have B9 := (hid_alloc hw).1; replace HO := own_below HO hb; replace HB := HB.trans (hb.mono HB.size); clear hw hb)
          | ((with_reducible refine is_app (.tmp 48) (.tmp 50) ?_); go_must (refine wpl_grow rfl (.tmp 48) (.tmp 50) 48 rfl w.heap.size 9 ie1 _ 1 16 Tryz.underlying48 j1 j2 j3 j4 rfl (by decide) _ acc.length _ rfl HO _ _ #[.string pn] _ B9 rfl rfl (by simp [Value.oneCell']) (by unfold maxLen; omega) (by omega) HB.size ?_); intro v6 w6 h6 hg6 hb6; clear HO; have HO : OwnT w6 w.heap.size v6 (acc ++ [pn]) := (by unfold OwnT; rw [List.length_append, ← txL_app]; exact h6); replace HB := HB.trans hb6; clear h6 hg6 hb6 B9))
        go_roundw
        case rel => exact ⟨k1, acc ++ [pn], _, rfl, rfl, hbd2, (by rw [List.length_append, List.length_singleton]; omega), (fun h => absurd h (by simp)), (fun _ => HST.out), HO, HN, HB⟩
        case measure => (simp only; omega)
    · have hne2 : acc ≠ [] := fun e => hgo (by rw [hz e]; exact HC0.out)
      have HF := Lib.hid (split_path (HR.out.trans (HPT.out.end_ hgo)) hne2)
      have hst2 : k = s.size ∨ ((bl s)[k]? = some 63 ∧ k < s.size) := by
        rcases hstop hne2 with h | ⟨c, h1, h2⟩
        · exact .inl h
        · refine .inr ⟨?_, lt_at h1⟩
          have h3 : c = 47 ∨ c = 63 := by simpa using h2
          rcases h3 with rfl | rfl
          · exact absurd h1 hgo
          · exact h1
      obtain ⟨FQ, hFQ⟩ : ∃ FQ, qEnd (bl s) k = FQ := ⟨_, rfl⟩
      have HFQ0 := Lib.hid hFQ
      have hinit : (Hid (QT (bl s) (k + 1) [] FQ) ∧ k < s.size ∧ (k + 1 < s.size ∨ (bl s)[k]? = some 38)) ∨ ((k = s.size ∨ (k + 1 = s.size ∧ (bl s)[k]? = some 63)) ∧ Hid (FQ = .inr [])) := by
        unfold qEnd at hFQ
        rcases hst2 with h | ⟨h, h2⟩
        · right
          refine ⟨.inl h, Lib.hid ?_⟩
          rw [← hFQ, if_pos (.inl (by rw [List.getElem?_eq_none (by omega)]; simp))]
        · by_cases h3 : k + 1 < s.size
          · left
            rw [if_neg (by rw [h, hbl]; simp; omega)] at hFQ
            refine ⟨Lib.hid ?_, h2, .inl h3⟩
            rw [← hFQ]
            exact QT.start (by omega)
          · right
            refine ⟨.inr ⟨by omega, h⟩, Lib.hid ?_⟩
            rw [← hFQ, if_pos (.inr (by omega))]
      have hexit : ¬ k < s.size ∨ (k < s.size ∧ (bl s)[k]? = some 63) := by
        rcases hst2 with h | ⟨h, h2⟩
        · exact .inl (by omega)
        · exact .inr ⟨h2, h⟩
      have HFV : Hid (splitS (bl s) = qOut acc FQ) := Lib.hid (by rw [← HFQ0.out]; exact HF.out)
      have HIN := Lib.hid hinit
      clear hinit hFQ hst2 hgo hz hstop hne2 HF HFQ0
      rcases hexit with hx | ⟨hx, hx2⟩
      · go_wp2
        go_loopw [7, 12, 13, 14, 15, 16, 17] (fun kv qv0 _ _ _ _ _ wr => ∃ (k2 : Nat) (q : List (ByteArray × ByteArray)) (qv : Value), qv = qv0 ∧ kv = .int .i64 (k2 : Int) ∧ k2 ≤ s.size ∧ q.length ≤ k2 ∧ OwnP wr w.heap.size qv q ∧ OwnT wr w.heap.size pv acc ∧ Below w.heap.size w wr ∧ ((Hid (QT (bl s) (k2 + 1) q FQ) ∧ k2 < s.size ∧ (k2 + 1 < s.size ∨ (bl s)[k2]? = some 38)) ∨ ((k2 = s.size ∨ (k2 + 1 = s.size ∧ (bl s)[k2]? = some 63)) ∧ Hid (FQ = .inr q)))) (fun kv _ _ _ _ _ _ _ => match kv with | .int _ k2 => s.size - k2.toNat | _ => 0)
        case atStart => exact ⟨k, [], _, rfl, rfl, hk, Nat.zero_le _, own_nil _ _ _ _, HO, HB, HIN.out⟩
        case round =>
          clear HB HO HIN
          obtain ⟨k2, q, qv, rfl, rfl, hk2, hq, HQ, HO, HB, hd⟩ := hrel
          rcases hd with ⟨HQT, hk2l, hcond⟩ | ⟨hend, HFQ⟩
          · have hkl2 : k2 + 1 ≤ (bl s).length := by omega
            rcases hcond with h1 | h1
            · have hi1 : (k2 : Int) + 1 < (s.size : Int) := by omega
              clear h1
              rcases hp : partS [61, 38] (bl s) (k2 + 1) with ⟨c, p⟩ | ⟨n1, k1⟩
              · have HV : Hid (splitS (bl s) = .inl (c, p)) := Lib.hid (by rw [HFV.out, HQT.out.bad (paramS_bad hp)]; rfl)
                have hcode : c = 3 ∨ c = 7 := partS_code hp
                have hcd : (c == 0) = false := by rw [beq_eq_false_iff_ne]; omega
                have hcd2 : ¬ c = 0 := by omega
                clear hcode
                have HPN : Hid (∀ wx, Calls Tryz.prog 52 #[.string s, .int .i64 ((k2 : Int) + 1), .string ⟨#[61, 38]⟩] wx fun e w' => e = .returned (.tuple #[.string ⟨#[]⟩, .int .i64 0, .int .i64 c, .int .i64 (p : Int)]) ∧ Below wx.heap.size wx w') := Lib.hid fun wx => by
                  have h := rpiece_any (s := s) (en := ⟨#[61, 38]⟩) (k0 := k2 + 1) (w := wx) (by omega) (by omega) (by decide)
                  rw [show bl (⟨#[61, 38]⟩ : ByteArray) = [61, 38] from rfl, hp] at h
                  exact h
                clear hp HQT hkl2
                go_wp2_with (first
                  | (go_at_call 52; (with_reducible refine (HPN.out _).mono ?_); rintro e w3 ⟨rfl, hb⟩; replace HO := own_below HO hb; replace HQ := own_below HQ hb; replace HB := HB.trans (hb.mono HB.size); clear hb))
                all_goals
                  try simp only [Exit.inBlock, Exit.then]
                  refine bodyPost_ret (results_tmp4 rfl _ _ _) rfl ?_
                  exact ⟨by rw [HV.out]; rfl, HB⟩
              · have HPN : Hid (∀ wx, Calls Tryz.prog 52 #[.string s, .int .i64 ((k2 : Int) + 1), .string ⟨#[61, 38]⟩] wx fun e w' => e = .returned (.tuple #[.string n1, .int .i64 (k1 : Int), .int .i64 0, .int .i64 0]) ∧ Below wx.heap.size wx w') := Lib.hid fun wx => by
                  have h := rpiece_any (s := s) (en := ⟨#[61, 38]⟩) (k0 := k2 + 1) (w := wx) (by omega) (by omega) (by decide)
                  rw [show bl (⟨#[61, 38]⟩ : ByteArray) = [61, 38] from rfl, hp] at h
                  exact h
                obtain ⟨hb1, hb2⟩ := partS_bd hp hkl2
                have hst := partS_stop hp hkl2
                rw [hbl] at hb2 hst
                by_cases h61 : (bl s)[k1]? = some 61
                · have hk1l : k1 < s.size := lt_at h61
                  have hcb3 := bt_at h61
                  have hkl3 : k1 + 1 ≤ (bl s).length := by omega
                  rcases hp2 : partS [38] (bl s) (k1 + 1) with ⟨c, p⟩ | ⟨v1, k3⟩
                  · have HV : Hid (splitS (bl s) = .inl (c, p)) := Lib.hid (by rw [HFV.out, HQT.out.bad (paramS_bad2 hp h61 hp2)]; rfl)
                    have hcode : c = 3 ∨ c = 7 := partS_code hp2
                    have hcd : (c == 0) = false := by rw [beq_eq_false_iff_ne]; omega
                    have hcd2 : ¬ c = 0 := by omega
                    clear hcode
                    have HPV : Hid (∀ wx, Calls Tryz.prog 52 #[.string s, .int .i64 ((k1 : Int) + 1), .string ⟨#[38]⟩] wx fun e w' => e = .returned (.tuple #[.string ⟨#[]⟩, .int .i64 0, .int .i64 c, .int .i64 (p : Int)]) ∧ Below wx.heap.size wx w') := Lib.hid fun wx => by
                      have h := rpiece_any (s := s) (en := ⟨#[38]⟩) (k0 := k1 + 1) (w := wx) (by omega) (by omega) (by decide)
                      rw [show bl (⟨#[38]⟩ : ByteArray) = [38] from rfl, hp2] at h
                      exact h
                    clear hp hp2 h61 hst HQT hkl2 hkl3
                    go_wp2_with (first
                      | (go_at_call 52; (with_reducible refine (HPN.out _).mono ?_); rintro e w3 ⟨rfl, hb⟩; replace HO := own_below HO hb; replace HQ := own_below HQ hb; replace HB := HB.trans (hb.mono HB.size); clear hb)
                      | (go_at_call 52; (with_reducible refine (HPV.out _).mono ?_); rintro e w4 ⟨rfl, hb⟩; replace HO := own_below HO hb; replace HQ := own_below HQ hb; replace HB := HB.trans (hb.mono HB.size); clear hb))
                    all_goals
                      try simp only [Exit.inBlock, Exit.then]
                      refine bodyPost_ret (results_tmp4 rfl _ _ _) rfl ?_
                      exact ⟨by rw [HV.out]; rfl, HB⟩
                  · have HPM := Lib.hid (paramS_both hp h61 hp2)
                    have HPV : Hid (∀ wx, Calls Tryz.prog 52 #[.string s, .int .i64 ((k1 : Int) + 1), .string ⟨#[38]⟩] wx fun e w' => e = .returned (.tuple #[.string v1, .int .i64 (k3 : Int), .int .i64 0, .int .i64 0]) ∧ Below wx.heap.size wx w') := Lib.hid fun wx => by
                      have h := rpiece_any (s := s) (en := ⟨#[38]⟩) (k0 := k1 + 1) (w := wx) (by omega) (by omega) (by decide)
                      rw [show bl (⟨#[38]⟩ : ByteArray) = [38] from rfl, hp2] at h
                      exact h
                    have hst3 := partS_stop hp2 hkl3
                    obtain ⟨hb3, hb4⟩ := partS_bd hp2 hkl3
                    rw [hbl] at hst3 hb4
                    by_cases h38 : (bl s)[k3]? = some 38
                    · have HN := Lib.hid (HQT.out.more hkl2 HPM.out h38)
                      have H38 := Lib.hid h38
                      have HL38 := Lib.hid (lt_at h38)
                      clear hp hp2 h61 hst hst3 h38 HQT hkl2 hkl3 HPM
                      go_wp2_with (first
                        | (go_at_call 52; (with_reducible refine (HPN.out _).mono ?_); rintro e w3 ⟨rfl, hb⟩; replace HO := own_below HO hb; replace HQ := own_below HQ hb; replace HB := HB.trans (hb.mono HB.size); clear hb)
                        | (go_at_call 52; (with_reducible refine (HPV.out _).mono ?_); rintro e w4 ⟨rfl, hb⟩; replace HO := own_below HO hb; replace HQ := own_below HQ hb; replace HB := HB.trans (hb.mono HB.size); clear hb)
                        | ((with_reducible refine is_build2 _ ?_); refine wpl_build_at (vals := [(0, .string n1), (1, .string v1)]) (pm_build2 n1 v1) rfl _ rfl rfl ?_)
                        | ((with_reducible refine is_slice ?_); refine wpl_slice_at 1 [(0, .agg (hdA n1 v1))] (hdA n1 v1) ie2 _ (by rw [y3]; exact hd_fill _ _) rfl 49 54 _ rfl rfl Tryz.underlying49 y1 y2 (by rw [y3]; decide) (by rw [y3]; decide) ?_; intro w7 hw; have hb := hid_grow hw; have B9 := (hid_alloc hw).1; replace HO := own_below HO hb; replace HQ := own_below HQ hb; replace HB := HB.trans (hb.mono HB.size); clear hw hb)
                        | ((with_reducible refine is_app (.tmp 106) (.tmp 110) ?_); refine wpl_grow rfl (.tmp 106) (.tmp 110) 49 rfl w.heap.size 54 ie2 _ 2 32 Tryz.underlying49 y1 y2 y3 y4 rfl (by decide) _ q.length _ rfl HQ _ _ (hdA n1 v1) _ B9 rfl rfl (hd_one _ _) (by unfold maxLen; omega) (by omega) HB.size ?_; intro v8 w8 h8 hg8 hb8; replace HO : OwnT w8 w.heap.size pv acc := own_grown HO HQ (by decide) hg8; clear HQ; have HQ : OwnP w8 w.heap.size v8 (q ++ [(n1, v1)]) := (by unfold OwnP; rw [List.length_append, ← hds_more]; exact h8); replace HB := HB.trans hb8; clear h8 hg8 hb8 B9))
                      go_roundw
                      case rel => exact ⟨k3, q ++ [(n1, v1)], _, rfl, rfl, hb4, (by rw [List.length_append, List.length_singleton]; omega), HQ, HO, HB, .inl ⟨HN, HL38.out, .inr H38.out⟩⟩
                      case measure => (simp only; omega)
                    · have HN := Lib.hid (HQT.out.last HPM.out h38)
                      have HZ : Hid (k3 = s.size) := Lib.hid (hst3.elim id (fun ⟨c, h, h2⟩ => absurd (show (bl s)[k3]? = some 38 by have h3 : c = 38 := (by simpa using h2); rw [h3] at h; exact h) h38))
                      clear hp hp2 h61 hst hst3 h38 HQT hkl2 hkl3 HPM
                      go_wp2_with (first
                        | (go_at_call 52; (with_reducible refine (HPN.out _).mono ?_); rintro e w3 ⟨rfl, hb⟩; replace HO := own_below HO hb; replace HQ := own_below HQ hb; replace HB := HB.trans (hb.mono HB.size); clear hb)
                        | (go_at_call 52; (with_reducible refine (HPV.out _).mono ?_); rintro e w4 ⟨rfl, hb⟩; replace HO := own_below HO hb; replace HQ := own_below HQ hb; replace HB := HB.trans (hb.mono HB.size); clear hb)
                        | ((with_reducible refine is_build2 _ ?_); refine wpl_build_at (vals := [(0, .string n1), (1, .string v1)]) (pm_build2 n1 v1) rfl _ rfl rfl ?_)
                        | ((with_reducible refine is_slice ?_); refine wpl_slice_at 1 [(0, .agg (hdA n1 v1))] (hdA n1 v1) ie2 _ (by rw [y3]; exact hd_fill _ _) rfl 49 54 _ rfl rfl Tryz.underlying49 y1 y2 (by rw [y3]; decide) (by rw [y3]; decide) ?_; intro w7 hw; have hb := hid_grow hw; have B9 := (hid_alloc hw).1; replace HO := own_below HO hb; replace HQ := own_below HQ hb; replace HB := HB.trans (hb.mono HB.size); clear hw hb)
                        | ((with_reducible refine is_app (.tmp 106) (.tmp 110) ?_); refine wpl_grow rfl (.tmp 106) (.tmp 110) 49 rfl w.heap.size 54 ie2 _ 2 32 Tryz.underlying49 y1 y2 y3 y4 rfl (by decide) _ q.length _ rfl HQ _ _ (hdA n1 v1) _ B9 rfl rfl (hd_one _ _) (by unfold maxLen; omega) (by omega) HB.size ?_; intro v8 w8 h8 hg8 hb8; replace HO : OwnT w8 w.heap.size pv acc := own_grown HO HQ (by decide) hg8; clear HQ; have HQ : OwnP w8 w.heap.size v8 (q ++ [(n1, v1)]) := (by unfold OwnP; rw [List.length_append, ← hds_more]; exact h8); replace HB := HB.trans hb8; clear h8 hg8 hb8 B9))
                      go_roundw
                      case rel => exact ⟨k3, q ++ [(n1, v1)], _, rfl, rfl, hb4, (by rw [List.length_append, List.length_singleton]; omega), HQ, HO, HB, .inr ⟨.inl HZ.out, HN⟩⟩
                      case measure => (simp only; omega)
                · have HPM := Lib.hid (paramS_name hp h61)
                  rcases hst with hz1 | ⟨c, hc1, hc2⟩
                  · have HN := Lib.hid (HQT.out.last HPM.out (by rw [List.getElem?_eq_none (by omega)]; simp))
                    have HZ := Lib.hid hz1
                    have hnk : ¬ k1 < s.size := by omega
                    clear hp h61 hz1 HQT hkl2 HPM
                    go_wp2_with (first
                      | (go_at_call 52; (with_reducible refine (HPN.out _).mono ?_); rintro e w3 ⟨rfl, hb⟩; replace HO := own_below HO hb; replace HQ := own_below HQ hb; replace HB := HB.trans (hb.mono HB.size); clear hb)
                      | ((with_reducible refine is_build2 _ ?_); refine wpl_build_at (vals := [(0, .string n1), (1, .string ⟨#[]⟩)]) (pm_build2 n1 ⟨#[]⟩) rfl _ rfl rfl ?_)
                      | ((with_reducible refine is_slice ?_); refine wpl_slice_at 1 [(0, .agg (hdA n1 ⟨#[]⟩))] (hdA n1 ⟨#[]⟩) ie2 _ (by rw [y3]; exact hd_fill _ _) rfl 49 54 _ rfl rfl Tryz.underlying49 y1 y2 (by rw [y3]; decide) (by rw [y3]; decide) ?_; intro w7 hw; have hb := hid_grow hw; have B9 := (hid_alloc hw).1; replace HO := own_below HO hb; replace HQ := own_below HQ hb; replace HB := HB.trans (hb.mono HB.size); clear hw hb)
                      | ((with_reducible refine is_app (.tmp 106) (.tmp 110) ?_); refine wpl_grow rfl (.tmp 106) (.tmp 110) 49 rfl w.heap.size 54 ie2 _ 2 32 Tryz.underlying49 y1 y2 y3 y4 rfl (by decide) _ q.length _ rfl HQ _ _ (hdA n1 ⟨#[]⟩) _ B9 rfl rfl (hd_one _ _) (by unfold maxLen; omega) (by omega) HB.size ?_; intro v8 w8 h8 hg8 hb8; replace HO : OwnT w8 w.heap.size pv acc := own_grown HO HQ (by decide) hg8; clear HQ; have HQ : OwnP w8 w.heap.size v8 (q ++ [(n1, ⟨#[]⟩)]) := (by unfold OwnP; rw [List.length_append, ← hds_more]; exact h8); replace HB := HB.trans hb8; clear h8 hg8 hb8 B9))
                    go_roundw
                    case rel => exact ⟨k1, q ++ [(n1, ⟨#[]⟩)], _, rfl, rfl, hb2, (by rw [List.length_append, List.length_singleton]; omega), HQ, HO, HB, .inr ⟨.inl HZ.out, HN⟩⟩
                    case measure => (simp only; omega)
                  · have h38 : (bl s)[k1]? = some 38 := by
                      have h3 : c = 61 ∨ c = 38 := by simpa using hc2
                      rcases h3 with rfl | rfl
                      · exact absurd hc1 h61
                      · exact hc1
                    have HN := Lib.hid (HQT.out.more hkl2 HPM.out h38)
                    have H38 := Lib.hid h38
                    have HL38 := Lib.hid (lt_at h38)
                    have hk1l : k1 < s.size := lt_at h38
                    have hcb3 := bt_at h38
                    clear hp h61 hc1 hc2 h38 HQT hkl2 HPM
                    go_wp2_with (first
                      | (go_at_call 52; (with_reducible refine (HPN.out _).mono ?_); rintro e w3 ⟨rfl, hb⟩; replace HO := own_below HO hb; replace HQ := own_below HQ hb; replace HB := HB.trans (hb.mono HB.size); clear hb)
                      | ((with_reducible refine is_build2 _ ?_); refine wpl_build_at (vals := [(0, .string n1), (1, .string ⟨#[]⟩)]) (pm_build2 n1 ⟨#[]⟩) rfl _ rfl rfl ?_)
                      | ((with_reducible refine is_slice ?_); refine wpl_slice_at 1 [(0, .agg (hdA n1 ⟨#[]⟩))] (hdA n1 ⟨#[]⟩) ie2 _ (by rw [y3]; exact hd_fill _ _) rfl 49 54 _ rfl rfl Tryz.underlying49 y1 y2 (by rw [y3]; decide) (by rw [y3]; decide) ?_; intro w7 hw; have hb := hid_grow hw; have B9 := (hid_alloc hw).1; replace HO := own_below HO hb; replace HQ := own_below HQ hb; replace HB := HB.trans (hb.mono HB.size); clear hw hb)
                      | ((with_reducible refine is_app (.tmp 106) (.tmp 110) ?_); refine wpl_grow rfl (.tmp 106) (.tmp 110) 49 rfl w.heap.size 54 ie2 _ 2 32 Tryz.underlying49 y1 y2 y3 y4 rfl (by decide) _ q.length _ rfl HQ _ _ (hdA n1 ⟨#[]⟩) _ B9 rfl rfl (hd_one _ _) (by unfold maxLen; omega) (by omega) HB.size ?_; intro v8 w8 h8 hg8 hb8; replace HO : OwnT w8 w.heap.size pv acc := own_grown HO HQ (by decide) hg8; clear HQ; have HQ : OwnP w8 w.heap.size v8 (q ++ [(n1, ⟨#[]⟩)]) := (by unfold OwnP; rw [List.length_append, ← hds_more]; exact h8); replace HB := HB.trans hb8; clear h8 hg8 hb8 B9))
                    go_roundw
                    case rel => exact ⟨k1, q ++ [(n1, ⟨#[]⟩)], _, rfl, rfl, hb2, (by rw [List.length_append, List.length_singleton]; omega), HQ, HO, HB, .inl ⟨HN, HL38.out, .inr H38.out⟩⟩
                    case measure => (simp only; omega)
            · have hcb2 := bt_at h1
              by_cases h2 : k2 + 1 < s.size
              · have hi1 : (k2 : Int) + 1 < (s.size : Int) := by omega
                clear h1 h2
                rcases hp : partS [61, 38] (bl s) (k2 + 1) with ⟨c, p⟩ | ⟨n1, k1⟩
                · have HV : Hid (splitS (bl s) = .inl (c, p)) := Lib.hid (by rw [HFV.out, HQT.out.bad (paramS_bad hp)]; rfl)
                  have hcode : c = 3 ∨ c = 7 := partS_code hp
                  have hcd : (c == 0) = false := by rw [beq_eq_false_iff_ne]; omega
                  have hcd2 : ¬ c = 0 := by omega
                  clear hcode
                  have HPN : Hid (∀ wx, Calls Tryz.prog 52 #[.string s, .int .i64 ((k2 : Int) + 1), .string ⟨#[61, 38]⟩] wx fun e w' => e = .returned (.tuple #[.string ⟨#[]⟩, .int .i64 0, .int .i64 c, .int .i64 (p : Int)]) ∧ Below wx.heap.size wx w') := Lib.hid fun wx => by
                    have h := rpiece_any (s := s) (en := ⟨#[61, 38]⟩) (k0 := k2 + 1) (w := wx) (by omega) (by omega) (by decide)
                    rw [show bl (⟨#[61, 38]⟩ : ByteArray) = [61, 38] from rfl, hp] at h
                    exact h
                  clear hp HQT hkl2
                  go_wp2_with (first
                    | (go_at_call 52; (with_reducible refine (HPN.out _).mono ?_); rintro e w3 ⟨rfl, hb⟩; replace HO := own_below HO hb; replace HQ := own_below HQ hb; replace HB := HB.trans (hb.mono HB.size); clear hb))
                  all_goals
                    try simp only [Exit.inBlock, Exit.then]
                    refine bodyPost_ret (results_tmp4 rfl _ _ _) rfl ?_
                    exact ⟨by rw [HV.out]; rfl, HB⟩
                · have HPN : Hid (∀ wx, Calls Tryz.prog 52 #[.string s, .int .i64 ((k2 : Int) + 1), .string ⟨#[61, 38]⟩] wx fun e w' => e = .returned (.tuple #[.string n1, .int .i64 (k1 : Int), .int .i64 0, .int .i64 0]) ∧ Below wx.heap.size wx w') := Lib.hid fun wx => by
                    have h := rpiece_any (s := s) (en := ⟨#[61, 38]⟩) (k0 := k2 + 1) (w := wx) (by omega) (by omega) (by decide)
                    rw [show bl (⟨#[61, 38]⟩ : ByteArray) = [61, 38] from rfl, hp] at h
                    exact h
                  obtain ⟨hb1, hb2⟩ := partS_bd hp hkl2
                  have hst := partS_stop hp hkl2
                  rw [hbl] at hb2 hst
                  by_cases h61 : (bl s)[k1]? = some 61
                  · have hk1l : k1 < s.size := lt_at h61
                    have hcb3 := bt_at h61
                    have hkl3 : k1 + 1 ≤ (bl s).length := by omega
                    rcases hp2 : partS [38] (bl s) (k1 + 1) with ⟨c, p⟩ | ⟨v1, k3⟩
                    · have HV : Hid (splitS (bl s) = .inl (c, p)) := Lib.hid (by rw [HFV.out, HQT.out.bad (paramS_bad2 hp h61 hp2)]; rfl)
                      have hcode : c = 3 ∨ c = 7 := partS_code hp2
                      have hcd : (c == 0) = false := by rw [beq_eq_false_iff_ne]; omega
                      have hcd2 : ¬ c = 0 := by omega
                      clear hcode
                      have HPV : Hid (∀ wx, Calls Tryz.prog 52 #[.string s, .int .i64 ((k1 : Int) + 1), .string ⟨#[38]⟩] wx fun e w' => e = .returned (.tuple #[.string ⟨#[]⟩, .int .i64 0, .int .i64 c, .int .i64 (p : Int)]) ∧ Below wx.heap.size wx w') := Lib.hid fun wx => by
                        have h := rpiece_any (s := s) (en := ⟨#[38]⟩) (k0 := k1 + 1) (w := wx) (by omega) (by omega) (by decide)
                        rw [show bl (⟨#[38]⟩ : ByteArray) = [38] from rfl, hp2] at h
                        exact h
                      clear hp hp2 h61 hst HQT hkl2 hkl3
                      go_wp2_with (first
                        | (go_at_call 52; (with_reducible refine (HPN.out _).mono ?_); rintro e w3 ⟨rfl, hb⟩; replace HO := own_below HO hb; replace HQ := own_below HQ hb; replace HB := HB.trans (hb.mono HB.size); clear hb)
                        | (go_at_call 52; (with_reducible refine (HPV.out _).mono ?_); rintro e w4 ⟨rfl, hb⟩; replace HO := own_below HO hb; replace HQ := own_below HQ hb; replace HB := HB.trans (hb.mono HB.size); clear hb))
                      all_goals
                        try simp only [Exit.inBlock, Exit.then]
                        refine bodyPost_ret (results_tmp4 rfl _ _ _) rfl ?_
                        exact ⟨by rw [HV.out]; rfl, HB⟩
                    · have HPM := Lib.hid (paramS_both hp h61 hp2)
                      have HPV : Hid (∀ wx, Calls Tryz.prog 52 #[.string s, .int .i64 ((k1 : Int) + 1), .string ⟨#[38]⟩] wx fun e w' => e = .returned (.tuple #[.string v1, .int .i64 (k3 : Int), .int .i64 0, .int .i64 0]) ∧ Below wx.heap.size wx w') := Lib.hid fun wx => by
                        have h := rpiece_any (s := s) (en := ⟨#[38]⟩) (k0 := k1 + 1) (w := wx) (by omega) (by omega) (by decide)
                        rw [show bl (⟨#[38]⟩ : ByteArray) = [38] from rfl, hp2] at h
                        exact h
                      have hst3 := partS_stop hp2 hkl3
                      obtain ⟨hb3, hb4⟩ := partS_bd hp2 hkl3
                      rw [hbl] at hst3 hb4
                      by_cases h38 : (bl s)[k3]? = some 38
                      · have HN := Lib.hid (HQT.out.more hkl2 HPM.out h38)
                        have H38 := Lib.hid h38
                        have HL38 := Lib.hid (lt_at h38)
                        clear hp hp2 h61 hst hst3 h38 HQT hkl2 hkl3 HPM
                        go_wp2_with (first
                          | (go_at_call 52; (with_reducible refine (HPN.out _).mono ?_); rintro e w3 ⟨rfl, hb⟩; replace HO := own_below HO hb; replace HQ := own_below HQ hb; replace HB := HB.trans (hb.mono HB.size); clear hb)
                          | (go_at_call 52; (with_reducible refine (HPV.out _).mono ?_); rintro e w4 ⟨rfl, hb⟩; replace HO := own_below HO hb; replace HQ := own_below HQ hb; replace HB := HB.trans (hb.mono HB.size); clear hb)
                          | ((with_reducible refine is_build2 _ ?_); refine wpl_build_at (vals := [(0, .string n1), (1, .string v1)]) (pm_build2 n1 v1) rfl _ rfl rfl ?_)
                          | ((with_reducible refine is_slice ?_); refine wpl_slice_at 1 [(0, .agg (hdA n1 v1))] (hdA n1 v1) ie2 _ (by rw [y3]; exact hd_fill _ _) rfl 49 54 _ rfl rfl Tryz.underlying49 y1 y2 (by rw [y3]; decide) (by rw [y3]; decide) ?_; intro w7 hw; have hb := hid_grow hw; have B9 := (hid_alloc hw).1; replace HO := own_below HO hb; replace HQ := own_below HQ hb; replace HB := HB.trans (hb.mono HB.size); clear hw hb)
                          | ((with_reducible refine is_app (.tmp 106) (.tmp 110) ?_); refine wpl_grow rfl (.tmp 106) (.tmp 110) 49 rfl w.heap.size 54 ie2 _ 2 32 Tryz.underlying49 y1 y2 y3 y4 rfl (by decide) _ q.length _ rfl HQ _ _ (hdA n1 v1) _ B9 rfl rfl (hd_one _ _) (by unfold maxLen; omega) (by omega) HB.size ?_; intro v8 w8 h8 hg8 hb8; replace HO : OwnT w8 w.heap.size pv acc := own_grown HO HQ (by decide) hg8; clear HQ; have HQ : OwnP w8 w.heap.size v8 (q ++ [(n1, v1)]) := (by unfold OwnP; rw [List.length_append, ← hds_more]; exact h8); replace HB := HB.trans hb8; clear h8 hg8 hb8 B9))
                        go_roundw
                        case rel => exact ⟨k3, q ++ [(n1, v1)], _, rfl, rfl, hb4, (by rw [List.length_append, List.length_singleton]; omega), HQ, HO, HB, .inl ⟨HN, HL38.out, .inr H38.out⟩⟩
                        case measure => (simp only; omega)
                      · have HN := Lib.hid (HQT.out.last HPM.out h38)
                        have HZ : Hid (k3 = s.size) := Lib.hid (hst3.elim id (fun ⟨c, h, h2⟩ => absurd (show (bl s)[k3]? = some 38 by have h3 : c = 38 := (by simpa using h2); rw [h3] at h; exact h) h38))
                        clear hp hp2 h61 hst hst3 h38 HQT hkl2 hkl3 HPM
                        go_wp2_with (first
                          | (go_at_call 52; (with_reducible refine (HPN.out _).mono ?_); rintro e w3 ⟨rfl, hb⟩; replace HO := own_below HO hb; replace HQ := own_below HQ hb; replace HB := HB.trans (hb.mono HB.size); clear hb)
                          | (go_at_call 52; (with_reducible refine (HPV.out _).mono ?_); rintro e w4 ⟨rfl, hb⟩; replace HO := own_below HO hb; replace HQ := own_below HQ hb; replace HB := HB.trans (hb.mono HB.size); clear hb)
                          | ((with_reducible refine is_build2 _ ?_); refine wpl_build_at (vals := [(0, .string n1), (1, .string v1)]) (pm_build2 n1 v1) rfl _ rfl rfl ?_)
                          | ((with_reducible refine is_slice ?_); refine wpl_slice_at 1 [(0, .agg (hdA n1 v1))] (hdA n1 v1) ie2 _ (by rw [y3]; exact hd_fill _ _) rfl 49 54 _ rfl rfl Tryz.underlying49 y1 y2 (by rw [y3]; decide) (by rw [y3]; decide) ?_; intro w7 hw; have hb := hid_grow hw; have B9 := (hid_alloc hw).1; replace HO := own_below HO hb; replace HQ := own_below HQ hb; replace HB := HB.trans (hb.mono HB.size); clear hw hb)
                          | ((with_reducible refine is_app (.tmp 106) (.tmp 110) ?_); refine wpl_grow rfl (.tmp 106) (.tmp 110) 49 rfl w.heap.size 54 ie2 _ 2 32 Tryz.underlying49 y1 y2 y3 y4 rfl (by decide) _ q.length _ rfl HQ _ _ (hdA n1 v1) _ B9 rfl rfl (hd_one _ _) (by unfold maxLen; omega) (by omega) HB.size ?_; intro v8 w8 h8 hg8 hb8; replace HO : OwnT w8 w.heap.size pv acc := own_grown HO HQ (by decide) hg8; clear HQ; have HQ : OwnP w8 w.heap.size v8 (q ++ [(n1, v1)]) := (by unfold OwnP; rw [List.length_append, ← hds_more]; exact h8); replace HB := HB.trans hb8; clear h8 hg8 hb8 B9))
                        go_roundw
                        case rel => exact ⟨k3, q ++ [(n1, v1)], _, rfl, rfl, hb4, (by rw [List.length_append, List.length_singleton]; omega), HQ, HO, HB, .inr ⟨.inl HZ.out, HN⟩⟩
                        case measure => (simp only; omega)
                  · have HPM := Lib.hid (paramS_name hp h61)
                    rcases hst with hz1 | ⟨c, hc1, hc2⟩
                    · have HN := Lib.hid (HQT.out.last HPM.out (by rw [List.getElem?_eq_none (by omega)]; simp))
                      have HZ := Lib.hid hz1
                      have hnk : ¬ k1 < s.size := by omega
                      clear hp h61 hz1 HQT hkl2 HPM
                      go_wp2_with (first
                        | (go_at_call 52; (with_reducible refine (HPN.out _).mono ?_); rintro e w3 ⟨rfl, hb⟩; replace HO := own_below HO hb; replace HQ := own_below HQ hb; replace HB := HB.trans (hb.mono HB.size); clear hb)
                        | ((with_reducible refine is_build2 _ ?_); refine wpl_build_at (vals := [(0, .string n1), (1, .string ⟨#[]⟩)]) (pm_build2 n1 ⟨#[]⟩) rfl _ rfl rfl ?_)
                        | ((with_reducible refine is_slice ?_); refine wpl_slice_at 1 [(0, .agg (hdA n1 ⟨#[]⟩))] (hdA n1 ⟨#[]⟩) ie2 _ (by rw [y3]; exact hd_fill _ _) rfl 49 54 _ rfl rfl Tryz.underlying49 y1 y2 (by rw [y3]; decide) (by rw [y3]; decide) ?_; intro w7 hw; have hb := hid_grow hw; have B9 := (hid_alloc hw).1; replace HO := own_below HO hb; replace HQ := own_below HQ hb; replace HB := HB.trans (hb.mono HB.size); clear hw hb)
                        | ((with_reducible refine is_app (.tmp 106) (.tmp 110) ?_); refine wpl_grow rfl (.tmp 106) (.tmp 110) 49 rfl w.heap.size 54 ie2 _ 2 32 Tryz.underlying49 y1 y2 y3 y4 rfl (by decide) _ q.length _ rfl HQ _ _ (hdA n1 ⟨#[]⟩) _ B9 rfl rfl (hd_one _ _) (by unfold maxLen; omega) (by omega) HB.size ?_; intro v8 w8 h8 hg8 hb8; replace HO : OwnT w8 w.heap.size pv acc := own_grown HO HQ (by decide) hg8; clear HQ; have HQ : OwnP w8 w.heap.size v8 (q ++ [(n1, ⟨#[]⟩)]) := (by unfold OwnP; rw [List.length_append, ← hds_more]; exact h8); replace HB := HB.trans hb8; clear h8 hg8 hb8 B9))
                      go_roundw
                      case rel => exact ⟨k1, q ++ [(n1, ⟨#[]⟩)], _, rfl, rfl, hb2, (by rw [List.length_append, List.length_singleton]; omega), HQ, HO, HB, .inr ⟨.inl HZ.out, HN⟩⟩
                      case measure => (simp only; omega)
                    · have h38 : (bl s)[k1]? = some 38 := by
                        have h3 : c = 61 ∨ c = 38 := by simpa using hc2
                        rcases h3 with rfl | rfl
                        · exact absurd hc1 h61
                        · exact hc1
                      have HN := Lib.hid (HQT.out.more hkl2 HPM.out h38)
                      have H38 := Lib.hid h38
                      have HL38 := Lib.hid (lt_at h38)
                      have hk1l : k1 < s.size := lt_at h38
                      have hcb3 := bt_at h38
                      clear hp h61 hc1 hc2 h38 HQT hkl2 HPM
                      go_wp2_with (first
                        | (go_at_call 52; (with_reducible refine (HPN.out _).mono ?_); rintro e w3 ⟨rfl, hb⟩; replace HO := own_below HO hb; replace HQ := own_below HQ hb; replace HB := HB.trans (hb.mono HB.size); clear hb)
                        | ((with_reducible refine is_build2 _ ?_); refine wpl_build_at (vals := [(0, .string n1), (1, .string ⟨#[]⟩)]) (pm_build2 n1 ⟨#[]⟩) rfl _ rfl rfl ?_)
                        | ((with_reducible refine is_slice ?_); refine wpl_slice_at 1 [(0, .agg (hdA n1 ⟨#[]⟩))] (hdA n1 ⟨#[]⟩) ie2 _ (by rw [y3]; exact hd_fill _ _) rfl 49 54 _ rfl rfl Tryz.underlying49 y1 y2 (by rw [y3]; decide) (by rw [y3]; decide) ?_; intro w7 hw; have hb := hid_grow hw; have B9 := (hid_alloc hw).1; replace HO := own_below HO hb; replace HQ := own_below HQ hb; replace HB := HB.trans (hb.mono HB.size); clear hw hb)
                        | ((with_reducible refine is_app (.tmp 106) (.tmp 110) ?_); refine wpl_grow rfl (.tmp 106) (.tmp 110) 49 rfl w.heap.size 54 ie2 _ 2 32 Tryz.underlying49 y1 y2 y3 y4 rfl (by decide) _ q.length _ rfl HQ _ _ (hdA n1 ⟨#[]⟩) _ B9 rfl rfl (hd_one _ _) (by unfold maxLen; omega) (by omega) HB.size ?_; intro v8 w8 h8 hg8 hb8; replace HO : OwnT w8 w.heap.size pv acc := own_grown HO HQ (by decide) hg8; clear HQ; have HQ : OwnP w8 w.heap.size v8 (q ++ [(n1, ⟨#[]⟩)]) := (by unfold OwnP; rw [List.length_append, ← hds_more]; exact h8); replace HB := HB.trans hb8; clear h8 hg8 hb8 B9))
                      go_roundw
                      case rel => exact ⟨k1, q ++ [(n1, ⟨#[]⟩)], _, rfl, rfl, hb2, (by rw [List.length_append, List.length_singleton]; omega), HQ, HO, HB, .inl ⟨HN, HL38.out, .inr H38.out⟩⟩
                      case measure => (simp only; omega)
              · have hi1 : ¬ (k2 : Int) + 1 < (s.size : Int) := by omega
                clear h1 h2
                rcases hp : partS [61, 38] (bl s) (k2 + 1) with ⟨c, p⟩ | ⟨n1, k1⟩
                · have HV : Hid (splitS (bl s) = .inl (c, p)) := Lib.hid (by rw [HFV.out, HQT.out.bad (paramS_bad hp)]; rfl)
                  have hcode : c = 3 ∨ c = 7 := partS_code hp
                  have hcd : (c == 0) = false := by rw [beq_eq_false_iff_ne]; omega
                  have hcd2 : ¬ c = 0 := by omega
                  clear hcode
                  have HPN : Hid (∀ wx, Calls Tryz.prog 52 #[.string s, .int .i64 ((k2 : Int) + 1), .string ⟨#[61, 38]⟩] wx fun e w' => e = .returned (.tuple #[.string ⟨#[]⟩, .int .i64 0, .int .i64 c, .int .i64 (p : Int)]) ∧ Below wx.heap.size wx w') := Lib.hid fun wx => by
                    have h := rpiece_any (s := s) (en := ⟨#[61, 38]⟩) (k0 := k2 + 1) (w := wx) (by omega) (by omega) (by decide)
                    rw [show bl (⟨#[61, 38]⟩ : ByteArray) = [61, 38] from rfl, hp] at h
                    exact h
                  clear hp HQT hkl2
                  go_wp2_with (first
                    | (go_at_call 52; (with_reducible refine (HPN.out _).mono ?_); rintro e w3 ⟨rfl, hb⟩; replace HO := own_below HO hb; replace HQ := own_below HQ hb; replace HB := HB.trans (hb.mono HB.size); clear hb))
                  all_goals
                    try simp only [Exit.inBlock, Exit.then]
                    refine bodyPost_ret (results_tmp4 rfl _ _ _) rfl ?_
                    exact ⟨by rw [HV.out]; rfl, HB⟩
                · have HPN : Hid (∀ wx, Calls Tryz.prog 52 #[.string s, .int .i64 ((k2 : Int) + 1), .string ⟨#[61, 38]⟩] wx fun e w' => e = .returned (.tuple #[.string n1, .int .i64 (k1 : Int), .int .i64 0, .int .i64 0]) ∧ Below wx.heap.size wx w') := Lib.hid fun wx => by
                    have h := rpiece_any (s := s) (en := ⟨#[61, 38]⟩) (k0 := k2 + 1) (w := wx) (by omega) (by omega) (by decide)
                    rw [show bl (⟨#[61, 38]⟩ : ByteArray) = [61, 38] from rfl, hp] at h
                    exact h
                  obtain ⟨hb1, hb2⟩ := partS_bd hp hkl2
                  have hst := partS_stop hp hkl2
                  rw [hbl] at hb2 hst
                  by_cases h61 : (bl s)[k1]? = some 61
                  · have hk1l : k1 < s.size := lt_at h61
                    have hcb3 := bt_at h61
                    have hkl3 : k1 + 1 ≤ (bl s).length := by omega
                    rcases hp2 : partS [38] (bl s) (k1 + 1) with ⟨c, p⟩ | ⟨v1, k3⟩
                    · have HV : Hid (splitS (bl s) = .inl (c, p)) := Lib.hid (by rw [HFV.out, HQT.out.bad (paramS_bad2 hp h61 hp2)]; rfl)
                      have hcode : c = 3 ∨ c = 7 := partS_code hp2
                      have hcd : (c == 0) = false := by rw [beq_eq_false_iff_ne]; omega
                      have hcd2 : ¬ c = 0 := by omega
                      clear hcode
                      have HPV : Hid (∀ wx, Calls Tryz.prog 52 #[.string s, .int .i64 ((k1 : Int) + 1), .string ⟨#[38]⟩] wx fun e w' => e = .returned (.tuple #[.string ⟨#[]⟩, .int .i64 0, .int .i64 c, .int .i64 (p : Int)]) ∧ Below wx.heap.size wx w') := Lib.hid fun wx => by
                        have h := rpiece_any (s := s) (en := ⟨#[38]⟩) (k0 := k1 + 1) (w := wx) (by omega) (by omega) (by decide)
                        rw [show bl (⟨#[38]⟩ : ByteArray) = [38] from rfl, hp2] at h
                        exact h
                      clear hp hp2 h61 hst HQT hkl2 hkl3
                      go_wp2_with (first
                        | (go_at_call 52; (with_reducible refine (HPN.out _).mono ?_); rintro e w3 ⟨rfl, hb⟩; replace HO := own_below HO hb; replace HQ := own_below HQ hb; replace HB := HB.trans (hb.mono HB.size); clear hb)
                        | (go_at_call 52; (with_reducible refine (HPV.out _).mono ?_); rintro e w4 ⟨rfl, hb⟩; replace HO := own_below HO hb; replace HQ := own_below HQ hb; replace HB := HB.trans (hb.mono HB.size); clear hb))
                      all_goals
                        try simp only [Exit.inBlock, Exit.then]
                        refine bodyPost_ret (results_tmp4 rfl _ _ _) rfl ?_
                        exact ⟨by rw [HV.out]; rfl, HB⟩
                    · have HPM := Lib.hid (paramS_both hp h61 hp2)
                      have HPV : Hid (∀ wx, Calls Tryz.prog 52 #[.string s, .int .i64 ((k1 : Int) + 1), .string ⟨#[38]⟩] wx fun e w' => e = .returned (.tuple #[.string v1, .int .i64 (k3 : Int), .int .i64 0, .int .i64 0]) ∧ Below wx.heap.size wx w') := Lib.hid fun wx => by
                        have h := rpiece_any (s := s) (en := ⟨#[38]⟩) (k0 := k1 + 1) (w := wx) (by omega) (by omega) (by decide)
                        rw [show bl (⟨#[38]⟩ : ByteArray) = [38] from rfl, hp2] at h
                        exact h
                      have hst3 := partS_stop hp2 hkl3
                      obtain ⟨hb3, hb4⟩ := partS_bd hp2 hkl3
                      rw [hbl] at hst3 hb4
                      by_cases h38 : (bl s)[k3]? = some 38
                      · have HN := Lib.hid (HQT.out.more hkl2 HPM.out h38)
                        have H38 := Lib.hid h38
                        have HL38 := Lib.hid (lt_at h38)
                        clear hp hp2 h61 hst hst3 h38 HQT hkl2 hkl3 HPM
                        go_wp2_with (first
                          | (go_at_call 52; (with_reducible refine (HPN.out _).mono ?_); rintro e w3 ⟨rfl, hb⟩; replace HO := own_below HO hb; replace HQ := own_below HQ hb; replace HB := HB.trans (hb.mono HB.size); clear hb)
                          | (go_at_call 52; (with_reducible refine (HPV.out _).mono ?_); rintro e w4 ⟨rfl, hb⟩; replace HO := own_below HO hb; replace HQ := own_below HQ hb; replace HB := HB.trans (hb.mono HB.size); clear hb)
                          | ((with_reducible refine is_build2 _ ?_); refine wpl_build_at (vals := [(0, .string n1), (1, .string v1)]) (pm_build2 n1 v1) rfl _ rfl rfl ?_)
                          | ((with_reducible refine is_slice ?_); refine wpl_slice_at 1 [(0, .agg (hdA n1 v1))] (hdA n1 v1) ie2 _ (by rw [y3]; exact hd_fill _ _) rfl 49 54 _ rfl rfl Tryz.underlying49 y1 y2 (by rw [y3]; decide) (by rw [y3]; decide) ?_; intro w7 hw; have hb := hid_grow hw; have B9 := (hid_alloc hw).1; replace HO := own_below HO hb; replace HQ := own_below HQ hb; replace HB := HB.trans (hb.mono HB.size); clear hw hb)
                          | ((with_reducible refine is_app (.tmp 106) (.tmp 110) ?_); refine wpl_grow rfl (.tmp 106) (.tmp 110) 49 rfl w.heap.size 54 ie2 _ 2 32 Tryz.underlying49 y1 y2 y3 y4 rfl (by decide) _ q.length _ rfl HQ _ _ (hdA n1 v1) _ B9 rfl rfl (hd_one _ _) (by unfold maxLen; omega) (by omega) HB.size ?_; intro v8 w8 h8 hg8 hb8; replace HO : OwnT w8 w.heap.size pv acc := own_grown HO HQ (by decide) hg8; clear HQ; have HQ : OwnP w8 w.heap.size v8 (q ++ [(n1, v1)]) := (by unfold OwnP; rw [List.length_append, ← hds_more]; exact h8); replace HB := HB.trans hb8; clear h8 hg8 hb8 B9))
                        go_roundw
                        case rel => exact ⟨k3, q ++ [(n1, v1)], _, rfl, rfl, hb4, (by rw [List.length_append, List.length_singleton]; omega), HQ, HO, HB, .inl ⟨HN, HL38.out, .inr H38.out⟩⟩
                        case measure => (simp only; omega)
                      · have HN := Lib.hid (HQT.out.last HPM.out h38)
                        have HZ : Hid (k3 = s.size) := Lib.hid (hst3.elim id (fun ⟨c, h, h2⟩ => absurd (show (bl s)[k3]? = some 38 by have h3 : c = 38 := (by simpa using h2); rw [h3] at h; exact h) h38))
                        clear hp hp2 h61 hst hst3 h38 HQT hkl2 hkl3 HPM
                        go_wp2_with (first
                          | (go_at_call 52; (with_reducible refine (HPN.out _).mono ?_); rintro e w3 ⟨rfl, hb⟩; replace HO := own_below HO hb; replace HQ := own_below HQ hb; replace HB := HB.trans (hb.mono HB.size); clear hb)
                          | (go_at_call 52; (with_reducible refine (HPV.out _).mono ?_); rintro e w4 ⟨rfl, hb⟩; replace HO := own_below HO hb; replace HQ := own_below HQ hb; replace HB := HB.trans (hb.mono HB.size); clear hb)
                          | ((with_reducible refine is_build2 _ ?_); refine wpl_build_at (vals := [(0, .string n1), (1, .string v1)]) (pm_build2 n1 v1) rfl _ rfl rfl ?_)
                          | ((with_reducible refine is_slice ?_); refine wpl_slice_at 1 [(0, .agg (hdA n1 v1))] (hdA n1 v1) ie2 _ (by rw [y3]; exact hd_fill _ _) rfl 49 54 _ rfl rfl Tryz.underlying49 y1 y2 (by rw [y3]; decide) (by rw [y3]; decide) ?_; intro w7 hw; have hb := hid_grow hw; have B9 := (hid_alloc hw).1; replace HO := own_below HO hb; replace HQ := own_below HQ hb; replace HB := HB.trans (hb.mono HB.size); clear hw hb)
                          | ((with_reducible refine is_app (.tmp 106) (.tmp 110) ?_); refine wpl_grow rfl (.tmp 106) (.tmp 110) 49 rfl w.heap.size 54 ie2 _ 2 32 Tryz.underlying49 y1 y2 y3 y4 rfl (by decide) _ q.length _ rfl HQ _ _ (hdA n1 v1) _ B9 rfl rfl (hd_one _ _) (by unfold maxLen; omega) (by omega) HB.size ?_; intro v8 w8 h8 hg8 hb8; replace HO : OwnT w8 w.heap.size pv acc := own_grown HO HQ (by decide) hg8; clear HQ; have HQ : OwnP w8 w.heap.size v8 (q ++ [(n1, v1)]) := (by unfold OwnP; rw [List.length_append, ← hds_more]; exact h8); replace HB := HB.trans hb8; clear h8 hg8 hb8 B9))
                        go_roundw
                        case rel => exact ⟨k3, q ++ [(n1, v1)], _, rfl, rfl, hb4, (by rw [List.length_append, List.length_singleton]; omega), HQ, HO, HB, .inr ⟨.inl HZ.out, HN⟩⟩
                        case measure => (simp only; omega)
                  · have HPM := Lib.hid (paramS_name hp h61)
                    rcases hst with hz1 | ⟨c, hc1, hc2⟩
                    · have HN := Lib.hid (HQT.out.last HPM.out (by rw [List.getElem?_eq_none (by omega)]; simp))
                      have HZ := Lib.hid hz1
                      have hnk : ¬ k1 < s.size := by omega
                      clear hp h61 hz1 HQT hkl2 HPM
                      go_wp2_with (first
                        | (go_at_call 52; (with_reducible refine (HPN.out _).mono ?_); rintro e w3 ⟨rfl, hb⟩; replace HO := own_below HO hb; replace HQ := own_below HQ hb; replace HB := HB.trans (hb.mono HB.size); clear hb)
                        | ((with_reducible refine is_build2 _ ?_); refine wpl_build_at (vals := [(0, .string n1), (1, .string ⟨#[]⟩)]) (pm_build2 n1 ⟨#[]⟩) rfl _ rfl rfl ?_)
                        | ((with_reducible refine is_slice ?_); refine wpl_slice_at 1 [(0, .agg (hdA n1 ⟨#[]⟩))] (hdA n1 ⟨#[]⟩) ie2 _ (by rw [y3]; exact hd_fill _ _) rfl 49 54 _ rfl rfl Tryz.underlying49 y1 y2 (by rw [y3]; decide) (by rw [y3]; decide) ?_; intro w7 hw; have hb := hid_grow hw; have B9 := (hid_alloc hw).1; replace HO := own_below HO hb; replace HQ := own_below HQ hb; replace HB := HB.trans (hb.mono HB.size); clear hw hb)
                        | ((with_reducible refine is_app (.tmp 106) (.tmp 110) ?_); refine wpl_grow rfl (.tmp 106) (.tmp 110) 49 rfl w.heap.size 54 ie2 _ 2 32 Tryz.underlying49 y1 y2 y3 y4 rfl (by decide) _ q.length _ rfl HQ _ _ (hdA n1 ⟨#[]⟩) _ B9 rfl rfl (hd_one _ _) (by unfold maxLen; omega) (by omega) HB.size ?_; intro v8 w8 h8 hg8 hb8; replace HO : OwnT w8 w.heap.size pv acc := own_grown HO HQ (by decide) hg8; clear HQ; have HQ : OwnP w8 w.heap.size v8 (q ++ [(n1, ⟨#[]⟩)]) := (by unfold OwnP; rw [List.length_append, ← hds_more]; exact h8); replace HB := HB.trans hb8; clear h8 hg8 hb8 B9))
                      go_roundw
                      case rel => exact ⟨k1, q ++ [(n1, ⟨#[]⟩)], _, rfl, rfl, hb2, (by rw [List.length_append, List.length_singleton]; omega), HQ, HO, HB, .inr ⟨.inl HZ.out, HN⟩⟩
                      case measure => (simp only; omega)
                    · have h38 : (bl s)[k1]? = some 38 := by
                        have h3 : c = 61 ∨ c = 38 := by simpa using hc2
                        rcases h3 with rfl | rfl
                        · exact absurd hc1 h61
                        · exact hc1
                      have HN := Lib.hid (HQT.out.more hkl2 HPM.out h38)
                      have H38 := Lib.hid h38
                      have HL38 := Lib.hid (lt_at h38)
                      have hk1l : k1 < s.size := lt_at h38
                      have hcb3 := bt_at h38
                      clear hp h61 hc1 hc2 h38 HQT hkl2 HPM
                      go_wp2_with (first
                        | (go_at_call 52; (with_reducible refine (HPN.out _).mono ?_); rintro e w3 ⟨rfl, hb⟩; replace HO := own_below HO hb; replace HQ := own_below HQ hb; replace HB := HB.trans (hb.mono HB.size); clear hb)
                        | ((with_reducible refine is_build2 _ ?_); refine wpl_build_at (vals := [(0, .string n1), (1, .string ⟨#[]⟩)]) (pm_build2 n1 ⟨#[]⟩) rfl _ rfl rfl ?_)
                        | ((with_reducible refine is_slice ?_); refine wpl_slice_at 1 [(0, .agg (hdA n1 ⟨#[]⟩))] (hdA n1 ⟨#[]⟩) ie2 _ (by rw [y3]; exact hd_fill _ _) rfl 49 54 _ rfl rfl Tryz.underlying49 y1 y2 (by rw [y3]; decide) (by rw [y3]; decide) ?_; intro w7 hw; have hb := hid_grow hw; have B9 := (hid_alloc hw).1; replace HO := own_below HO hb; replace HQ := own_below HQ hb; replace HB := HB.trans (hb.mono HB.size); clear hw hb)
                        | ((with_reducible refine is_app (.tmp 106) (.tmp 110) ?_); refine wpl_grow rfl (.tmp 106) (.tmp 110) 49 rfl w.heap.size 54 ie2 _ 2 32 Tryz.underlying49 y1 y2 y3 y4 rfl (by decide) _ q.length _ rfl HQ _ _ (hdA n1 ⟨#[]⟩) _ B9 rfl rfl (hd_one _ _) (by unfold maxLen; omega) (by omega) HB.size ?_; intro v8 w8 h8 hg8 hb8; replace HO : OwnT w8 w.heap.size pv acc := own_grown HO HQ (by decide) hg8; clear HQ; have HQ : OwnP w8 w.heap.size v8 (q ++ [(n1, ⟨#[]⟩)]) := (by unfold OwnP; rw [List.length_append, ← hds_more]; exact h8); replace HB := HB.trans hb8; clear h8 hg8 hb8 B9))
                      go_roundw
                      case rel => exact ⟨k1, q ++ [(n1, ⟨#[]⟩)], _, rfl, rfl, hb2, (by rw [List.length_append, List.length_singleton]; omega), HQ, HO, HB, .inl ⟨HN, HL38.out, .inr H38.out⟩⟩
                      case measure => (simp only; omega)
          · have HV : Hid (splitS (bl s) = .inr (acc, q)) := Lib.hid (by rw [HFV.out, HFQ.out]; rfl)
            rcases hend with h1 | ⟨h1, h2⟩
            · have hi1 : ¬ (k2 : Int) + 1 < (s.size : Int) := by omega
              have hi2 : ¬ k2 < s.size := by omega
              clear h1
              go_wp2
              try simp only [Exit.inBlock, Exit.then]
              refine bodyPost_ret (results_tmp4 rfl _ _ _) rfl ?_
              exact ⟨by rw [HV.out]; exact ⟨_, _, rfl, HO, HQ, by omega, by omega⟩, HB⟩
            · have hi1 : ¬ (k2 : Int) + 1 < (s.size : Int) := by omega
              have hcb2 := bt_at h2
              have hi2 : k2 < s.size := by omega
              clear h1 h2
              go_wp2
              try simp only [Exit.inBlock, Exit.then]
              refine bodyPost_ret (results_tmp4 rfl _ _ _) rfl ?_
              exact ⟨by rw [HV.out]; exact ⟨_, _, rfl, HO, HQ, by omega, by omega⟩, HB⟩
      · have hcb := bt_at hx2
        clear hx2
        go_wp2
        go_loopw [7, 12, 13, 14, 15, 16, 17] (fun kv qv0 _ _ _ _ _ wr => ∃ (k2 : Nat) (q : List (ByteArray × ByteArray)) (qv : Value), qv = qv0 ∧ kv = .int .i64 (k2 : Int) ∧ k2 ≤ s.size ∧ q.length ≤ k2 ∧ OwnP wr w.heap.size qv q ∧ OwnT wr w.heap.size pv acc ∧ Below w.heap.size w wr ∧ ((Hid (QT (bl s) (k2 + 1) q FQ) ∧ k2 < s.size ∧ (k2 + 1 < s.size ∨ (bl s)[k2]? = some 38)) ∨ ((k2 = s.size ∨ (k2 + 1 = s.size ∧ (bl s)[k2]? = some 63)) ∧ Hid (FQ = .inr q)))) (fun kv _ _ _ _ _ _ _ => match kv with | .int _ k2 => s.size - k2.toNat | _ => 0)
        case atStart => exact ⟨k, [], _, rfl, rfl, hk, Nat.zero_le _, own_nil _ _ _ _, HO, HB, HIN.out⟩
        case round =>
          clear HB HO HIN hcb
          obtain ⟨k2, q, qv, rfl, rfl, hk2, hq, HQ, HO, HB, hd⟩ := hrel
          rcases hd with ⟨HQT, hk2l, hcond⟩ | ⟨hend, HFQ⟩
          · have hkl2 : k2 + 1 ≤ (bl s).length := by omega
            rcases hcond with h1 | h1
            · have hi1 : (k2 : Int) + 1 < (s.size : Int) := by omega
              clear h1
              rcases hp : partS [61, 38] (bl s) (k2 + 1) with ⟨c, p⟩ | ⟨n1, k1⟩
              · have HV : Hid (splitS (bl s) = .inl (c, p)) := Lib.hid (by rw [HFV.out, HQT.out.bad (paramS_bad hp)]; rfl)
                have hcode : c = 3 ∨ c = 7 := partS_code hp
                have hcd : (c == 0) = false := by rw [beq_eq_false_iff_ne]; omega
                have hcd2 : ¬ c = 0 := by omega
                clear hcode
                have HPN : Hid (∀ wx, Calls Tryz.prog 52 #[.string s, .int .i64 ((k2 : Int) + 1), .string ⟨#[61, 38]⟩] wx fun e w' => e = .returned (.tuple #[.string ⟨#[]⟩, .int .i64 0, .int .i64 c, .int .i64 (p : Int)]) ∧ Below wx.heap.size wx w') := Lib.hid fun wx => by
                  have h := rpiece_any (s := s) (en := ⟨#[61, 38]⟩) (k0 := k2 + 1) (w := wx) (by omega) (by omega) (by decide)
                  rw [show bl (⟨#[61, 38]⟩ : ByteArray) = [61, 38] from rfl, hp] at h
                  exact h
                clear hp HQT hkl2
                go_wp2_with (first
                  | (go_at_call 52; (with_reducible refine (HPN.out _).mono ?_); rintro e w3 ⟨rfl, hb⟩; replace HO := own_below HO hb; replace HQ := own_below HQ hb; replace HB := HB.trans (hb.mono HB.size); clear hb))
                all_goals
                  try simp only [Exit.inBlock, Exit.then]
                  refine bodyPost_ret (results_tmp4 rfl _ _ _) rfl ?_
                  exact ⟨by rw [HV.out]; rfl, HB⟩
              · have HPN : Hid (∀ wx, Calls Tryz.prog 52 #[.string s, .int .i64 ((k2 : Int) + 1), .string ⟨#[61, 38]⟩] wx fun e w' => e = .returned (.tuple #[.string n1, .int .i64 (k1 : Int), .int .i64 0, .int .i64 0]) ∧ Below wx.heap.size wx w') := Lib.hid fun wx => by
                  have h := rpiece_any (s := s) (en := ⟨#[61, 38]⟩) (k0 := k2 + 1) (w := wx) (by omega) (by omega) (by decide)
                  rw [show bl (⟨#[61, 38]⟩ : ByteArray) = [61, 38] from rfl, hp] at h
                  exact h
                obtain ⟨hb1, hb2⟩ := partS_bd hp hkl2
                have hst := partS_stop hp hkl2
                rw [hbl] at hb2 hst
                by_cases h61 : (bl s)[k1]? = some 61
                · have hk1l : k1 < s.size := lt_at h61
                  have hcb3 := bt_at h61
                  have hkl3 : k1 + 1 ≤ (bl s).length := by omega
                  rcases hp2 : partS [38] (bl s) (k1 + 1) with ⟨c, p⟩ | ⟨v1, k3⟩
                  · have HV : Hid (splitS (bl s) = .inl (c, p)) := Lib.hid (by rw [HFV.out, HQT.out.bad (paramS_bad2 hp h61 hp2)]; rfl)
                    have hcode : c = 3 ∨ c = 7 := partS_code hp2
                    have hcd : (c == 0) = false := by rw [beq_eq_false_iff_ne]; omega
                    have hcd2 : ¬ c = 0 := by omega
                    clear hcode
                    have HPV : Hid (∀ wx, Calls Tryz.prog 52 #[.string s, .int .i64 ((k1 : Int) + 1), .string ⟨#[38]⟩] wx fun e w' => e = .returned (.tuple #[.string ⟨#[]⟩, .int .i64 0, .int .i64 c, .int .i64 (p : Int)]) ∧ Below wx.heap.size wx w') := Lib.hid fun wx => by
                      have h := rpiece_any (s := s) (en := ⟨#[38]⟩) (k0 := k1 + 1) (w := wx) (by omega) (by omega) (by decide)
                      rw [show bl (⟨#[38]⟩ : ByteArray) = [38] from rfl, hp2] at h
                      exact h
                    clear hp hp2 h61 hst HQT hkl2 hkl3
                    go_wp2_with (first
                      | (go_at_call 52; (with_reducible refine (HPN.out _).mono ?_); rintro e w3 ⟨rfl, hb⟩; replace HO := own_below HO hb; replace HQ := own_below HQ hb; replace HB := HB.trans (hb.mono HB.size); clear hb)
                      | (go_at_call 52; (with_reducible refine (HPV.out _).mono ?_); rintro e w4 ⟨rfl, hb⟩; replace HO := own_below HO hb; replace HQ := own_below HQ hb; replace HB := HB.trans (hb.mono HB.size); clear hb))
                    all_goals
                      try simp only [Exit.inBlock, Exit.then]
                      refine bodyPost_ret (results_tmp4 rfl _ _ _) rfl ?_
                      exact ⟨by rw [HV.out]; rfl, HB⟩
                  · have HPM := Lib.hid (paramS_both hp h61 hp2)
                    have HPV : Hid (∀ wx, Calls Tryz.prog 52 #[.string s, .int .i64 ((k1 : Int) + 1), .string ⟨#[38]⟩] wx fun e w' => e = .returned (.tuple #[.string v1, .int .i64 (k3 : Int), .int .i64 0, .int .i64 0]) ∧ Below wx.heap.size wx w') := Lib.hid fun wx => by
                      have h := rpiece_any (s := s) (en := ⟨#[38]⟩) (k0 := k1 + 1) (w := wx) (by omega) (by omega) (by decide)
                      rw [show bl (⟨#[38]⟩ : ByteArray) = [38] from rfl, hp2] at h
                      exact h
                    have hst3 := partS_stop hp2 hkl3
                    obtain ⟨hb3, hb4⟩ := partS_bd hp2 hkl3
                    rw [hbl] at hst3 hb4
                    by_cases h38 : (bl s)[k3]? = some 38
                    · have HN := Lib.hid (HQT.out.more hkl2 HPM.out h38)
                      have H38 := Lib.hid h38
                      have HL38 := Lib.hid (lt_at h38)
                      clear hp hp2 h61 hst hst3 h38 HQT hkl2 hkl3 HPM
                      go_wp2_with (first
                        | (go_at_call 52; (with_reducible refine (HPN.out _).mono ?_); rintro e w3 ⟨rfl, hb⟩; replace HO := own_below HO hb; replace HQ := own_below HQ hb; replace HB := HB.trans (hb.mono HB.size); clear hb)
                        | (go_at_call 52; (with_reducible refine (HPV.out _).mono ?_); rintro e w4 ⟨rfl, hb⟩; replace HO := own_below HO hb; replace HQ := own_below HQ hb; replace HB := HB.trans (hb.mono HB.size); clear hb)
                        | ((with_reducible refine is_build2 _ ?_); refine wpl_build_at (vals := [(0, .string n1), (1, .string v1)]) (pm_build2 n1 v1) rfl _ rfl rfl ?_)
                        | ((with_reducible refine is_slice ?_); refine wpl_slice_at 1 [(0, .agg (hdA n1 v1))] (hdA n1 v1) ie2 _ (by rw [y3]; exact hd_fill _ _) rfl 49 54 _ rfl rfl Tryz.underlying49 y1 y2 (by rw [y3]; decide) (by rw [y3]; decide) ?_; intro w7 hw; have hb := hid_grow hw; have B9 := (hid_alloc hw).1; replace HO := own_below HO hb; replace HQ := own_below HQ hb; replace HB := HB.trans (hb.mono HB.size); clear hw hb)
                        | ((with_reducible refine is_app (.tmp 106) (.tmp 110) ?_); refine wpl_grow rfl (.tmp 106) (.tmp 110) 49 rfl w.heap.size 54 ie2 _ 2 32 Tryz.underlying49 y1 y2 y3 y4 rfl (by decide) _ q.length _ rfl HQ _ _ (hdA n1 v1) _ B9 rfl rfl (hd_one _ _) (by unfold maxLen; omega) (by omega) HB.size ?_; intro v8 w8 h8 hg8 hb8; replace HO : OwnT w8 w.heap.size pv acc := own_grown HO HQ (by decide) hg8; clear HQ; have HQ : OwnP w8 w.heap.size v8 (q ++ [(n1, v1)]) := (by unfold OwnP; rw [List.length_append, ← hds_more]; exact h8); replace HB := HB.trans hb8; clear h8 hg8 hb8 B9))
                      go_roundw
                      case rel => exact ⟨k3, q ++ [(n1, v1)], _, rfl, rfl, hb4, (by rw [List.length_append, List.length_singleton]; omega), HQ, HO, HB, .inl ⟨HN, HL38.out, .inr H38.out⟩⟩
                      case measure => (simp only; omega)
                    · have HN := Lib.hid (HQT.out.last HPM.out h38)
                      have HZ : Hid (k3 = s.size) := Lib.hid (hst3.elim id (fun ⟨c, h, h2⟩ => absurd (show (bl s)[k3]? = some 38 by have h3 : c = 38 := (by simpa using h2); rw [h3] at h; exact h) h38))
                      clear hp hp2 h61 hst hst3 h38 HQT hkl2 hkl3 HPM
                      go_wp2_with (first
                        | (go_at_call 52; (with_reducible refine (HPN.out _).mono ?_); rintro e w3 ⟨rfl, hb⟩; replace HO := own_below HO hb; replace HQ := own_below HQ hb; replace HB := HB.trans (hb.mono HB.size); clear hb)
                        | (go_at_call 52; (with_reducible refine (HPV.out _).mono ?_); rintro e w4 ⟨rfl, hb⟩; replace HO := own_below HO hb; replace HQ := own_below HQ hb; replace HB := HB.trans (hb.mono HB.size); clear hb)
                        | ((with_reducible refine is_build2 _ ?_); refine wpl_build_at (vals := [(0, .string n1), (1, .string v1)]) (pm_build2 n1 v1) rfl _ rfl rfl ?_)
                        | ((with_reducible refine is_slice ?_); refine wpl_slice_at 1 [(0, .agg (hdA n1 v1))] (hdA n1 v1) ie2 _ (by rw [y3]; exact hd_fill _ _) rfl 49 54 _ rfl rfl Tryz.underlying49 y1 y2 (by rw [y3]; decide) (by rw [y3]; decide) ?_; intro w7 hw; have hb := hid_grow hw; have B9 := (hid_alloc hw).1; replace HO := own_below HO hb; replace HQ := own_below HQ hb; replace HB := HB.trans (hb.mono HB.size); clear hw hb)
                        | ((with_reducible refine is_app (.tmp 106) (.tmp 110) ?_); refine wpl_grow rfl (.tmp 106) (.tmp 110) 49 rfl w.heap.size 54 ie2 _ 2 32 Tryz.underlying49 y1 y2 y3 y4 rfl (by decide) _ q.length _ rfl HQ _ _ (hdA n1 v1) _ B9 rfl rfl (hd_one _ _) (by unfold maxLen; omega) (by omega) HB.size ?_; intro v8 w8 h8 hg8 hb8; replace HO : OwnT w8 w.heap.size pv acc := own_grown HO HQ (by decide) hg8; clear HQ; have HQ : OwnP w8 w.heap.size v8 (q ++ [(n1, v1)]) := (by unfold OwnP; rw [List.length_append, ← hds_more]; exact h8); replace HB := HB.trans hb8; clear h8 hg8 hb8 B9))
                      go_roundw
                      case rel => exact ⟨k3, q ++ [(n1, v1)], _, rfl, rfl, hb4, (by rw [List.length_append, List.length_singleton]; omega), HQ, HO, HB, .inr ⟨.inl HZ.out, HN⟩⟩
                      case measure => (simp only; omega)
                · have HPM := Lib.hid (paramS_name hp h61)
                  rcases hst with hz1 | ⟨c, hc1, hc2⟩
                  · have HN := Lib.hid (HQT.out.last HPM.out (by rw [List.getElem?_eq_none (by omega)]; simp))
                    have HZ := Lib.hid hz1
                    have hnk : ¬ k1 < s.size := by omega
                    clear hp h61 hz1 HQT hkl2 HPM
                    go_wp2_with (first
                      | (go_at_call 52; (with_reducible refine (HPN.out _).mono ?_); rintro e w3 ⟨rfl, hb⟩; replace HO := own_below HO hb; replace HQ := own_below HQ hb; replace HB := HB.trans (hb.mono HB.size); clear hb)
                      | ((with_reducible refine is_build2 _ ?_); refine wpl_build_at (vals := [(0, .string n1), (1, .string ⟨#[]⟩)]) (pm_build2 n1 ⟨#[]⟩) rfl _ rfl rfl ?_)
                      | ((with_reducible refine is_slice ?_); refine wpl_slice_at 1 [(0, .agg (hdA n1 ⟨#[]⟩))] (hdA n1 ⟨#[]⟩) ie2 _ (by rw [y3]; exact hd_fill _ _) rfl 49 54 _ rfl rfl Tryz.underlying49 y1 y2 (by rw [y3]; decide) (by rw [y3]; decide) ?_; intro w7 hw; have hb := hid_grow hw; have B9 := (hid_alloc hw).1; replace HO := own_below HO hb; replace HQ := own_below HQ hb; replace HB := HB.trans (hb.mono HB.size); clear hw hb)
                      | ((with_reducible refine is_app (.tmp 106) (.tmp 110) ?_); refine wpl_grow rfl (.tmp 106) (.tmp 110) 49 rfl w.heap.size 54 ie2 _ 2 32 Tryz.underlying49 y1 y2 y3 y4 rfl (by decide) _ q.length _ rfl HQ _ _ (hdA n1 ⟨#[]⟩) _ B9 rfl rfl (hd_one _ _) (by unfold maxLen; omega) (by omega) HB.size ?_; intro v8 w8 h8 hg8 hb8; replace HO : OwnT w8 w.heap.size pv acc := own_grown HO HQ (by decide) hg8; clear HQ; have HQ : OwnP w8 w.heap.size v8 (q ++ [(n1, ⟨#[]⟩)]) := (by unfold OwnP; rw [List.length_append, ← hds_more]; exact h8); replace HB := HB.trans hb8; clear h8 hg8 hb8 B9))
                    go_roundw
                    case rel => exact ⟨k1, q ++ [(n1, ⟨#[]⟩)], _, rfl, rfl, hb2, (by rw [List.length_append, List.length_singleton]; omega), HQ, HO, HB, .inr ⟨.inl HZ.out, HN⟩⟩
                    case measure => (simp only; omega)
                  · have h38 : (bl s)[k1]? = some 38 := by
                      have h3 : c = 61 ∨ c = 38 := by simpa using hc2
                      rcases h3 with rfl | rfl
                      · exact absurd hc1 h61
                      · exact hc1
                    have HN := Lib.hid (HQT.out.more hkl2 HPM.out h38)
                    have H38 := Lib.hid h38
                    have HL38 := Lib.hid (lt_at h38)
                    have hk1l : k1 < s.size := lt_at h38
                    have hcb3 := bt_at h38
                    clear hp h61 hc1 hc2 h38 HQT hkl2 HPM
                    go_wp2_with (first
                      | (go_at_call 52; (with_reducible refine (HPN.out _).mono ?_); rintro e w3 ⟨rfl, hb⟩; replace HO := own_below HO hb; replace HQ := own_below HQ hb; replace HB := HB.trans (hb.mono HB.size); clear hb)
                      | ((with_reducible refine is_build2 _ ?_); refine wpl_build_at (vals := [(0, .string n1), (1, .string ⟨#[]⟩)]) (pm_build2 n1 ⟨#[]⟩) rfl _ rfl rfl ?_)
                      | ((with_reducible refine is_slice ?_); refine wpl_slice_at 1 [(0, .agg (hdA n1 ⟨#[]⟩))] (hdA n1 ⟨#[]⟩) ie2 _ (by rw [y3]; exact hd_fill _ _) rfl 49 54 _ rfl rfl Tryz.underlying49 y1 y2 (by rw [y3]; decide) (by rw [y3]; decide) ?_; intro w7 hw; have hb := hid_grow hw; have B9 := (hid_alloc hw).1; replace HO := own_below HO hb; replace HQ := own_below HQ hb; replace HB := HB.trans (hb.mono HB.size); clear hw hb)
                      | ((with_reducible refine is_app (.tmp 106) (.tmp 110) ?_); refine wpl_grow rfl (.tmp 106) (.tmp 110) 49 rfl w.heap.size 54 ie2 _ 2 32 Tryz.underlying49 y1 y2 y3 y4 rfl (by decide) _ q.length _ rfl HQ _ _ (hdA n1 ⟨#[]⟩) _ B9 rfl rfl (hd_one _ _) (by unfold maxLen; omega) (by omega) HB.size ?_; intro v8 w8 h8 hg8 hb8; replace HO : OwnT w8 w.heap.size pv acc := own_grown HO HQ (by decide) hg8; clear HQ; have HQ : OwnP w8 w.heap.size v8 (q ++ [(n1, ⟨#[]⟩)]) := (by unfold OwnP; rw [List.length_append, ← hds_more]; exact h8); replace HB := HB.trans hb8; clear h8 hg8 hb8 B9))
                    go_roundw
                    case rel => exact ⟨k1, q ++ [(n1, ⟨#[]⟩)], _, rfl, rfl, hb2, (by rw [List.length_append, List.length_singleton]; omega), HQ, HO, HB, .inl ⟨HN, HL38.out, .inr H38.out⟩⟩
                    case measure => (simp only; omega)
            · have hcb2 := bt_at h1
              by_cases h2 : k2 + 1 < s.size
              · have hi1 : (k2 : Int) + 1 < (s.size : Int) := by omega
                clear h1 h2
                rcases hp : partS [61, 38] (bl s) (k2 + 1) with ⟨c, p⟩ | ⟨n1, k1⟩
                · have HV : Hid (splitS (bl s) = .inl (c, p)) := Lib.hid (by rw [HFV.out, HQT.out.bad (paramS_bad hp)]; rfl)
                  have hcode : c = 3 ∨ c = 7 := partS_code hp
                  have hcd : (c == 0) = false := by rw [beq_eq_false_iff_ne]; omega
                  have hcd2 : ¬ c = 0 := by omega
                  clear hcode
                  have HPN : Hid (∀ wx, Calls Tryz.prog 52 #[.string s, .int .i64 ((k2 : Int) + 1), .string ⟨#[61, 38]⟩] wx fun e w' => e = .returned (.tuple #[.string ⟨#[]⟩, .int .i64 0, .int .i64 c, .int .i64 (p : Int)]) ∧ Below wx.heap.size wx w') := Lib.hid fun wx => by
                    have h := rpiece_any (s := s) (en := ⟨#[61, 38]⟩) (k0 := k2 + 1) (w := wx) (by omega) (by omega) (by decide)
                    rw [show bl (⟨#[61, 38]⟩ : ByteArray) = [61, 38] from rfl, hp] at h
                    exact h
                  clear hp HQT hkl2
                  go_wp2_with (first
                    | (go_at_call 52; (with_reducible refine (HPN.out _).mono ?_); rintro e w3 ⟨rfl, hb⟩; replace HO := own_below HO hb; replace HQ := own_below HQ hb; replace HB := HB.trans (hb.mono HB.size); clear hb))
                  all_goals
                    try simp only [Exit.inBlock, Exit.then]
                    refine bodyPost_ret (results_tmp4 rfl _ _ _) rfl ?_
                    exact ⟨by rw [HV.out]; rfl, HB⟩
                · have HPN : Hid (∀ wx, Calls Tryz.prog 52 #[.string s, .int .i64 ((k2 : Int) + 1), .string ⟨#[61, 38]⟩] wx fun e w' => e = .returned (.tuple #[.string n1, .int .i64 (k1 : Int), .int .i64 0, .int .i64 0]) ∧ Below wx.heap.size wx w') := Lib.hid fun wx => by
                    have h := rpiece_any (s := s) (en := ⟨#[61, 38]⟩) (k0 := k2 + 1) (w := wx) (by omega) (by omega) (by decide)
                    rw [show bl (⟨#[61, 38]⟩ : ByteArray) = [61, 38] from rfl, hp] at h
                    exact h
                  obtain ⟨hb1, hb2⟩ := partS_bd hp hkl2
                  have hst := partS_stop hp hkl2
                  rw [hbl] at hb2 hst
                  by_cases h61 : (bl s)[k1]? = some 61
                  · have hk1l : k1 < s.size := lt_at h61
                    have hcb3 := bt_at h61
                    have hkl3 : k1 + 1 ≤ (bl s).length := by omega
                    rcases hp2 : partS [38] (bl s) (k1 + 1) with ⟨c, p⟩ | ⟨v1, k3⟩
                    · have HV : Hid (splitS (bl s) = .inl (c, p)) := Lib.hid (by rw [HFV.out, HQT.out.bad (paramS_bad2 hp h61 hp2)]; rfl)
                      have hcode : c = 3 ∨ c = 7 := partS_code hp2
                      have hcd : (c == 0) = false := by rw [beq_eq_false_iff_ne]; omega
                      have hcd2 : ¬ c = 0 := by omega
                      clear hcode
                      have HPV : Hid (∀ wx, Calls Tryz.prog 52 #[.string s, .int .i64 ((k1 : Int) + 1), .string ⟨#[38]⟩] wx fun e w' => e = .returned (.tuple #[.string ⟨#[]⟩, .int .i64 0, .int .i64 c, .int .i64 (p : Int)]) ∧ Below wx.heap.size wx w') := Lib.hid fun wx => by
                        have h := rpiece_any (s := s) (en := ⟨#[38]⟩) (k0 := k1 + 1) (w := wx) (by omega) (by omega) (by decide)
                        rw [show bl (⟨#[38]⟩ : ByteArray) = [38] from rfl, hp2] at h
                        exact h
                      clear hp hp2 h61 hst HQT hkl2 hkl3
                      go_wp2_with (first
                        | (go_at_call 52; (with_reducible refine (HPN.out _).mono ?_); rintro e w3 ⟨rfl, hb⟩; replace HO := own_below HO hb; replace HQ := own_below HQ hb; replace HB := HB.trans (hb.mono HB.size); clear hb)
                        | (go_at_call 52; (with_reducible refine (HPV.out _).mono ?_); rintro e w4 ⟨rfl, hb⟩; replace HO := own_below HO hb; replace HQ := own_below HQ hb; replace HB := HB.trans (hb.mono HB.size); clear hb))
                      all_goals
                        try simp only [Exit.inBlock, Exit.then]
                        refine bodyPost_ret (results_tmp4 rfl _ _ _) rfl ?_
                        exact ⟨by rw [HV.out]; rfl, HB⟩
                    · have HPM := Lib.hid (paramS_both hp h61 hp2)
                      have HPV : Hid (∀ wx, Calls Tryz.prog 52 #[.string s, .int .i64 ((k1 : Int) + 1), .string ⟨#[38]⟩] wx fun e w' => e = .returned (.tuple #[.string v1, .int .i64 (k3 : Int), .int .i64 0, .int .i64 0]) ∧ Below wx.heap.size wx w') := Lib.hid fun wx => by
                        have h := rpiece_any (s := s) (en := ⟨#[38]⟩) (k0 := k1 + 1) (w := wx) (by omega) (by omega) (by decide)
                        rw [show bl (⟨#[38]⟩ : ByteArray) = [38] from rfl, hp2] at h
                        exact h
                      have hst3 := partS_stop hp2 hkl3
                      obtain ⟨hb3, hb4⟩ := partS_bd hp2 hkl3
                      rw [hbl] at hst3 hb4
                      by_cases h38 : (bl s)[k3]? = some 38
                      · have HN := Lib.hid (HQT.out.more hkl2 HPM.out h38)
                        have H38 := Lib.hid h38
                        have HL38 := Lib.hid (lt_at h38)
                        clear hp hp2 h61 hst hst3 h38 HQT hkl2 hkl3 HPM
                        go_wp2_with (first
                          | (go_at_call 52; (with_reducible refine (HPN.out _).mono ?_); rintro e w3 ⟨rfl, hb⟩; replace HO := own_below HO hb; replace HQ := own_below HQ hb; replace HB := HB.trans (hb.mono HB.size); clear hb)
                          | (go_at_call 52; (with_reducible refine (HPV.out _).mono ?_); rintro e w4 ⟨rfl, hb⟩; replace HO := own_below HO hb; replace HQ := own_below HQ hb; replace HB := HB.trans (hb.mono HB.size); clear hb)
                          | ((with_reducible refine is_build2 _ ?_); refine wpl_build_at (vals := [(0, .string n1), (1, .string v1)]) (pm_build2 n1 v1) rfl _ rfl rfl ?_)
                          | ((with_reducible refine is_slice ?_); refine wpl_slice_at 1 [(0, .agg (hdA n1 v1))] (hdA n1 v1) ie2 _ (by rw [y3]; exact hd_fill _ _) rfl 49 54 _ rfl rfl Tryz.underlying49 y1 y2 (by rw [y3]; decide) (by rw [y3]; decide) ?_; intro w7 hw; have hb := hid_grow hw; have B9 := (hid_alloc hw).1; replace HO := own_below HO hb; replace HQ := own_below HQ hb; replace HB := HB.trans (hb.mono HB.size); clear hw hb)
                          | ((with_reducible refine is_app (.tmp 106) (.tmp 110) ?_); refine wpl_grow rfl (.tmp 106) (.tmp 110) 49 rfl w.heap.size 54 ie2 _ 2 32 Tryz.underlying49 y1 y2 y3 y4 rfl (by decide) _ q.length _ rfl HQ _ _ (hdA n1 v1) _ B9 rfl rfl (hd_one _ _) (by unfold maxLen; omega) (by omega) HB.size ?_; intro v8 w8 h8 hg8 hb8; replace HO : OwnT w8 w.heap.size pv acc := own_grown HO HQ (by decide) hg8; clear HQ; have HQ : OwnP w8 w.heap.size v8 (q ++ [(n1, v1)]) := (by unfold OwnP; rw [List.length_append, ← hds_more]; exact h8); replace HB := HB.trans hb8; clear h8 hg8 hb8 B9))
                        go_roundw
                        case rel => exact ⟨k3, q ++ [(n1, v1)], _, rfl, rfl, hb4, (by rw [List.length_append, List.length_singleton]; omega), HQ, HO, HB, .inl ⟨HN, HL38.out, .inr H38.out⟩⟩
                        case measure => (simp only; omega)
                      · have HN := Lib.hid (HQT.out.last HPM.out h38)
                        have HZ : Hid (k3 = s.size) := Lib.hid (hst3.elim id (fun ⟨c, h, h2⟩ => absurd (show (bl s)[k3]? = some 38 by have h3 : c = 38 := (by simpa using h2); rw [h3] at h; exact h) h38))
                        clear hp hp2 h61 hst hst3 h38 HQT hkl2 hkl3 HPM
                        go_wp2_with (first
                          | (go_at_call 52; (with_reducible refine (HPN.out _).mono ?_); rintro e w3 ⟨rfl, hb⟩; replace HO := own_below HO hb; replace HQ := own_below HQ hb; replace HB := HB.trans (hb.mono HB.size); clear hb)
                          | (go_at_call 52; (with_reducible refine (HPV.out _).mono ?_); rintro e w4 ⟨rfl, hb⟩; replace HO := own_below HO hb; replace HQ := own_below HQ hb; replace HB := HB.trans (hb.mono HB.size); clear hb)
                          | ((with_reducible refine is_build2 _ ?_); refine wpl_build_at (vals := [(0, .string n1), (1, .string v1)]) (pm_build2 n1 v1) rfl _ rfl rfl ?_)
                          | ((with_reducible refine is_slice ?_); refine wpl_slice_at 1 [(0, .agg (hdA n1 v1))] (hdA n1 v1) ie2 _ (by rw [y3]; exact hd_fill _ _) rfl 49 54 _ rfl rfl Tryz.underlying49 y1 y2 (by rw [y3]; decide) (by rw [y3]; decide) ?_; intro w7 hw; have hb := hid_grow hw; have B9 := (hid_alloc hw).1; replace HO := own_below HO hb; replace HQ := own_below HQ hb; replace HB := HB.trans (hb.mono HB.size); clear hw hb)
                          | ((with_reducible refine is_app (.tmp 106) (.tmp 110) ?_); refine wpl_grow rfl (.tmp 106) (.tmp 110) 49 rfl w.heap.size 54 ie2 _ 2 32 Tryz.underlying49 y1 y2 y3 y4 rfl (by decide) _ q.length _ rfl HQ _ _ (hdA n1 v1) _ B9 rfl rfl (hd_one _ _) (by unfold maxLen; omega) (by omega) HB.size ?_; intro v8 w8 h8 hg8 hb8; replace HO : OwnT w8 w.heap.size pv acc := own_grown HO HQ (by decide) hg8; clear HQ; have HQ : OwnP w8 w.heap.size v8 (q ++ [(n1, v1)]) := (by unfold OwnP; rw [List.length_append, ← hds_more]; exact h8); replace HB := HB.trans hb8; clear h8 hg8 hb8 B9))
                        go_roundw
                        case rel => exact ⟨k3, q ++ [(n1, v1)], _, rfl, rfl, hb4, (by rw [List.length_append, List.length_singleton]; omega), HQ, HO, HB, .inr ⟨.inl HZ.out, HN⟩⟩
                        case measure => (simp only; omega)
                  · have HPM := Lib.hid (paramS_name hp h61)
                    rcases hst with hz1 | ⟨c, hc1, hc2⟩
                    · have HN := Lib.hid (HQT.out.last HPM.out (by rw [List.getElem?_eq_none (by omega)]; simp))
                      have HZ := Lib.hid hz1
                      have hnk : ¬ k1 < s.size := by omega
                      clear hp h61 hz1 HQT hkl2 HPM
                      go_wp2_with (first
                        | (go_at_call 52; (with_reducible refine (HPN.out _).mono ?_); rintro e w3 ⟨rfl, hb⟩; replace HO := own_below HO hb; replace HQ := own_below HQ hb; replace HB := HB.trans (hb.mono HB.size); clear hb)
                        | ((with_reducible refine is_build2 _ ?_); refine wpl_build_at (vals := [(0, .string n1), (1, .string ⟨#[]⟩)]) (pm_build2 n1 ⟨#[]⟩) rfl _ rfl rfl ?_)
                        | ((with_reducible refine is_slice ?_); refine wpl_slice_at 1 [(0, .agg (hdA n1 ⟨#[]⟩))] (hdA n1 ⟨#[]⟩) ie2 _ (by rw [y3]; exact hd_fill _ _) rfl 49 54 _ rfl rfl Tryz.underlying49 y1 y2 (by rw [y3]; decide) (by rw [y3]; decide) ?_; intro w7 hw; have hb := hid_grow hw; have B9 := (hid_alloc hw).1; replace HO := own_below HO hb; replace HQ := own_below HQ hb; replace HB := HB.trans (hb.mono HB.size); clear hw hb)
                        | ((with_reducible refine is_app (.tmp 106) (.tmp 110) ?_); refine wpl_grow rfl (.tmp 106) (.tmp 110) 49 rfl w.heap.size 54 ie2 _ 2 32 Tryz.underlying49 y1 y2 y3 y4 rfl (by decide) _ q.length _ rfl HQ _ _ (hdA n1 ⟨#[]⟩) _ B9 rfl rfl (hd_one _ _) (by unfold maxLen; omega) (by omega) HB.size ?_; intro v8 w8 h8 hg8 hb8; replace HO : OwnT w8 w.heap.size pv acc := own_grown HO HQ (by decide) hg8; clear HQ; have HQ : OwnP w8 w.heap.size v8 (q ++ [(n1, ⟨#[]⟩)]) := (by unfold OwnP; rw [List.length_append, ← hds_more]; exact h8); replace HB := HB.trans hb8; clear h8 hg8 hb8 B9))
                      go_roundw
                      case rel => exact ⟨k1, q ++ [(n1, ⟨#[]⟩)], _, rfl, rfl, hb2, (by rw [List.length_append, List.length_singleton]; omega), HQ, HO, HB, .inr ⟨.inl HZ.out, HN⟩⟩
                      case measure => (simp only; omega)
                    · have h38 : (bl s)[k1]? = some 38 := by
                        have h3 : c = 61 ∨ c = 38 := by simpa using hc2
                        rcases h3 with rfl | rfl
                        · exact absurd hc1 h61
                        · exact hc1
                      have HN := Lib.hid (HQT.out.more hkl2 HPM.out h38)
                      have H38 := Lib.hid h38
                      have HL38 := Lib.hid (lt_at h38)
                      have hk1l : k1 < s.size := lt_at h38
                      have hcb3 := bt_at h38
                      clear hp h61 hc1 hc2 h38 HQT hkl2 HPM
                      go_wp2_with (first
                        | (go_at_call 52; (with_reducible refine (HPN.out _).mono ?_); rintro e w3 ⟨rfl, hb⟩; replace HO := own_below HO hb; replace HQ := own_below HQ hb; replace HB := HB.trans (hb.mono HB.size); clear hb)
                        | ((with_reducible refine is_build2 _ ?_); refine wpl_build_at (vals := [(0, .string n1), (1, .string ⟨#[]⟩)]) (pm_build2 n1 ⟨#[]⟩) rfl _ rfl rfl ?_)
                        | ((with_reducible refine is_slice ?_); refine wpl_slice_at 1 [(0, .agg (hdA n1 ⟨#[]⟩))] (hdA n1 ⟨#[]⟩) ie2 _ (by rw [y3]; exact hd_fill _ _) rfl 49 54 _ rfl rfl Tryz.underlying49 y1 y2 (by rw [y3]; decide) (by rw [y3]; decide) ?_; intro w7 hw; have hb := hid_grow hw; have B9 := (hid_alloc hw).1; replace HO := own_below HO hb; replace HQ := own_below HQ hb; replace HB := HB.trans (hb.mono HB.size); clear hw hb)
                        | ((with_reducible refine is_app (.tmp 106) (.tmp 110) ?_); refine wpl_grow rfl (.tmp 106) (.tmp 110) 49 rfl w.heap.size 54 ie2 _ 2 32 Tryz.underlying49 y1 y2 y3 y4 rfl (by decide) _ q.length _ rfl HQ _ _ (hdA n1 ⟨#[]⟩) _ B9 rfl rfl (hd_one _ _) (by unfold maxLen; omega) (by omega) HB.size ?_; intro v8 w8 h8 hg8 hb8; replace HO : OwnT w8 w.heap.size pv acc := own_grown HO HQ (by decide) hg8; clear HQ; have HQ : OwnP w8 w.heap.size v8 (q ++ [(n1, ⟨#[]⟩)]) := (by unfold OwnP; rw [List.length_append, ← hds_more]; exact h8); replace HB := HB.trans hb8; clear h8 hg8 hb8 B9))
                      go_roundw
                      case rel => exact ⟨k1, q ++ [(n1, ⟨#[]⟩)], _, rfl, rfl, hb2, (by rw [List.length_append, List.length_singleton]; omega), HQ, HO, HB, .inl ⟨HN, HL38.out, .inr H38.out⟩⟩
                      case measure => (simp only; omega)
              · have hi1 : ¬ (k2 : Int) + 1 < (s.size : Int) := by omega
                clear h1 h2
                rcases hp : partS [61, 38] (bl s) (k2 + 1) with ⟨c, p⟩ | ⟨n1, k1⟩
                · have HV : Hid (splitS (bl s) = .inl (c, p)) := Lib.hid (by rw [HFV.out, HQT.out.bad (paramS_bad hp)]; rfl)
                  have hcode : c = 3 ∨ c = 7 := partS_code hp
                  have hcd : (c == 0) = false := by rw [beq_eq_false_iff_ne]; omega
                  have hcd2 : ¬ c = 0 := by omega
                  clear hcode
                  have HPN : Hid (∀ wx, Calls Tryz.prog 52 #[.string s, .int .i64 ((k2 : Int) + 1), .string ⟨#[61, 38]⟩] wx fun e w' => e = .returned (.tuple #[.string ⟨#[]⟩, .int .i64 0, .int .i64 c, .int .i64 (p : Int)]) ∧ Below wx.heap.size wx w') := Lib.hid fun wx => by
                    have h := rpiece_any (s := s) (en := ⟨#[61, 38]⟩) (k0 := k2 + 1) (w := wx) (by omega) (by omega) (by decide)
                    rw [show bl (⟨#[61, 38]⟩ : ByteArray) = [61, 38] from rfl, hp] at h
                    exact h
                  clear hp HQT hkl2
                  go_wp2_with (first
                    | (go_at_call 52; (with_reducible refine (HPN.out _).mono ?_); rintro e w3 ⟨rfl, hb⟩; replace HO := own_below HO hb; replace HQ := own_below HQ hb; replace HB := HB.trans (hb.mono HB.size); clear hb))
                  all_goals
                    try simp only [Exit.inBlock, Exit.then]
                    refine bodyPost_ret (results_tmp4 rfl _ _ _) rfl ?_
                    exact ⟨by rw [HV.out]; rfl, HB⟩
                · have HPN : Hid (∀ wx, Calls Tryz.prog 52 #[.string s, .int .i64 ((k2 : Int) + 1), .string ⟨#[61, 38]⟩] wx fun e w' => e = .returned (.tuple #[.string n1, .int .i64 (k1 : Int), .int .i64 0, .int .i64 0]) ∧ Below wx.heap.size wx w') := Lib.hid fun wx => by
                    have h := rpiece_any (s := s) (en := ⟨#[61, 38]⟩) (k0 := k2 + 1) (w := wx) (by omega) (by omega) (by decide)
                    rw [show bl (⟨#[61, 38]⟩ : ByteArray) = [61, 38] from rfl, hp] at h
                    exact h
                  obtain ⟨hb1, hb2⟩ := partS_bd hp hkl2
                  have hst := partS_stop hp hkl2
                  rw [hbl] at hb2 hst
                  by_cases h61 : (bl s)[k1]? = some 61
                  · have hk1l : k1 < s.size := lt_at h61
                    have hcb3 := bt_at h61
                    have hkl3 : k1 + 1 ≤ (bl s).length := by omega
                    rcases hp2 : partS [38] (bl s) (k1 + 1) with ⟨c, p⟩ | ⟨v1, k3⟩
                    · have HV : Hid (splitS (bl s) = .inl (c, p)) := Lib.hid (by rw [HFV.out, HQT.out.bad (paramS_bad2 hp h61 hp2)]; rfl)
                      have hcode : c = 3 ∨ c = 7 := partS_code hp2
                      have hcd : (c == 0) = false := by rw [beq_eq_false_iff_ne]; omega
                      have hcd2 : ¬ c = 0 := by omega
                      clear hcode
                      have HPV : Hid (∀ wx, Calls Tryz.prog 52 #[.string s, .int .i64 ((k1 : Int) + 1), .string ⟨#[38]⟩] wx fun e w' => e = .returned (.tuple #[.string ⟨#[]⟩, .int .i64 0, .int .i64 c, .int .i64 (p : Int)]) ∧ Below wx.heap.size wx w') := Lib.hid fun wx => by
                        have h := rpiece_any (s := s) (en := ⟨#[38]⟩) (k0 := k1 + 1) (w := wx) (by omega) (by omega) (by decide)
                        rw [show bl (⟨#[38]⟩ : ByteArray) = [38] from rfl, hp2] at h
                        exact h
                      clear hp hp2 h61 hst HQT hkl2 hkl3
                      go_wp2_with (first
                        | (go_at_call 52; (with_reducible refine (HPN.out _).mono ?_); rintro e w3 ⟨rfl, hb⟩; replace HO := own_below HO hb; replace HQ := own_below HQ hb; replace HB := HB.trans (hb.mono HB.size); clear hb)
                        | (go_at_call 52; (with_reducible refine (HPV.out _).mono ?_); rintro e w4 ⟨rfl, hb⟩; replace HO := own_below HO hb; replace HQ := own_below HQ hb; replace HB := HB.trans (hb.mono HB.size); clear hb))
                      all_goals
                        try simp only [Exit.inBlock, Exit.then]
                        refine bodyPost_ret (results_tmp4 rfl _ _ _) rfl ?_
                        exact ⟨by rw [HV.out]; rfl, HB⟩
                    · have HPM := Lib.hid (paramS_both hp h61 hp2)
                      have HPV : Hid (∀ wx, Calls Tryz.prog 52 #[.string s, .int .i64 ((k1 : Int) + 1), .string ⟨#[38]⟩] wx fun e w' => e = .returned (.tuple #[.string v1, .int .i64 (k3 : Int), .int .i64 0, .int .i64 0]) ∧ Below wx.heap.size wx w') := Lib.hid fun wx => by
                        have h := rpiece_any (s := s) (en := ⟨#[38]⟩) (k0 := k1 + 1) (w := wx) (by omega) (by omega) (by decide)
                        rw [show bl (⟨#[38]⟩ : ByteArray) = [38] from rfl, hp2] at h
                        exact h
                      have hst3 := partS_stop hp2 hkl3
                      obtain ⟨hb3, hb4⟩ := partS_bd hp2 hkl3
                      rw [hbl] at hst3 hb4
                      by_cases h38 : (bl s)[k3]? = some 38
                      · have HN := Lib.hid (HQT.out.more hkl2 HPM.out h38)
                        have H38 := Lib.hid h38
                        have HL38 := Lib.hid (lt_at h38)
                        clear hp hp2 h61 hst hst3 h38 HQT hkl2 hkl3 HPM
                        go_wp2_with (first
                          | (go_at_call 52; (with_reducible refine (HPN.out _).mono ?_); rintro e w3 ⟨rfl, hb⟩; replace HO := own_below HO hb; replace HQ := own_below HQ hb; replace HB := HB.trans (hb.mono HB.size); clear hb)
                          | (go_at_call 52; (with_reducible refine (HPV.out _).mono ?_); rintro e w4 ⟨rfl, hb⟩; replace HO := own_below HO hb; replace HQ := own_below HQ hb; replace HB := HB.trans (hb.mono HB.size); clear hb)
                          | ((with_reducible refine is_build2 _ ?_); refine wpl_build_at (vals := [(0, .string n1), (1, .string v1)]) (pm_build2 n1 v1) rfl _ rfl rfl ?_)
                          | ((with_reducible refine is_slice ?_); refine wpl_slice_at 1 [(0, .agg (hdA n1 v1))] (hdA n1 v1) ie2 _ (by rw [y3]; exact hd_fill _ _) rfl 49 54 _ rfl rfl Tryz.underlying49 y1 y2 (by rw [y3]; decide) (by rw [y3]; decide) ?_; intro w7 hw; have hb := hid_grow hw; have B9 := (hid_alloc hw).1; replace HO := own_below HO hb; replace HQ := own_below HQ hb; replace HB := HB.trans (hb.mono HB.size); clear hw hb)
                          | ((with_reducible refine is_app (.tmp 106) (.tmp 110) ?_); refine wpl_grow rfl (.tmp 106) (.tmp 110) 49 rfl w.heap.size 54 ie2 _ 2 32 Tryz.underlying49 y1 y2 y3 y4 rfl (by decide) _ q.length _ rfl HQ _ _ (hdA n1 v1) _ B9 rfl rfl (hd_one _ _) (by unfold maxLen; omega) (by omega) HB.size ?_; intro v8 w8 h8 hg8 hb8; replace HO : OwnT w8 w.heap.size pv acc := own_grown HO HQ (by decide) hg8; clear HQ; have HQ : OwnP w8 w.heap.size v8 (q ++ [(n1, v1)]) := (by unfold OwnP; rw [List.length_append, ← hds_more]; exact h8); replace HB := HB.trans hb8; clear h8 hg8 hb8 B9))
                        go_roundw
                        case rel => exact ⟨k3, q ++ [(n1, v1)], _, rfl, rfl, hb4, (by rw [List.length_append, List.length_singleton]; omega), HQ, HO, HB, .inl ⟨HN, HL38.out, .inr H38.out⟩⟩
                        case measure => (simp only; omega)
                      · have HN := Lib.hid (HQT.out.last HPM.out h38)
                        have HZ : Hid (k3 = s.size) := Lib.hid (hst3.elim id (fun ⟨c, h, h2⟩ => absurd (show (bl s)[k3]? = some 38 by have h3 : c = 38 := (by simpa using h2); rw [h3] at h; exact h) h38))
                        clear hp hp2 h61 hst hst3 h38 HQT hkl2 hkl3 HPM
                        go_wp2_with (first
                          | (go_at_call 52; (with_reducible refine (HPN.out _).mono ?_); rintro e w3 ⟨rfl, hb⟩; replace HO := own_below HO hb; replace HQ := own_below HQ hb; replace HB := HB.trans (hb.mono HB.size); clear hb)
                          | (go_at_call 52; (with_reducible refine (HPV.out _).mono ?_); rintro e w4 ⟨rfl, hb⟩; replace HO := own_below HO hb; replace HQ := own_below HQ hb; replace HB := HB.trans (hb.mono HB.size); clear hb)
                          | ((with_reducible refine is_build2 _ ?_); refine wpl_build_at (vals := [(0, .string n1), (1, .string v1)]) (pm_build2 n1 v1) rfl _ rfl rfl ?_)
                          | ((with_reducible refine is_slice ?_); refine wpl_slice_at 1 [(0, .agg (hdA n1 v1))] (hdA n1 v1) ie2 _ (by rw [y3]; exact hd_fill _ _) rfl 49 54 _ rfl rfl Tryz.underlying49 y1 y2 (by rw [y3]; decide) (by rw [y3]; decide) ?_; intro w7 hw; have hb := hid_grow hw; have B9 := (hid_alloc hw).1; replace HO := own_below HO hb; replace HQ := own_below HQ hb; replace HB := HB.trans (hb.mono HB.size); clear hw hb)
                          | ((with_reducible refine is_app (.tmp 106) (.tmp 110) ?_); refine wpl_grow rfl (.tmp 106) (.tmp 110) 49 rfl w.heap.size 54 ie2 _ 2 32 Tryz.underlying49 y1 y2 y3 y4 rfl (by decide) _ q.length _ rfl HQ _ _ (hdA n1 v1) _ B9 rfl rfl (hd_one _ _) (by unfold maxLen; omega) (by omega) HB.size ?_; intro v8 w8 h8 hg8 hb8; replace HO : OwnT w8 w.heap.size pv acc := own_grown HO HQ (by decide) hg8; clear HQ; have HQ : OwnP w8 w.heap.size v8 (q ++ [(n1, v1)]) := (by unfold OwnP; rw [List.length_append, ← hds_more]; exact h8); replace HB := HB.trans hb8; clear h8 hg8 hb8 B9))
                        go_roundw
                        case rel => exact ⟨k3, q ++ [(n1, v1)], _, rfl, rfl, hb4, (by rw [List.length_append, List.length_singleton]; omega), HQ, HO, HB, .inr ⟨.inl HZ.out, HN⟩⟩
                        case measure => (simp only; omega)
                  · have HPM := Lib.hid (paramS_name hp h61)
                    rcases hst with hz1 | ⟨c, hc1, hc2⟩
                    · have HN := Lib.hid (HQT.out.last HPM.out (by rw [List.getElem?_eq_none (by omega)]; simp))
                      have HZ := Lib.hid hz1
                      have hnk : ¬ k1 < s.size := by omega
                      clear hp h61 hz1 HQT hkl2 HPM
                      go_wp2_with (first
                        | (go_at_call 52; (with_reducible refine (HPN.out _).mono ?_); rintro e w3 ⟨rfl, hb⟩; replace HO := own_below HO hb; replace HQ := own_below HQ hb; replace HB := HB.trans (hb.mono HB.size); clear hb)
                        | ((with_reducible refine is_build2 _ ?_); refine wpl_build_at (vals := [(0, .string n1), (1, .string ⟨#[]⟩)]) (pm_build2 n1 ⟨#[]⟩) rfl _ rfl rfl ?_)
                        | ((with_reducible refine is_slice ?_); refine wpl_slice_at 1 [(0, .agg (hdA n1 ⟨#[]⟩))] (hdA n1 ⟨#[]⟩) ie2 _ (by rw [y3]; exact hd_fill _ _) rfl 49 54 _ rfl rfl Tryz.underlying49 y1 y2 (by rw [y3]; decide) (by rw [y3]; decide) ?_; intro w7 hw; have hb := hid_grow hw; have B9 := (hid_alloc hw).1; replace HO := own_below HO hb; replace HQ := own_below HQ hb; replace HB := HB.trans (hb.mono HB.size); clear hw hb)
                        | ((with_reducible refine is_app (.tmp 106) (.tmp 110) ?_); refine wpl_grow rfl (.tmp 106) (.tmp 110) 49 rfl w.heap.size 54 ie2 _ 2 32 Tryz.underlying49 y1 y2 y3 y4 rfl (by decide) _ q.length _ rfl HQ _ _ (hdA n1 ⟨#[]⟩) _ B9 rfl rfl (hd_one _ _) (by unfold maxLen; omega) (by omega) HB.size ?_; intro v8 w8 h8 hg8 hb8; replace HO : OwnT w8 w.heap.size pv acc := own_grown HO HQ (by decide) hg8; clear HQ; have HQ : OwnP w8 w.heap.size v8 (q ++ [(n1, ⟨#[]⟩)]) := (by unfold OwnP; rw [List.length_append, ← hds_more]; exact h8); replace HB := HB.trans hb8; clear h8 hg8 hb8 B9))
                      go_roundw
                      case rel => exact ⟨k1, q ++ [(n1, ⟨#[]⟩)], _, rfl, rfl, hb2, (by rw [List.length_append, List.length_singleton]; omega), HQ, HO, HB, .inr ⟨.inl HZ.out, HN⟩⟩
                      case measure => (simp only; omega)
                    · have h38 : (bl s)[k1]? = some 38 := by
                        have h3 : c = 61 ∨ c = 38 := by simpa using hc2
                        rcases h3 with rfl | rfl
                        · exact absurd hc1 h61
                        · exact hc1
                      have HN := Lib.hid (HQT.out.more hkl2 HPM.out h38)
                      have H38 := Lib.hid h38
                      have HL38 := Lib.hid (lt_at h38)
                      have hk1l : k1 < s.size := lt_at h38
                      have hcb3 := bt_at h38
                      clear hp h61 hc1 hc2 h38 HQT hkl2 HPM
                      go_wp2_with (first
                        | (go_at_call 52; (with_reducible refine (HPN.out _).mono ?_); rintro e w3 ⟨rfl, hb⟩; replace HO := own_below HO hb; replace HQ := own_below HQ hb; replace HB := HB.trans (hb.mono HB.size); clear hb)
                        | ((with_reducible refine is_build2 _ ?_); refine wpl_build_at (vals := [(0, .string n1), (1, .string ⟨#[]⟩)]) (pm_build2 n1 ⟨#[]⟩) rfl _ rfl rfl ?_)
                        | ((with_reducible refine is_slice ?_); refine wpl_slice_at 1 [(0, .agg (hdA n1 ⟨#[]⟩))] (hdA n1 ⟨#[]⟩) ie2 _ (by rw [y3]; exact hd_fill _ _) rfl 49 54 _ rfl rfl Tryz.underlying49 y1 y2 (by rw [y3]; decide) (by rw [y3]; decide) ?_; intro w7 hw; have hb := hid_grow hw; have B9 := (hid_alloc hw).1; replace HO := own_below HO hb; replace HQ := own_below HQ hb; replace HB := HB.trans (hb.mono HB.size); clear hw hb)
                        | ((with_reducible refine is_app (.tmp 106) (.tmp 110) ?_); refine wpl_grow rfl (.tmp 106) (.tmp 110) 49 rfl w.heap.size 54 ie2 _ 2 32 Tryz.underlying49 y1 y2 y3 y4 rfl (by decide) _ q.length _ rfl HQ _ _ (hdA n1 ⟨#[]⟩) _ B9 rfl rfl (hd_one _ _) (by unfold maxLen; omega) (by omega) HB.size ?_; intro v8 w8 h8 hg8 hb8; replace HO : OwnT w8 w.heap.size pv acc := own_grown HO HQ (by decide) hg8; clear HQ; have HQ : OwnP w8 w.heap.size v8 (q ++ [(n1, ⟨#[]⟩)]) := (by unfold OwnP; rw [List.length_append, ← hds_more]; exact h8); replace HB := HB.trans hb8; clear h8 hg8 hb8 B9))
                      go_roundw
                      case rel => exact ⟨k1, q ++ [(n1, ⟨#[]⟩)], _, rfl, rfl, hb2, (by rw [List.length_append, List.length_singleton]; omega), HQ, HO, HB, .inl ⟨HN, HL38.out, .inr H38.out⟩⟩
                      case measure => (simp only; omega)
          · have HV : Hid (splitS (bl s) = .inr (acc, q)) := Lib.hid (by rw [HFV.out, HFQ.out]; rfl)
            rcases hend with h1 | ⟨h1, h2⟩
            · have hi1 : ¬ (k2 : Int) + 1 < (s.size : Int) := by omega
              have hi2 : ¬ k2 < s.size := by omega
              clear h1
              go_wp2
              try simp only [Exit.inBlock, Exit.then]
              refine bodyPost_ret (results_tmp4 rfl _ _ _) rfl ?_
              exact ⟨by rw [HV.out]; exact ⟨_, _, rfl, HO, HQ, by omega, by omega⟩, HB⟩
            · have hi1 : ¬ (k2 : Int) + 1 < (s.size : Int) := by omega
              have hcb2 := bt_at h2
              have hi2 : k2 < s.size := by omega
              clear h1 h2
              go_wp2
              try simp only [Exit.inBlock, Exit.then]
              refine bodyPost_ret (results_tmp4 rfl _ _ _) rfl ?_
              exact ⟨by rw [HV.out]; exact ⟨_, _, rfl, HO, HQ, by omega, by omega⟩, HB⟩
end Go.Proofs.YtbehakabglegjaaGreatDoor
