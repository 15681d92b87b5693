/- Layer 2, the document's reader (coveyref02): number. -/
import Derived.Test.YtnjhmnolngdfaaaGreatDoorQ23
import Derived.Test.YtnjhmnolngdfaaaGreatDoorQ04
set_option linter.unusedVariables false
set_option linter.unusedSimpArgs false
set_option maxHeartbeats 16000000
set_option maxRecDepth 100000
namespace Go.Proofs.YtnjhmnolngdfaaaGreatDoor
open Go.RowKit Go.PlainAid
theorem qFV (s : ByteArray) : ∀ (m j : Nat) (v : Int), qBW s (m + 1) j v = 10 * qBW s m j v + (bt s (j + m) - 48)
  | 0, j, v => rfl
  | m + 1, j, v => by
    have h := qFV s m (j + 1) (10 * v + (bt s j - 48)); have e : qBW s (m + 1 + 1) j v = qBW s (m + 1) (j + 1) (10 * v + (bt s j - 48)) := rfl; have e2 : qBW s (m + 1) j v = qBW s m (j + 1) (10 * v + (bt s j - 48)) := rfl; rw [e, e2, h, show j + 1 + m = j + (m + 1) by omega]
def qCX (x : Int) : Int := if x > 9007199254740992 then 9007199254740992 else x
theorem qHi {D d N : Int} (hN : N = qCX D) (hd : 0 ≤ d) (h : 10 * N + d > 9007199254740992) : qCX (10 * D + d) = 9007199254740992 := by
  subst hN; unfold qCX at *; split at h <;> rw [if_pos (by omega)]
theorem qFl {D d N : Int} (hN : N = qCX D) (hd : 0 ≤ d) (h : ¬ 10 * N + d > 9007199254740992) : qCX (10 * D + d) = 10 * N + d := by
  subst hN; unfold qCX at *; split at h
  · omega
  · rename_i h2; rw [if_neg (by omega), if_neg h2]
theorem qHU (D : Int) : (qCX D > 9007199254740991 ↔ D > 9007199254740991) ∧ (¬ D > 9007199254740991 → qCX D = D) := by
  unfold qCX; split <;> constructor <;> omega
abbrev qQL (x : Int) (e : Ending) (_ : World) : Prop := e = .returned (.int .i64 x)
abbrev qQP (e : Ending) : Prop := e = .returned (.int .i64 0)
theorem qHb {s : ByteArray} {k : Nat} (hk : k < s.size) (h1 : 48 ≤ bt s k) (h2 : bt s k ≤ 57) : qBa (pk s k) = true := by rw [qBh hk]; unfold qBa; simp; omega
theorem qFC {s : ByteArray} {k : Nat} (h : ¬ (k < s.size ∧ 48 ≤ bt s k ∧ bt s k ≤ 57)) : qBa (pk s k) = false := by
  rcases Nat.lt_or_ge k s.size with hk | hk
  · rw [qBh hk]; unfold qBa; simp; omega
  · rw [qBb hk]; rfl
def qPK (s : ByteArray) (i j : Nat) (neg : Bool) : Prop := (neg = true ∧ pk s i = 45 ∧ j = i + 1) ∨ (neg = false ∧ pk s i ≠ 45 ∧ j = i)
theorem qDR {s : ByteArray} {i j : Nat} {neg : Bool} (hn : qPK s i j neg) (hd : qBa (pk s j) = false) : qBo s i = .bad 3 j := by
  unfold qBo; rcases hn with ⟨_, h, rfl⟩ | ⟨_, h, rfl⟩
  · rw [if_pos h]; unfold qCm; rw [if_pos hd]
  · rw [if_neg h]; unfold qCm; rw [if_pos hd]
theorem qIc {s : ByteArray} {i j : Nat} {neg : Bool} (hn : qPK s i j neg) (hd : qBa (pk s j) = true) (hv : qA2 s j > 9007199254740991) : qBo s i = .bad 5 i := by
  unfold qBo; rcases hn with ⟨_, h, rfl⟩ | ⟨_, h, rfl⟩
  · rw [if_pos h]; unfold qCm; rw [if_neg (by rw [hd]; decide), if_pos hv]
  · rw [if_neg h]; unfold qCm; rw [if_neg (by rw [hd]; decide), if_pos hv]
theorem qGx {s : ByteArray} {i j : Nat} {neg : Bool} (hn : qPK s i j neg) (hd : qBa (pk s j) = true) (hv : ¬ qA2 s j > 9007199254740991) : qBo s i = .ok (if neg = true then -qA2 s j else qA2 s j) (qBO s j) := by
  unfold qBo; rcases hn with ⟨h0, h, rfl⟩ | ⟨h0, h, rfl⟩
  · subst h0; rw [if_pos h]; unfold qCm; rw [if_neg (by rw [hd]; decide), if_neg hv, if_pos rfl]
  · subst h0; rw [if_neg h]; unfold qCm; rw [if_neg (by rw [hd]; decide), if_neg hv]
theorem qJJ {s : ByteArray} {j : Nat} (hj : pk s j = 48) : qBO s j = j + 1 ∧ qA2 s j = 0 := by
  (have hb : bt s j = 48 := by rw [← qBh (qCn (by rw [hj]; omega))]; exact hj); (have he : qBO s j = j + 1 := by unfold qBO; rw [if_pos hj]); refine ⟨he, ?_⟩; unfold qA2; rw [he, show j + 1 - j = 1 by omega]; show 10 * 0 + (bt s j - 48) = 0; omega
theorem qDF {w : World} {r : Nat} {s : ByteArray} {i : Nat} (h : RR w r s i 0 0) (hi : i < s.size) (hs : s.size ≤ 65536) :
    Calls Tryz.prog 75 #[At r] w (qBL (qBo s i) r s w qQL qQP) := by
  have HR := h; have HM := Mv.refl r w; have hbs := get_bt s; have c0 := HR.c0; have c1 := HR.c1; have f1 := HR.f1; (have hd0 : (i : Int) < (s.size : Int) := by omega); (have h0 : ¬ (i : Int) < 0 := by omega); have a0 := bt_nonneg s i; have a1 := bt_le s i; have hpi := qBh hi
  by_cases h45 : bt s i = 45
  · (have q45 : (bt s i == 45) = true := by rw [h45]; rfl); obtain ⟨j, hj⟩ : ∃ j, j = i + 1 := ⟨_, rfl⟩; have hn : Hid (qPK s i j true) := Lib.hid (.inl ⟨rfl, hpi.trans h45, hj⟩); have HJ := Lib.hid hj; (have hjs : j ≤ s.size := by omega); clear hj h45 hpi
    by_cases hlt : j < s.size
    · (have hjn : ¬ (j : Int) < 0 := by omega); (have hjl : (j : Int) < (s.size : Int) := by omega); have b0 := bt_nonneg s j; have b1 := bt_le s j
      by_cases d1 : 48 ≤ bt s j
      · by_cases d2 : bt s j ≤ 57
        · have hdj : Hid (qBa (pk s j) = true) := Lib.hid (qHb hlt d1 d2)
          by_cases hz : bt s j = 48
          · (have q48 : (bt s j == 48) = true := by rw [hz]; rfl); obtain ⟨hz1, hz2⟩ := qJJ ((qBh hlt).trans hz); have HK : Hid (qBo s i = .ok 0 (j + 1)) := Lib.hid (by rw [qGx hn.out hdj.out (by rw [hz2]; decide), hz1, hz2]; rfl); clear hz hz1 hz2; go_enter Tryz.func75, Tryz.ntmps75; go_wp2
            go_quiet (fail)
            replace HR := HR.drewN nq; replace HM := HM.trans (qAr r _ nq); generalize hwq : World.drewN _ nq = wq at *; clear c0 c1 f1 hwq; have c0 := HR.c0; have c1 := HR.c1; have f1 := HR.f1
            go_wp2_with (first
              | ((with_reducible refine qAF ?_); refine qAl rfl (.tmp 29) (.tmp 27) rfl rfl j (by rw [HJ.out]; rfl) HR ?_; intro w4 hr hm; clear c0 c1 f1; replace HR := hr; replace HM := HM.trans hm; clear hr hm; have c0 := HR.c0; have c1 := HR.c1; have f1 := HR.f1)
              | (go_at_call 72; (with_reducible refine (qAS HR hlt).mono ?_); rintro e w2 ⟨rfl, hr, hm⟩; replace HR := hr; replace HM := HM.trans hm; clear c0 c1 f1 hr hm; have c0 := HR.c0; have c1 := HR.c1; have f1 := HR.f1)
              | ((with_reducible refine qAF ?_); refine qAl rfl (.tmp 59) (.tmp 57) rfl rfl (j + 1) (by rfl) HR ?_; intro w4 hr hm; clear c0 c1 f1; replace HR := hr; replace HM := HM.trans hm; clear hr hm; have c0 := HR.c0; have c1 := HR.c1; have f1 := HR.f1))
            go_ret; exact qBL.ok HK.out HM rfl HR
          · (have q48 : (bt s j == 48) = false := by simpa using hz); have HE : Hid (qBO s j = qBX qBa s j) := Lib.hid (by unfold qBO; rw [if_neg (by rw [qBh hlt]; exact hz)]); clear hz; go_enter Tryz.func75, Tryz.ntmps75; go_wp2
            go_quiet (fail)
            replace HR := HR.drewN nq; replace HM := HM.trans (qAr r _ nq); generalize hwq : World.drewN _ nq = wq at *; clear c0 c1 f1 hwq; have c0 := HR.c0; have c1 := HR.c1; have f1 := HR.f1
            go_wp2_with (first
              | ((with_reducible refine qAF ?_); refine qAl rfl (.tmp 29) (.tmp 27) rfl rfl j (by rw [HJ.out]; rfl) HR ?_; intro w4 hr hm; clear c0 c1 f1; replace HR := hr; replace HM := HM.trans hm; clear hr hm; have c0 := HR.c0; have c1 := HR.c1; have f1 := HR.f1)
              | (go_at_call 72; (with_reducible refine (qAS HR hlt).mono ?_); rintro e w2 ⟨rfl, hr, hm⟩; replace HR := hr; replace HM := HM.trans hm; clear c0 c1 f1 hr hm; have c0 := HR.c0; have c1 := HR.c1; have f1 := HR.f1))
            go_loopw [5, 6, 7] (fun cv iv nv wr => ∃ (k : Nat) (b : Bool) (N : Int), j ≤ k ∧ k ≤ s.size ∧ RR wr r s k 0 0 ∧ cv = .int .u8 (bt s k) ∧ iv = .bool b ∧ Hid (b = decide (k < s.size)) ∧ nv = .int .i64 N ∧ Hid (N = qCX (qBW s (k - j) j 0)) ∧ 0 ≤ N ∧ N ≤ 9007199254740992 ∧ Hid (0 ≤ qBW s (k - j) j 0) ∧ Hid (qBX qBa s k = qBX qBa s j) ∧ Mv r w wr) (fun _ _ _ wr => s.size - qHW wr r)
            case atStart => exact ⟨j, true, 0, Nat.le_refl _, hjs, HR, rfl, rfl, Lib.hid (by simp [hlt]), rfl, Lib.hid (by rw [Nat.sub_self]; rfl), Int.le_refl _, by decide, Lib.hid (by rw [Nat.sub_self]; exact Int.le_refl _), Lib.hid rfl, HM⟩
            case round =>
              clear c0 c1 f1 HR HM; obtain ⟨k, b, N, hjk, hks, HR, rfl, rfl, HB, rfl, HN, hN0, hN1, HD, HO, HM⟩ := hrel; have c0 := HR.c0; have c1 := HR.c1; have f1 := HR.f1; have hat := HR.at; have e0 := bt_nonneg s k; have e1 := bt_le s k
              have fin : ¬ (k < s.size ∧ 48 ≤ bt s k ∧ bt s k ≤ 57) → (N > 9007199254740991 → qBo s i = .bad 5 i) ∧ (¬ N > 9007199254740991 → qBo s i = .ok (if true = true then -N else N) k) := fun hno => by
                have hk : qBX qBa s k = k := qBu (qFC hno); (have hke : qBO s j = k := by rw [HE.out, ← HO.out, hk]); (have hnv : qA2 s j = qBW s (k - j) j 0 := by unfold qA2; rw [hke]); have hco := qHU (qBW s (k - j) j 0); rw [← HN.out] at hco; refine ⟨fun hb => qIc hn.out hdj.out (by rw [hnv]; exact hco.1.1 hb), fun hb => ?_⟩; (have h2 : ¬ qBW s (k - j) j 0 > 9007199254740991 := fun hh => hb (hco.1.2 hh)); rw [qGx hn.out hdj.out (by rw [hnv]; exact h2), hnv, ← hco.2 h2, hke]
              have FIN := Lib.hid fin; clear fin; cases b
              · (have hno : ¬ k < s.size := by have := HB.out; simpa using this); have FIN2 := Lib.hid (FIN.out (fun hh => hno hh.1)); clear FIN
                by_cases hb : N > 9007199254740991
                · have HK := Lib.hid (FIN2.out.1 hb); clear FIN2
                  go_wp2_with (first
                    | (go_at_call 73; (with_reducible refine (qAj _ _ HR).mono ?_); rintro e w3 ⟨rfl, hr, hm⟩; clear c0 c1 f1; replace HR := hr; replace HM := HM.trans hm))
                  go_ret; exact qBL.bad HK.out HM rfl (by decide) HR
                · have HK := Lib.hid (FIN2.out.2 hb); clear FIN2; go_wp2; go_ret; exact qBL.ok HK.out HM rfl HR
              · have hlk : k < s.size := by have := HB.out; simpa using this
                by_cases g1 : 48 ≤ bt s k
                · by_cases g2 : bt s k ≤ 57
                  · have hst : Hid (qBW s (k + 1 - j) j 0 = 10 * qBW s (k - j) j 0 + (bt s k - 48)) := Lib.hid (by rw [show k + 1 - j = (k - j) + 1 by omega, qFV, show j + (k - j) = k by omega]); have hO : Hid (qBX qBa s (k + 1) = qBX qBa s j) := Lib.hid ((qCU hlk (qHb hlk g1 g2)).symm.trans HO.out); have hDn : Hid (0 ≤ qBW s (k + 1 - j) j 0) := Lib.hid (by rw [hst.out]; have := HD.out; omega); clear FIN
                    by_cases hbig : 10 * N + (bt s k - 48) > 9007199254740992
                    · have hcl : Hid (9007199254740992 = qCX (qBW s (k + 1 - j) j 0)) := Lib.hid (by rw [hst.out]; exact (qHi HN.out (by omega) hbig).symm)
                      by_cases hk1 : k + 1 < s.size
                      · go_wp2_with (first
              | ((with_reducible refine qAF ?_); refine qAl rfl (.tmp 83) (.tmp 81) rfl rfl (k + 1) (by rfl) HR ?_; intro w4 hr hm; clear c0 c1 f1; replace HR := hr; replace HM := HM.trans hm; clear hr hm; have c0 := HR.c0; have c1 := HR.c1; have f1 := HR.f1)
              | (go_at_call 72; (with_reducible refine (qAS HR hk1).mono ?_); rintro e w2 ⟨rfl, hr, hm⟩; replace HR := hr; replace HM := HM.trans hm; clear c0 c1 f1 hr hm; have c0 := HR.c0; have c1 := HR.c1; have f1 := HR.f1))
                        exact ⟨⟨k + 1, true, 9007199254740992, by omega, by omega, HR, rfl, rfl, Lib.hid (by simp [hk1]), rfl, hcl, by decide, by decide, hDn, hO, HM⟩, by rw [HR.at, hat]; omega⟩
                      · have hbe : Hid (bt s (k + 1) = 0) := Lib.hid (bt_end s (by omega))
                        go_wp2_with (first
              | ((with_reducible refine qAF ?_); refine qAl rfl (.tmp 83) (.tmp 81) rfl rfl (k + 1) (by rfl) HR ?_; intro w4 hr hm; clear c0 c1 f1; replace HR := hr; replace HM := HM.trans hm; clear hr hm; have c0 := HR.c0; have c1 := HR.c1; have f1 := HR.f1)
              | (go_at_call 72; (with_reducible refine (qBT HR hk1).mono ?_); rintro e w2 ⟨rfl, hr, hm⟩; replace HR := hr; replace HM := HM.trans hm; clear c0 c1 f1 hr hm; have c0 := HR.c0; have c1 := HR.c1; have f1 := HR.f1))
                        exact ⟨⟨k + 1, false, 9007199254740992, by omega, by omega, HR, by rw [hbe.out], rfl, Lib.hid (by simp [hk1]), rfl, hcl, by decide, by decide, hDn, hO, HM⟩, by rw [HR.at, hat]; omega⟩
                    · have hcl : Hid (10 * N + (bt s k - 48) = qCX (qBW s (k + 1 - j) j 0)) := Lib.hid (by rw [hst.out]; exact (qFl HN.out (by omega) hbig).symm)
                      by_cases hk1 : k + 1 < s.size
                      · go_wp2_with (first
              | ((with_reducible refine qAF ?_); refine qAl rfl (.tmp 83) (.tmp 81) rfl rfl (k + 1) (by rfl) HR ?_; intro w4 hr hm; clear c0 c1 f1; replace HR := hr; replace HM := HM.trans hm; clear hr hm; have c0 := HR.c0; have c1 := HR.c1; have f1 := HR.f1)
              | (go_at_call 72; (with_reducible refine (qAS HR hk1).mono ?_); rintro e w2 ⟨rfl, hr, hm⟩; replace HR := hr; replace HM := HM.trans hm; clear c0 c1 f1 hr hm; have c0 := HR.c0; have c1 := HR.c1; have f1 := HR.f1))
                        exact ⟨⟨k + 1, true, 10 * N + (bt s k - 48), by omega, by omega, HR, rfl, rfl, Lib.hid (by simp [hk1]), rfl, hcl, by omega, by omega, hDn, hO, HM⟩, by rw [HR.at, hat]; omega⟩
                      · have hbe : Hid (bt s (k + 1) = 0) := Lib.hid (bt_end s (by omega))
                        go_wp2_with (first
              | ((with_reducible refine qAF ?_); refine qAl rfl (.tmp 83) (.tmp 81) rfl rfl (k + 1) (by rfl) HR ?_; intro w4 hr hm; clear c0 c1 f1; replace HR := hr; replace HM := HM.trans hm; clear hr hm; have c0 := HR.c0; have c1 := HR.c1; have f1 := HR.f1)
              | (go_at_call 72; (with_reducible refine (qBT HR hk1).mono ?_); rintro e w2 ⟨rfl, hr, hm⟩; replace HR := hr; replace HM := HM.trans hm; clear c0 c1 f1 hr hm; have c0 := HR.c0; have c1 := HR.c1; have f1 := HR.f1))
                        exact ⟨⟨k + 1, false, 10 * N + (bt s k - 48), by omega, by omega, HR, by rw [hbe.out], rfl, Lib.hid (by simp [hk1]), rfl, hcl, by omega, by omega, hDn, hO, HM⟩, by rw [HR.at, hat]; omega⟩
                  · have FIN2 := Lib.hid (FIN.out (fun hh => g2 hh.2.2)); clear FIN
                    by_cases hb : N > 9007199254740991
                    · have HK := Lib.hid (FIN2.out.1 hb); clear FIN2
                      go_wp2_with (first
                        | (go_at_call 73; (with_reducible refine (qAj _ _ HR).mono ?_); rintro e w3 ⟨rfl, hr, hm⟩; clear c0 c1 f1; replace HR := hr; replace HM := HM.trans hm))
                      go_ret; exact qBL.bad HK.out HM rfl (by decide) HR
                    · have HK := Lib.hid (FIN2.out.2 hb); clear FIN2; go_wp2; go_ret; exact qBL.ok HK.out HM rfl HR
                · have FIN2 := Lib.hid (FIN.out (fun hh => g1 hh.2.1)); clear FIN
                  by_cases hb : N > 9007199254740991
                  · have HK := Lib.hid (FIN2.out.1 hb); clear FIN2
                    go_wp2_with (first
                      | (go_at_call 73; (with_reducible refine (qAj _ _ HR).mono ?_); rintro e w3 ⟨rfl, hr, hm⟩; clear c0 c1 f1; replace HR := hr; replace HM := HM.trans hm))
                    go_ret; exact qBL.bad HK.out HM rfl (by decide) HR
                  · have HK := Lib.hid (FIN2.out.2 hb); clear FIN2; go_wp2; go_ret; exact qBL.ok HK.out HM rfl HR
        · have HK := Lib.hid (qDR hn.out (qFC (fun hh => d2 hh.2.2))); go_enter Tryz.func75, Tryz.ntmps75; go_wp2
          go_quiet (fail)
          replace HR := HR.drewN nq; replace HM := HM.trans (qAr r _ nq); generalize hwq : World.drewN _ nq = wq at *; clear c0 c1 f1 hwq; have c0 := HR.c0; have c1 := HR.c1; have f1 := HR.f1
          go_wp2_with (first
            | ((with_reducible refine qAF ?_); refine qAl rfl (.tmp 29) (.tmp 27) rfl rfl j (by rw [HJ.out]; rfl) HR ?_; intro w4 hr hm; clear c0 c1 f1; replace HR := hr; replace HM := HM.trans hm; clear hr hm; have c0 := HR.c0; have c1 := HR.c1; have f1 := HR.f1)
            | (go_at_call 72; (with_reducible refine (qAS HR hlt).mono ?_); rintro e w2 ⟨rfl, hr, hm⟩; replace HR := hr; replace HM := HM.trans hm; clear c0 c1 f1 hr hm; have c0 := HR.c0; have c1 := HR.c1; have f1 := HR.f1)
            | (go_at_call 73; (with_reducible refine (qAj _ _ HR).mono ?_); rintro e w3 ⟨rfl, hr, hm⟩; clear c0 c1 f1; replace HR := hr; replace HM := HM.trans hm))
          go_ret; exact qBL.bad HK.out HM rfl (by decide) HR
      · have HK := Lib.hid (qDR hn.out (qFC (fun hh => d1 hh.2.1))); go_enter Tryz.func75, Tryz.ntmps75; go_wp2
        go_quiet (fail)
        replace HR := HR.drewN nq; replace HM := HM.trans (qAr r _ nq); generalize hwq : World.drewN _ nq = wq at *; clear c0 c1 f1 hwq; have c0 := HR.c0; have c1 := HR.c1; have f1 := HR.f1
        go_wp2_with (first
          | ((with_reducible refine qAF ?_); refine qAl rfl (.tmp 29) (.tmp 27) rfl rfl j (by rw [HJ.out]; rfl) HR ?_; intro w4 hr hm; clear c0 c1 f1; replace HR := hr; replace HM := HM.trans hm; clear hr hm; have c0 := HR.c0; have c1 := HR.c1; have f1 := HR.f1)
          | (go_at_call 72; (with_reducible refine (qAS HR hlt).mono ?_); rintro e w2 ⟨rfl, hr, hm⟩; replace HR := hr; replace HM := HM.trans hm; clear c0 c1 f1 hr hm; have c0 := HR.c0; have c1 := HR.c1; have f1 := HR.f1)
          | (go_at_call 73; (with_reducible refine (qAj _ _ HR).mono ?_); rintro e w3 ⟨rfl, hr, hm⟩; clear c0 c1 f1; replace HR := hr; replace HM := HM.trans hm))
        go_ret; exact qBL.bad HK.out HM rfl (by decide) HR
    · have HK := Lib.hid (qDR hn.out (qFC (fun hh => hlt hh.1))); go_enter Tryz.func75, Tryz.ntmps75; go_wp2
      go_quiet (fail)
      replace HR := HR.drewN nq; replace HM := HM.trans (qAr r _ nq); generalize hwq : World.drewN _ nq = wq at *; clear c0 c1 f1 hwq; have c0 := HR.c0; have c1 := HR.c1; have f1 := HR.f1
      go_wp2_with (first
        | ((with_reducible refine qAF ?_); refine qAl rfl (.tmp 29) (.tmp 27) rfl rfl j (by rw [HJ.out]; rfl) HR ?_; intro w4 hr hm; clear c0 c1 f1; replace HR := hr; replace HM := HM.trans hm; clear hr hm; have c0 := HR.c0; have c1 := HR.c1; have f1 := HR.f1)
        | (go_at_call 72; (with_reducible refine (qBT HR hlt).mono ?_); rintro e w2 ⟨rfl, hr, hm⟩; replace HR := hr; replace HM := HM.trans hm; clear c0 c1 f1 hr hm; have c0 := HR.c0; have c1 := HR.c1; have f1 := HR.f1)
        | (go_at_call 73; (with_reducible refine (qAj _ _ HR).mono ?_); rintro e w3 ⟨rfl, hr, hm⟩; clear c0 c1 f1; replace HR := hr; replace HM := HM.trans hm))
      go_ret; exact qBL.bad HK.out HM rfl (by decide) HR
  · (have q45 : (bt s i == 45) = false := by simpa using h45); obtain ⟨j, hj⟩ : ∃ j, j = i := ⟨_, rfl⟩; have hn : Hid (qPK s i j false) := Lib.hid (.inr ⟨rfl, by rw [hpi]; exact h45, hj⟩); (have hjs : j ≤ s.size := by omega); subst hj; clear h45 hpi
    by_cases hlt : j < s.size
    · (have hjn : ¬ (j : Int) < 0 := by omega); (have hjl : (j : Int) < (s.size : Int) := by omega); have b0 := bt_nonneg s j; have b1 := bt_le s j
      by_cases d1 : 48 ≤ bt s j
      · by_cases d2 : bt s j ≤ 57
        · have hdj : Hid (qBa (pk s j) = true) := Lib.hid (qHb hlt d1 d2)
          by_cases hz : bt s j = 48
          · (have q48 : (bt s j == 48) = true := by rw [hz]; rfl); obtain ⟨hz1, hz2⟩ := qJJ ((qBh hlt).trans hz); have HK : Hid (qBo s j = .ok 0 (j + 1)) := Lib.hid (by rw [qGx hn.out hdj.out (by rw [hz2]; decide), hz1, hz2]; rfl); clear hz hz1 hz2; go_enter Tryz.func75, Tryz.ntmps75; go_wp2
            go_quiet (fail)
            replace HR := HR.drewN nq; replace HM := HM.trans (qAr r _ nq); generalize hwq : World.drewN _ nq = wq at *; clear c0 c1 f1 hwq; have c0 := HR.c0; have c1 := HR.c1; have f1 := HR.f1
            go_wp2_with (first
              | (go_at_call 72; (with_reducible refine (qAS HR hlt).mono ?_); rintro e w2 ⟨rfl, hr, hm⟩; replace HR := hr; replace HM := HM.trans hm; clear c0 c1 f1 hr hm; have c0 := HR.c0; have c1 := HR.c1; have f1 := HR.f1)
              | ((with_reducible refine qAF ?_); refine qAl rfl (.tmp 59) (.tmp 57) rfl rfl (j + 1) (by rfl) HR ?_; intro w4 hr hm; clear c0 c1 f1; replace HR := hr; replace HM := HM.trans hm; clear hr hm; have c0 := HR.c0; have c1 := HR.c1; have f1 := HR.f1))
            go_ret; exact qBL.ok HK.out HM rfl HR
          · (have q48 : (bt s j == 48) = false := by simpa using hz); have HE : Hid (qBO s j = qBX qBa s j) := Lib.hid (by unfold qBO; rw [if_neg (by rw [qBh hlt]; exact hz)]); clear hz; go_enter Tryz.func75, Tryz.ntmps75; go_wp2
            go_quiet (fail)
            replace HR := HR.drewN nq; replace HM := HM.trans (qAr r _ nq); generalize hwq : World.drewN _ nq = wq at *; clear c0 c1 f1 hwq; have c0 := HR.c0; have c1 := HR.c1; have f1 := HR.f1
            go_wp2_with (first
              | (go_at_call 72; (with_reducible refine (qAS HR hlt).mono ?_); rintro e w2 ⟨rfl, hr, hm⟩; replace HR := hr; replace HM := HM.trans hm; clear c0 c1 f1 hr hm; have c0 := HR.c0; have c1 := HR.c1; have f1 := HR.f1))
            go_loopw [5, 6, 7] (fun cv iv nv wr => ∃ (k : Nat) (b : Bool) (N : Int), j ≤ k ∧ k ≤ s.size ∧ RR wr r s k 0 0 ∧ cv = .int .u8 (bt s k) ∧ iv = .bool b ∧ Hid (b = decide (k < s.size)) ∧ nv = .int .i64 N ∧ Hid (N = qCX (qBW s (k - j) j 0)) ∧ 0 ≤ N ∧ N ≤ 9007199254740992 ∧ Hid (0 ≤ qBW s (k - j) j 0) ∧ Hid (qBX qBa s k = qBX qBa s j) ∧ Mv r w wr) (fun _ _ _ wr => s.size - qHW wr r)
            case atStart => exact ⟨j, true, 0, Nat.le_refl _, hjs, HR, rfl, rfl, Lib.hid (by simp [hlt]), rfl, Lib.hid (by rw [Nat.sub_self]; rfl), Int.le_refl _, by decide, Lib.hid (by rw [Nat.sub_self]; exact Int.le_refl _), Lib.hid rfl, HM⟩
            case round =>
              clear c0 c1 f1 HR HM; obtain ⟨k, b, N, hjk, hks, HR, rfl, rfl, HB, rfl, HN, hN0, hN1, HD, HO, HM⟩ := hrel; have c0 := HR.c0; have c1 := HR.c1; have f1 := HR.f1; have hat := HR.at; have e0 := bt_nonneg s k; have e1 := bt_le s k
              have fin : ¬ (k < s.size ∧ 48 ≤ bt s k ∧ bt s k ≤ 57) → (N > 9007199254740991 → qBo s j = .bad 5 j) ∧ (¬ N > 9007199254740991 → qBo s j = .ok (if false = true then -N else N) k) := fun hno => by
                have hk : qBX qBa s k = k := qBu (qFC hno); (have hke : qBO s j = k := by rw [HE.out, ← HO.out, hk]); (have hnv : qA2 s j = qBW s (k - j) j 0 := by unfold qA2; rw [hke]); have hco := qHU (qBW s (k - j) j 0); rw [← HN.out] at hco; refine ⟨fun hb => qIc hn.out hdj.out (by rw [hnv]; exact hco.1.1 hb), fun hb => ?_⟩; (have h2 : ¬ qBW s (k - j) j 0 > 9007199254740991 := fun hh => hb (hco.1.2 hh)); rw [qGx hn.out hdj.out (by rw [hnv]; exact h2), hnv, ← hco.2 h2, hke]
              have FIN := Lib.hid fin; clear fin; cases b
              · (have hno : ¬ k < s.size := by have := HB.out; simpa using this); have FIN2 := Lib.hid (FIN.out (fun hh => hno hh.1)); clear FIN
                by_cases hb : N > 9007199254740991
                · have HK := Lib.hid (FIN2.out.1 hb); clear FIN2
                  go_wp2_with (first
                    | (go_at_call 73; (with_reducible refine (qAj _ _ HR).mono ?_); rintro e w3 ⟨rfl, hr, hm⟩; clear c0 c1 f1; replace HR := hr; replace HM := HM.trans hm))
                  go_ret; exact qBL.bad HK.out HM rfl (by decide) HR
                · have HK := Lib.hid (FIN2.out.2 hb); clear FIN2; go_wp2; go_ret; exact qBL.ok HK.out HM rfl HR
              · have hlk : k < s.size := by have := HB.out; simpa using this
                by_cases g1 : 48 ≤ bt s k
                · by_cases g2 : bt s k ≤ 57
                  · have hst : Hid (qBW s (k + 1 - j) j 0 = 10 * qBW s (k - j) j 0 + (bt s k - 48)) := Lib.hid (by rw [show k + 1 - j = (k - j) + 1 by omega, qFV, show j + (k - j) = k by omega]); have hO : Hid (qBX qBa s (k + 1) = qBX qBa s j) := Lib.hid ((qCU hlk (qHb hlk g1 g2)).symm.trans HO.out); have hDn : Hid (0 ≤ qBW s (k + 1 - j) j 0) := Lib.hid (by rw [hst.out]; have := HD.out; omega); clear FIN
                    by_cases hbig : 10 * N + (bt s k - 48) > 9007199254740992
                    · have hcl : Hid (9007199254740992 = qCX (qBW s (k + 1 - j) j 0)) := Lib.hid (by rw [hst.out]; exact (qHi HN.out (by omega) hbig).symm)
                      by_cases hk1 : k + 1 < s.size
                      · go_wp2_with (first
              | ((with_reducible refine qAF ?_); refine qAl rfl (.tmp 83) (.tmp 81) rfl rfl (k + 1) (by rfl) HR ?_; intro w4 hr hm; clear c0 c1 f1; replace HR := hr; replace HM := HM.trans hm; clear hr hm; have c0 := HR.c0; have c1 := HR.c1; have f1 := HR.f1)
              | (go_at_call 72; (with_reducible refine (qAS HR hk1).mono ?_); rintro e w2 ⟨rfl, hr, hm⟩; replace HR := hr; replace HM := HM.trans hm; clear c0 c1 f1 hr hm; have c0 := HR.c0; have c1 := HR.c1; have f1 := HR.f1))
                        exact ⟨⟨k + 1, true, 9007199254740992, by omega, by omega, HR, rfl, rfl, Lib.hid (by simp [hk1]), rfl, hcl, by decide, by decide, hDn, hO, HM⟩, by rw [HR.at, hat]; omega⟩
                      · have hbe : Hid (bt s (k + 1) = 0) := Lib.hid (bt_end s (by omega))
                        go_wp2_with (first
              | ((with_reducible refine qAF ?_); refine qAl rfl (.tmp 83) (.tmp 81) rfl rfl (k + 1) (by rfl) HR ?_; intro w4 hr hm; clear c0 c1 f1; replace HR := hr; replace HM := HM.trans hm; clear hr hm; have c0 := HR.c0; have c1 := HR.c1; have f1 := HR.f1)
              | (go_at_call 72; (with_reducible refine (qBT HR hk1).mono ?_); rintro e w2 ⟨rfl, hr, hm⟩; replace HR := hr; replace HM := HM.trans hm; clear c0 c1 f1 hr hm; have c0 := HR.c0; have c1 := HR.c1; have f1 := HR.f1))
                        exact ⟨⟨k + 1, false, 9007199254740992, by omega, by omega, HR, by rw [hbe.out], rfl, Lib.hid (by simp [hk1]), rfl, hcl, by decide, by decide, hDn, hO, HM⟩, by rw [HR.at, hat]; omega⟩
                    · have hcl : Hid (10 * N + (bt s k - 48) = qCX (qBW s (k + 1 - j) j 0)) := Lib.hid (by rw [hst.out]; exact (qFl HN.out (by omega) hbig).symm)
                      by_cases hk1 : k + 1 < s.size
                      · go_wp2_with (first
              | ((with_reducible refine qAF ?_); refine qAl rfl (.tmp 83) (.tmp 81) rfl rfl (k + 1) (by rfl) HR ?_; intro w4 hr hm; clear c0 c1 f1; replace HR := hr; replace HM := HM.trans hm; clear hr hm; have c0 := HR.c0; have c1 := HR.c1; have f1 := HR.f1)
              | (go_at_call 72; (with_reducible refine (qAS HR hk1).mono ?_); rintro e w2 ⟨rfl, hr, hm⟩; replace HR := hr; replace HM := HM.trans hm; clear c0 c1 f1 hr hm; have c0 := HR.c0; have c1 := HR.c1; have f1 := HR.f1))
                        exact ⟨⟨k + 1, true, 10 * N + (bt s k - 48), by omega, by omega, HR, rfl, rfl, Lib.hid (by simp [hk1]), rfl, hcl, by omega, by omega, hDn, hO, HM⟩, by rw [HR.at, hat]; omega⟩
                      · have hbe : Hid (bt s (k + 1) = 0) := Lib.hid (bt_end s (by omega))
                        go_wp2_with (first
              | ((with_reducible refine qAF ?_); refine qAl rfl (.tmp 83) (.tmp 81) rfl rfl (k + 1) (by rfl) HR ?_; intro w4 hr hm; clear c0 c1 f1; replace HR := hr; replace HM := HM.trans hm; clear hr hm; have c0 := HR.c0; have c1 := HR.c1; have f1 := HR.f1)
              | (go_at_call 72; (with_reducible refine (qBT HR hk1).mono ?_); rintro e w2 ⟨rfl, hr, hm⟩; replace HR := hr; replace HM := HM.trans hm; clear c0 c1 f1 hr hm; have c0 := HR.c0; have c1 := HR.c1; have f1 := HR.f1))
                        exact ⟨⟨k + 1, false, 10 * N + (bt s k - 48), by omega, by omega, HR, by rw [hbe.out], rfl, Lib.hid (by simp [hk1]), rfl, hcl, by omega, by omega, hDn, hO, HM⟩, by rw [HR.at, hat]; omega⟩
                  · have FIN2 := Lib.hid (FIN.out (fun hh => g2 hh.2.2)); clear FIN
                    by_cases hb : N > 9007199254740991
                    · have HK := Lib.hid (FIN2.out.1 hb); clear FIN2
                      go_wp2_with (first
                        | (go_at_call 73; (with_reducible refine (qAj _ _ HR).mono ?_); rintro e w3 ⟨rfl, hr, hm⟩; clear c0 c1 f1; replace HR := hr; replace HM := HM.trans hm))
                      go_ret; exact qBL.bad HK.out HM rfl (by decide) HR
                    · have HK := Lib.hid (FIN2.out.2 hb); clear FIN2; go_wp2; go_ret; exact qBL.ok HK.out HM rfl HR
                · have FIN2 := Lib.hid (FIN.out (fun hh => g1 hh.2.1)); clear FIN
                  by_cases hb : N > 9007199254740991
                  · have HK := Lib.hid (FIN2.out.1 hb); clear FIN2
                    go_wp2_with (first
                      | (go_at_call 73; (with_reducible refine (qAj _ _ HR).mono ?_); rintro e w3 ⟨rfl, hr, hm⟩; clear c0 c1 f1; replace HR := hr; replace HM := HM.trans hm))
                    go_ret; exact qBL.bad HK.out HM rfl (by decide) HR
                  · have HK := Lib.hid (FIN2.out.2 hb); clear FIN2; go_wp2; go_ret; exact qBL.ok HK.out HM rfl HR
        · have HK := Lib.hid (qDR hn.out (qFC (fun hh => d2 hh.2.2))); go_enter Tryz.func75, Tryz.ntmps75; go_wp2
          go_quiet (fail)
          replace HR := HR.drewN nq; replace HM := HM.trans (qAr r _ nq); generalize hwq : World.drewN _ nq = wq at *; clear c0 c1 f1 hwq; have c0 := HR.c0; have c1 := HR.c1; have f1 := HR.f1
          go_wp2_with (first
            | (go_at_call 72; (with_reducible refine (qAS HR hlt).mono ?_); rintro e w2 ⟨rfl, hr, hm⟩; replace HR := hr; replace HM := HM.trans hm; clear c0 c1 f1 hr hm; have c0 := HR.c0; have c1 := HR.c1; have f1 := HR.f1)
            | (go_at_call 73; (with_reducible refine (qAj _ _ HR).mono ?_); rintro e w3 ⟨rfl, hr, hm⟩; clear c0 c1 f1; replace HR := hr; replace HM := HM.trans hm))
          go_ret; exact qBL.bad HK.out HM rfl (by decide) HR
      · have HK := Lib.hid (qDR hn.out (qFC (fun hh => d1 hh.2.1))); go_enter Tryz.func75, Tryz.ntmps75; go_wp2
        go_quiet (fail)
        replace HR := HR.drewN nq; replace HM := HM.trans (qAr r _ nq); generalize hwq : World.drewN _ nq = wq at *; clear c0 c1 f1 hwq; have c0 := HR.c0; have c1 := HR.c1; have f1 := HR.f1
        go_wp2_with (first
          | (go_at_call 72; (with_reducible refine (qAS HR hlt).mono ?_); rintro e w2 ⟨rfl, hr, hm⟩; replace HR := hr; replace HM := HM.trans hm; clear c0 c1 f1 hr hm; have c0 := HR.c0; have c1 := HR.c1; have f1 := HR.f1)
          | (go_at_call 73; (with_reducible refine (qAj _ _ HR).mono ?_); rintro e w3 ⟨rfl, hr, hm⟩; clear c0 c1 f1; replace HR := hr; replace HM := HM.trans hm))
        go_ret; exact qBL.bad HK.out HM rfl (by decide) HR
    · exact absurd hi hlt
end Go.Proofs.YtnjhmnolngdfaaaGreatDoor
