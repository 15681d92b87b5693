/- Layer 2, the document's reader (coveyref02): text. Layer 2, the document's reader (coveyref02): a row of values under way; list. -/
import Derived.Test.YtnjhmnolngdfaaaGreatDoorQ00
import Derived.Test.YtnjhmnolngdfaaaGreatDoorQ09
import Derived.Test.YtnjhmnolngdfaaaGreatDoorQ25
import Derived.Maps.AppendAt
import Derived.Test.YtnjhmnolngdfaaaGreatDoorQ01
import Derived.Test.YtnjhmnolngdfaaaGreatDoorQZip
set_option linter.unusedVariables false
set_option linter.unusedSimpArgs false
set_option maxHeartbeats 16000000
set_option maxRecDepth 100000
namespace Go.Proofs.YtnjhmnolngdfaaaGreatDoor
open Go.RowKit Go.PlainAid
theorem qM6 {s : ByteArray} {n k : Nat} {acc : List UInt8} (h : pk s k < 32) : qBM s (n + 1) k acc = .bad 3 k := by unfold qBM; rw [if_pos h]
theorem qPY {s : ByteArray} {n k : Nat} {acc : List UInt8} (h : pk s k = 34) : qBM s (n + 1) k acc = .ok ⟨acc.toArray⟩ (k + 1) := by unfold qBM; rw [if_neg (by omega), if_pos h]
theorem qJw {s : ByteArray} {n k : Nat} {acc : List UInt8} {c : Int} {p : Nat} (h : pk s k = 92) (hc : qA0 s (k + 1) = .bad c p) : qBM s (n + 1) k acc = .bad c p := by
  unfold qBM; rw [if_neg (by omega), if_neg (by omega), if_pos h, hc]
theorem qPe {s : ByteArray} {n k : Nat} {acc : List UInt8} {x : Int} {q : Nat} (h : pk s k = 92) (hc : qA0 s (k + 1) = .ok x q) : qBM s (n + 1) k acc = qBM s n q (acc ++ Lib.encodeRune x) := by
  conv => lhs; unfold qBM
  rw [if_neg (by omega), if_neg (by omega), if_pos h, hc]
theorem qOs {s : ByteArray} {n k : Nat} {acc : List UInt8} (h1 : ¬ pk s k < 32) (h2 : ¬ pk s k = 34) (h3 : ¬ pk s k = 92) (h4 : qDq s k) : qBM s (n + 1) k acc = .bad 7 k := by
  unfold qDq at h4; unfold qBM; rw [if_neg h1, if_neg h2, if_neg h3, if_pos h4]
theorem qPt {s : ByteArray} {n k : Nat} {acc : List UInt8} (h1 : ¬ pk s k < 32) (h2 : ¬ pk s k = 34) (h3 : ¬ pk s k = 92) (h4 : ¬ qDq s k) : qBM s (n + 1) k acc = qBM s n (k + (Utf8.decode s k).2) (acc ++ Lib.encodeRune ((Utf8.decode s k).1 : Nat)) := by
  unfold qDq at h4
  conv => lhs; unfold qBM
  rw [if_neg h1, if_neg h2, if_neg h3, if_neg h4]
theorem qN4 {s : ByteArray} {k : Nat} (h : ¬ qDq s k) : qDp ((Utf8.decode s k).1 : Int) := by
  rw [← Lib.decodeL_drop]; exact qIr _ (by rw [Lib.decodeL_drop]; exact h)
def qLk (s : ByteArray) (w : World) (r : Nat) : Nat := match w.cell? ⟨r, 2, none⟩ with
  | some (.int _ c) => if c = 0 then s.size + 1 - qHW w r else 0
  | _ => 0
theorem RR.rem {w : World} {r : Nat} {s : ByteArray} {i : Nat} {p : Int} (h : RR w r s i 0 p) : qLk s w r = s.size + 1 - i := by unfold qLk; rw [h.c2]; simp [h.at]
theorem RR.rem0 {w : World} {r : Nat} {s : ByteArray} {i : Nat} {c p : Int} (h : RR w r s i c p) (hc : c ≠ 0) : qLk s w r = 0 := by unfold qLk; rw [h.c2]; simp [hc]
theorem RR.bes {w w' : World} {r : Nat} {s : ByteArray} {i : Nat} {c p : Int} {X : Nat → Prop} (h : RR w r s i c p) (hb : Bes X w w') (hX : ¬ X r) : RR w' r s i c p := Bes.box hb h hX
def TxL (s : ByteArray) (r i base : Nat) (bv : Value) (wr : World) : Prop :=
  (∃ k n acc, k ≤ s.size ∧ RR wr r s k 0 0 ∧ qCg wr base bv acc ∧ s.size < k + n ∧ acc.length ≤ 4 * k ∧ Hid (qBM s n k acc = qBK s i)) ∨
  (∃ c p i', RR wr r s i' c (p : Nat) ∧ c ≠ 0 ∧ qBK s i = .bad c p)
theorem TxL.good {s : ByteArray} {r i base k n : Nat} {acc : List UInt8} {bv : Value} {wr : World} (hk : k ≤ s.size) (HR : RR wr r s k 0 0) (HO : qCg wr base bv acc) (hn : s.size < k + n) (hal : acc.length ≤ 4 * k) (HS : Hid (qBM s n k acc = qBK s i)) : TxL s r i base bv wr := .inl ⟨k, n, acc, hk, HR, HO, hn, hal, HS⟩
theorem TxL.amiss {s : ByteArray} {r i base p i' : Nat} {c : Int} {bv : Value} {wr : World} (HR : RR wr r s i' c p) (hc : c ≠ 0) (h : qBK s i = .bad c p) : TxL s r i base bv wr := .inr ⟨c, p, i', HR, hc, h⟩
abbrev qQS (t : ByteArray) (e : Ending) (_ : World) : Prop := e = .returned (.string t)
abbrev qQX (e : Ending) : Prop := e = .returned (.string ⟨#[]⟩)
theorem Mv.ext {r base : Nat} {w a b : World} (h : Mv r w a) (hb : Bes (fun q => base ≤ q) a b) (hB : w.heap.size ≤ base) : Mv r w b := Bes.trans h hb (fun _ x => x) (fun i hi x => by have : base ≤ i := x; omega)
theorem qPJ (x : Int) : Lib.runeCells x = Lib.byteCells (Lib.encodeRune x) := (Lib.byteCells_encodeRune x).symm
theorem qCu {w : World} {r : Nat} {s : ByteArray} {i : Nat} (h : RR w r s i 0 0) (hi : i < s.size) (hs : s.size ≤ 65536) :
    Calls Tryz.prog 76 #[At r] w (qBL (qBK s i) r s w qQS qQX) := by
  have HR := h; have HM := Mv.refl r w; have hrw := HR.lt; have c0 := HR.c0; have c1 := HR.c1; have f1 := HR.f1; have c2 := HR.c2; obtain ⟨j, hj⟩ : ∃ j, j = i + 1 := ⟨_, rfl⟩; have HJ := Lib.hid hj; (have hjs : j ≤ s.size := by omega); have HT : Hid (qBK s i = qBM s (s.size + 1) j []) := Lib.hid (by rw [hj]; rfl); clear hj; go_enter Tryz.func76, Tryz.ntmps76
  go_wp2_with (first
    | ((with_reducible refine qAF ?_); refine qAl rfl (.tmp 14) (.tmp 12) rfl rfl j (by rw [HJ.out]; rfl) HR ?_; intro w4 hr hm; clear c0 c1 f1 c2; replace HR := hr; replace HM := HM.trans hm; clear hr hm; have c0 := HR.c0; have c1 := HR.c1; have f1 := HR.f1; have c2 := HR.c2))
  go_loopw [3] (fun bv wr => Mv r w wr ∧ TxL s r i w.heap.size bv wr) (fun _ wr => qLk s wr r)
  case atStart => exact ⟨HM, TxL.good hjs HR (qCg.nil _ _) (Nat.lt_succ_of_le (Nat.le_add_left _ _)) (Nat.zero_le _) (Lib.hid HT.out.symm)⟩
  case round =>
    clear c0 c1 f1 c2 HR HM; obtain ⟨HM, hrel⟩ := hrel; have hwz := HM.size; rcases hrel with ⟨k, n, acc, hk, HR, HO, hkn, hal, HS⟩ | ⟨c, p, i2, HR, hc, hbad⟩
    · have c0 := HR.c0; have c1 := HR.c1; have f1 := HR.f1; have c2 := HR.c2; have hrem := Lib.hid HR.rem; obtain ⟨n2, hn2⟩ : ∃ n2, n = n2 + 1 := ⟨n - 1, by omega⟩; subst hn2
      by_cases hlt : k < s.size
      · have b0 := bt_nonneg s k; have b1 := bt_le s k; have hpk := qBh hlt
        by_cases h32 : bt s k < 32
        · have HK := Lib.hid (HS.out.symm.trans (qM6 (n := n2) (acc := acc) (by rw [hpk]; exact h32))); clear hpk
          go_wp2_with (first
            | (go_at_call 72; (with_reducible refine (qAS HR hlt).mono ?_); rintro e w2 ⟨rfl, hr, hm⟩; replace HR := hr; replace HM := HM.trans hm; clear c0 c1 f1 c2 hr hm; have c0 := HR.c0; have c1 := HR.c1; have f1 := HR.f1; have c2 := HR.c2)
            | (go_at_call 73; (with_reducible refine (qAj _ _ HR).mono ?_); rintro e w3 ⟨rfl, hr, hm⟩; clear c0 c1 f1 c2; replace HR := hr; replace HM := HM.trans hm; have c0 := HR.c0; have c1 := HR.c1; have f1 := HR.f1; have c2 := HR.c2))
          go_roundw
          case rel => exact ⟨HM, TxL.amiss HR (by decide) HK.out⟩
          case measure => rw [HR.rem0 (by decide), hrem.out]; omega
        · obtain ⟨k2, hk2⟩ : ∃ k2, k2 = k + 1 := ⟨_, rfl⟩; (have hk2s : k2 ≤ s.size := by omega); (have hk2k : k < k2 := by omega); have HK2 := Lib.hid hk2; have HK3 := Lib.hid (show k2 = k + 1 from hk2).symm
          by_cases h34 : bt s k = 34
          · (have q34 : (bt s k == 34) = true := by rw [h34]; rfl); have HK : Hid (qBK s i = .ok ⟨acc.toArray⟩ k2) := Lib.hid (by rw [hk2]; exact HS.out.symm.trans (qPY (n := n2) (hpk.trans h34))); clear hpk hk2 h34
            go_wp2_with (first
              | (go_at_call 72; (with_reducible refine (qAS HR hlt).mono ?_); rintro e w2 ⟨rfl, hr, hm⟩; replace HR := hr; replace HM := HM.trans hm; replace HO := HO.bes hm (fun q e => by have e2 : q = r := e; omega); clear c0 c1 f1 c2 hr hm; have c0 := HR.c0; have c1 := HR.c1; have f1 := HR.f1; have c2 := HR.c2)
              | ((with_reducible refine qAF ?_); refine qAl rfl (.tmp 81) (.tmp 79) rfl rfl k2 (by rw [HK2.out]; rfl) HR ?_; intro w4 hr hm; clear c0 c1 f1 c2; replace HO := HO.bes hm (fun q e => by have e2 : q = r := e; omega); replace HR := hr; replace HM := HM.trans hm; clear hr hm; have c0 := HR.c0; have c1 := HR.c1; have f1 := HR.f1; have c2 := HR.c2)
              | ((with_reducible refine qCQ ?_); refine qB7 rfl (.tmp 82) 46 9 rfl Tryz.underlying46 Tryz.underlying9 w.heap.size _ acc rfl HO ?_))
            refine bodyPost_ret (results_tmp rfl _ _ _) rfl ?_; exact qBL.ok HK.out HM rfl HR
          · have q34 : (bt s k == 34) = false := by simpa using h34
            by_cases h92 : bt s k = 92
            · (have q92 : (bt s k == 92) = true := by rw [h92]; rfl); have hp92 := hpk.trans h92; (have hka : ((k2 : Nat) : Int) - 1 = (k : Int) := by omega); have HKA := Lib.hid hka; clear hka h92 hpk
              cases ho : qA0 s k2 with
              | bad c p =>
                have HK : Hid (qBK s i = .bad c p) := Lib.hid (HS.out.symm.trans (qJw (n := n2) hp92 (by rw [← hk2]; exact ho))); have hk2' := HK3.out; have HOO := Lib.hid ho; clear ho hp92 hk2
                go_wp2_with (first
                  | (go_at_call 72; (with_reducible refine (qAS HR hlt).mono ?_); rintro e w2 ⟨rfl, hr, hm⟩; replace HR := hr; replace HM := HM.trans hm; replace HO := HO.bes hm (fun q e => by have e2 : q = r := e; omega); clear c0 c1 f1 c2 hr hm; have c0 := HR.c0; have c1 := HR.c1; have f1 := HR.f1; have c2 := HR.c2)
                  | ((with_reducible refine qAF ?_); refine qAl rfl (.tmp 93) (.tmp 91) rfl rfl k2 (by rw [HK2.out]; rfl) HR ?_; intro w4 hr hm; clear c0 c1 f1 c2; replace HO := HO.bes hm (fun q e => by have e2 : q = r := e; omega); replace HR := hr; replace HM := HM.trans hm; clear hr hm; have c0 := HR.c0; have c1 := HR.c1; have f1 := HR.f1; have c2 := HR.c2)
                  | (go_at_call 92; (with_reducible refine (qJB HR hk2s hs HK3.out HKA.out).mono ?_); rw [HOO.out]; rintro e w5 ⟨hm, rfl, hc, i3, hr⟩; have HC := Lib.hid hc; clear hc c0 c1 f1 c2; replace HR := hr; replace HO := HO.bes hm (fun q e => by have e2 : q = r := e; omega); replace HM := HM.trans hm; clear hr hm; have c0 := HR.c0; have c1 := HR.c1; have f1 := HR.f1; have c2 := HR.c2)
                  | (refine qFM rfl (.tmp 94) (.tmp 101) 46 rfl Tryz.underlying46 w.heap.size _ acc rfl HO rfl ?_))
                go_roundw
                case rel => exact ⟨HM, TxL.amiss HR HC.out HK.out⟩
                case measure => rw [HR.rem0 HC.out, hrem.out]; omega
              | ok x q =>
                have HS2 : Hid (qBM s n2 q (acc ++ Lib.encodeRune x) = qBK s i) := Lib.hid (by rw [← HS.out]; exact (qPe hp92 (by rw [← hk2]; exact ho)).symm); have hg := qCT x q ho; have hl4 := Lib.runeCells_le x; rw [Lib.runeCells_length] at hl4; have HOO := Lib.hid ho; have hq1 : k2 < q := hg.1; have hq2 : q ≤ s.size := hg.2; clear ho hp92 hk2 hg
                go_wp2_with (first
                  | (go_at_call 72; (with_reducible refine (qAS HR hlt).mono ?_); rintro e w2 ⟨rfl, hr, hm⟩; replace HR := hr; replace HM := HM.trans hm; replace HO := HO.bes hm (fun q e => by have e2 : q = r := e; omega); clear c0 c1 f1 c2 hr hm; have c0 := HR.c0; have c1 := HR.c1; have f1 := HR.f1; have c2 := HR.c2)
                  | ((with_reducible refine qAF ?_); refine qAl rfl (.tmp 93) (.tmp 91) rfl rfl k2 (by rw [HK2.out]; rfl) HR ?_; intro w4 hr hm; clear c0 c1 f1 c2; replace HO := HO.bes hm (fun q e => by have e2 : q = r := e; omega); replace HR := hr; replace HM := HM.trans hm; clear hr hm; have c0 := HR.c0; have c1 := HR.c1; have f1 := HR.f1; have c2 := HR.c2)
                  | (go_at_call 92; (with_reducible refine (qJB HR hk2s hs HK3.out HKA.out).mono ?_); rw [HOO.out]; rintro e w5 ⟨hm, ⟨g, hg, rfl, hI⟩, hr⟩; clear c0 c1 f1 c2; replace HR := hr; replace HO := HO.bes hm (fun q e => by have e2 : q = r := e; omega); replace HM := HM.trans hm; have hms := HM.size; clear hr hm; have c0 := HR.c0; have c1 := HR.c1; have f1 := HR.f1; have c2 := HR.c2)
                  | (refine qDJ rfl (.tmp 94) (.tmp 101) 46 rfl Tryz.underlying46 w.heap.size _ acc rfl HO g _ (Lib.encodeRune x) 5 _ (Lib.runeCells_length x) rfl (fun j u hu => by rw [hI.cell, qPJ]; simpa using hu) (by omega) hms ?_; intro v9 w9 ho9 hb9 _; replace HR := HR.bes hb9 (by omega); replace HM := HM.ext hb9 (Nat.le_refl _); clear hI hb9 c0 c1 f1 c2; replace HO := ho9; clear ho9; have c0 := HR.c0; have c1 := HR.c1; have f1 := HR.f1; have c2 := HR.c2))
                go_roundw
                case rel => exact ⟨HM, TxL.good hq2 HR HO (by omega) (by simp; omega) HS2⟩
                case measure => rw [HR.rem, hrem.out]; omega
            · (have q92 : (bt s k == 92) = false := by simpa using h92); (have hkr : s.size ≤ 140737488355328 := by omega); have hA := qIb hlt hkr; (have HKB : Hid (qDq s k → qBK s i = .bad 7 k) := Lib.hid fun hh => HS.out.symm.trans (qOs (by rw [hpk]; exact h32) (by rw [hpk]; exact h34) (by rw [hpk]; exact h92) hh)); (have HKG : Hid (¬ qDq s k → qBM s n2 (k + (Utf8.decode s k).2) (acc ++ Lib.encodeRune ((Utf8.decode s k).1 : Nat)) = qBK s i) := Lib.hid fun hh => by rw [← HS.out]; exact (qPt (by rw [hpk]; exact h32) (by rw [hpk]; exact h34) (by rw [hpk]; exact h92) hh).symm); have hdb := qB8 s k hlt; clear hpk h34 h92 hk2
              by_cases hbu : qDq s k
              · have HK := Lib.hid (HKB.out hbu); have HA := Lib.hid (qID hbu); have HAT := Lib.hid hA; clear hA hbu HKB HKG hdb
                go_wp2_with (first
                  | (go_at_call 72; (with_reducible refine (qAS HR hlt).mono ?_); rintro e w2 ⟨rfl, hr, hm⟩; replace HR := hr; replace HM := HM.trans hm; replace HO := HO.bes hm (fun q e => by have e2 : q = r := e; omega); clear c0 c1 f1 c2 hr hm; have c0 := HR.c0; have c1 := HR.c1; have f1 := HR.f1; have c2 := HR.c2))
                refine qAc (by kernel_rfl) (fun w8 hHeld => ?_); refine TKC 0 27 rfl ?_; (try simp only [Act.put, zA, zB, zC]); refine TKC 1 28 rfl ?_; (try simp only [Act.put, zA, zB, zC]); refine TKC 2 29 rfl ?_; (try simp only [Act.put, zA, zB, zC]); refine TKB 3 30 ?_ rfl ?_ ?_; rotate_left
                · (intro w hSw; (try dsimp only at hSw); have := qAB hSw c0; go_simp; try with_reducible rfl)
                (try simp only [Act.put, zA, zB, zC]); refine TKC 4 31 rfl ?_; (try simp only [Act.put, zA, zB, zC]); refine TKC 5 32 rfl ?_; (try simp only [Act.put, zA, zB, zC]); refine TKC 6 33 rfl ?_; (try simp only [Act.put, zA, zB, zC]); refine TKB 7 34 ?_ rfl ?_ ?_; rotate_left
                · (intro w hSw; (try dsimp only at hSw); have := qAB hSw c1; go_simp; try with_reducible rfl)
                (try simp only [Act.put, zA, zB, zC]); refine wpAnyH_ready (rs := [8]) (by kernel_rfl) (by simp) ?_; refine AllReadyH.cons (o := ⟨some 35, _, _, _, _, _⟩) rfl (fun K hK => ?_) AllReadyH.nil; go_simp
                (go_at_call 91; (with_reducible refine (HAT.out _).mono ?_); rintro e w9 ⟨rfl, hb3⟩; rw [HA.out])
                refine hK.out _ _ (zT hHeld hb3) (fun hHeld2 => ?_); clear hK K hHeld hb3; have hHeld := hHeld2; clear hHeld2; (try simp only [Act.put, zA, zB, zC]); refine TKC 9 26 rfl ?_; (try simp only [Act.put, zA, zB, zC]); refine TKC 10 36 rfl ?_; (try simp only [Act.put, zA, zB, zC]); refine TKC 11 37 rfl ?_; (try simp only [Act.put, zA, zB, zC]); refine TKC 12 6 rfl ?_; (try simp only [Act.put, zA, zB, zC]); refine TKC 13 7 rfl ?_; (try simp only [Act.put, zA, zB, zC]); refine wpAnyH_done (by kernel_rfl) ?_ _; have hb8 := hHeld; clear hHeld; replace HR := HR.below hb8; replace HO := HO.below hb8; replace HM := HM.trans (Mv.of hb8); clear hb8 c0 c1 f1 c2; have c0 := HR.c0; have c1 := HR.c1; have f1 := HR.f1; have c2 := HR.c2
                
                go_wp2_with (first
                  | (go_at_call 73; (with_reducible refine (qAj _ _ HR).mono ?_); rintro e w3 ⟨rfl, hr, hm⟩; clear c0 c1 f1 c2; replace HR := hr; replace HM := HM.trans hm; have c0 := HR.c0; have c1 := HR.c1; have f1 := HR.f1; have c2 := HR.c2))
                go_ret; exact qBL.bad HK.out HM rfl (by decide) HR
              · have HSC := Lib.hid (qN4 hbu); have HS2 := Lib.hid (HKG.out hbu); have hat := qJS hbu; obtain ⟨D1, D2, hD⟩ : ∃ D1 D2, Utf8.decode s k = (D1, D2) := ⟨_, _, rfl⟩; rw [hD] at hat hdb HS2 HSC; have HA := Lib.hid hat; have HAT := Lib.hid hA; have hd0 : 0 < D2 := hdb.1; have hdl : k + D2 ≤ s.size := hdb.2; have hl4 := Lib.runeCells_le (D1 : Int); rw [Lib.runeCells_length] at hl4; obtain ⟨k4, hk4⟩ : ∃ k4, k4 = k + D2 := ⟨_, rfl⟩; have HK4 := Lib.hid hk4; (have hk4a : k < k4 := by omega); (have hk4b : k4 ≤ s.size := by omega); (have hd1 : ¬ (D2 : Int) = 0 := by omega); clear hA hat hD hbu HKB HKG hdb hk4
                go_wp2_with (first
                  | (go_at_call 72; (with_reducible refine (qAS HR hlt).mono ?_); rintro e w2 ⟨rfl, hr, hm⟩; replace HR := hr; replace HM := HM.trans hm; replace HO := HO.bes hm (fun q e => by have e2 : q = r := e; omega); clear c0 c1 f1 c2 hr hm; have c0 := HR.c0; have c1 := HR.c1; have f1 := HR.f1; have c2 := HR.c2))
                refine qAc (by kernel_rfl) (fun w8 hHeld => ?_); refine TKC 0 27 rfl ?_; (try simp only [Act.put, zA, zB, zC]); refine TKC 1 28 rfl ?_; (try simp only [Act.put, zA, zB, zC]); refine TKC 2 29 rfl ?_; (try simp only [Act.put, zA, zB, zC]); refine TKB 3 30 ?_ rfl ?_ ?_; rotate_left
                · (intro w hSw; (try dsimp only at hSw); have := qAB hSw c0; go_simp; try with_reducible rfl)
                (try simp only [Act.put, zA, zB, zC]); refine TKC 4 31 rfl ?_; (try simp only [Act.put, zA, zB, zC]); refine TKC 5 32 rfl ?_; (try simp only [Act.put, zA, zB, zC]); refine TKC 6 33 rfl ?_; (try simp only [Act.put, zA, zB, zC]); refine TKB 7 34 ?_ rfl ?_ ?_; rotate_left
                · (intro w hSw; (try dsimp only at hSw); have := qAB hSw c1; go_simp; try with_reducible rfl)
                (try simp only [Act.put, zA, zB, zC]); refine wpAnyH_ready (rs := [8]) (by kernel_rfl) (by simp) ?_; refine AllReadyH.cons (o := ⟨some 35, _, _, _, _, _⟩) rfl (fun K hK => ?_) AllReadyH.nil; go_simp
                (go_at_call 91; (with_reducible refine (HAT.out _).mono ?_); rintro e w9 ⟨rfl, hb3⟩; rw [HA.out])
                refine hK.out _ _ (zT hHeld hb3) (fun hHeld2 => ?_); clear hK K hHeld hb3; have hHeld := hHeld2; clear hHeld2; (try simp only [Act.put, zA, zB, zC]); refine TKC 9 26 rfl ?_; (try simp only [Act.put, zA, zB, zC]); refine TKC 10 36 rfl ?_; (try simp only [Act.put, zA, zB, zC]); refine TKC 11 37 rfl ?_; (try simp only [Act.put, zA, zB, zC]); refine TKC 12 6 rfl ?_; (try simp only [Act.put, zA, zB, zC]); refine TKC 13 7 rfl ?_; (try simp only [Act.put, zA, zB, zC]); refine wpAnyH_done (by kernel_rfl) ?_ _; have hb8 := hHeld; clear hHeld; replace HR := HR.below hb8; replace HO := HO.below hb8; replace HM := HM.trans (Mv.of hb8); clear hb8 c0 c1 f1 c2; have c0 := HR.c0; have c1 := HR.c1; have f1 := HR.f1; have c2 := HR.c2
                
                go_wp2_with (first
                  | (go_at_call 93; (refine (qBn HSC.out _).mono ?_); rintro e w6 ⟨g, hg, rfl, hI, hb⟩; replace HR := HR.below hb; replace HO := HO.below hb; replace HM := HM.trans (Mv.of hb); have hms := HM.size; clear hb c0 c1 f1 c2; have c0 := HR.c0; have c1 := HR.c1; have f1 := HR.f1; have c2 := HR.c2)
                  | (refine qDJ rfl (.tmp 46) (.tmp 48) 46 rfl Tryz.underlying46 w.heap.size _ acc rfl HO g _ (Lib.encodeRune D1) 5 _ (Lib.runeCells_length D1) rfl (fun j u hu => by rw [hI.cell, qPJ]; simpa using hu) (by omega) hms ?_; intro v9 w9 ho9 hb9 _; replace HR := HR.bes hb9 (by omega); replace HM := HM.ext hb9 (Nat.le_refl _); clear hI hb9 c0 c1 f1 c2; replace HO := ho9; clear ho9; have c0 := HR.c0; have c1 := HR.c1; have f1 := HR.f1; have c2 := HR.c2)
                  | ((with_reducible refine qAF ?_); refine qAl rfl (.tmp 58) (.tmp 56) rfl rfl k4 (by rw [HK4.out]; rfl) HR ?_; intro w4 hr hm; clear c0 c1 f1 c2; replace HO := HO.bes hm (fun q e => by have e2 : q = r := e; omega); replace HR := hr; replace HM := HM.trans hm; clear hr hm; have c0 := HR.c0; have c1 := HR.c1; have f1 := HR.f1; have c2 := HR.c2))
                simp only [Act.put, List.setIfInBounds_toArray, List.set_cons_zero, List.set_cons_succ]; go_roundw
                case rel => exact ⟨HM, TxL.good (n := n2) hk4b HR HO (by omega) (by simp; omega) (by rw [HK4.out]; exact HS2)⟩
                case measure => rw [HR.rem, hrem.out]; omega
      · have HK := Lib.hid (HS.out.symm.trans (qM6 (n := n2) (acc := acc) (by rw [qBb (by omega)]; decide)))
        go_wp2_with (first
          | (go_at_call 72; (with_reducible refine (qBT HR hlt).mono ?_); rintro e w2 ⟨rfl, hr, hm⟩; replace HR := hr; replace HM := HM.trans hm; clear c0 c1 f1 c2 hr hm; have c0 := HR.c0; have c1 := HR.c1; have f1 := HR.f1; have c2 := HR.c2)
          | (go_at_call 73; (with_reducible refine (qAj _ _ HR).mono ?_); rintro e w3 ⟨rfl, hr, hm⟩; clear c0 c1 f1 c2; replace HR := hr; replace HM := HM.trans hm; have c0 := HR.c0; have c1 := HR.c1; have f1 := HR.f1; have c2 := HR.c2))
        go_roundw
        case rel => exact ⟨HM, TxL.amiss HR (by decide) HK.out⟩
        case measure => rw [HR.rem0 (by decide), hrem.out]; omega
    · have c0 := HR.c0; have c1 := HR.c1; have f1 := HR.f1; have c2 := HR.c2; have HC := Lib.hid hc; (have q0 : (c == 0) = false := by simpa using hc); have HK := Lib.hid hbad; clear hc hbad; go_wp2; go_ret; exact qBL.bad HK.out HM rfl HC.out HR
end Go.Proofs.YtnjhmnolngdfaaaGreatDoor
namespace Go.Proofs.YtnjhmnolngdfaaaGreatDoor
open Go.RowKit Go.PlainAid
def RvV (w : World) (t : JT) (e : Ending) (w' : World) : Prop := ∃ j, e = .returned (.agg j.cells) ∧ qAi w' j ∧ er j = t ∧ Off (fun q => q < w.heap.size) j
def RvN (e : Ending) : Prop := ∃ j : JV, e = .returned (.agg j.cells)
def qIP (d : Nat) : Prop := ∀ {w : World} {r : Nat} {s : ByteArray} {i : Nat}, RR w r s i 0 0 → i ≤ s.size → s.size ≤ 65536 → Calls Tryz.prog 51 #[At r, .int .i64 (32 - (d : Int))] w (qBL (qAJ s d i) r s w (RvV w) RvN)
theorem qIP.at {d : Nat} (h : qIP d) {w : World} {r : Nat} {s : ByteArray} {i : Nat} (h1 : RR w r s i 0 0) (h3 : i ≤ s.size) (h4 : s.size ≤ 65536) : Calls Tryz.prog 51 #[At r, .int .i64 (32 - (d : Int))] w (qBL (qAJ s d i) r s w (RvV w) RvN) := h h1 h3 h4
structure RK (r : Nat) (s : ByteArray) (base : Nat) (E : TypeId) (size : Nat) (k : Nat) (v : Value) (n : Nat) (xs : List Value) (acc : List JV) (w : World) : Prop where
  rd : RR w r s k 0 0
  own : w.ownsRow base E size v n xs
  els : ∀ y ∈ acc, qAi w y ∧ Off (fun q => q < base ∨ v.ownBlock = some q) y
  st : r < base ∧ base ≤ w.heap.size
section
variable {r : Nat} {s : ByteArray} {base : Nat} {E : TypeId} {size k : Nat} {v : Value} {n : Nat} {xs : List Value} {acc : List JV} {w w' : World}
theorem RK.mv (h : RK r s base E size k v n xs acc w) (hm : Mv r w w') {k' : Nat} (hr : RR w' r s k' 0 0) : RK r s base E size k' v n xs acc w' := by
  obtain ⟨h1, h2⟩ := h.st; refine ⟨hr, Bes.own hm h.own (fun q e he => ?_), fun y hy => ?_, ⟨h1, Nat.le_trans h2 hm.size⟩⟩
  · have := (qAh h.own e).1; have he2 : q = r := he; omega
  · obtain ⟨a, b⟩ := h.els y hy; exact ⟨qAi.bes hm a (Off.mono (fun q e => Or.inl (by have e2 : q = r := e; omega)) b), b⟩
theorem RK.below (h : RK r s base E size k v n xs acc w) (hb : Below w.heap.size w w') : RK r s base E size k v n xs acc w' := h.mv (Mv.of hb) (h.rd.below hb)
theorem RK.more (h : RK r s base E size k v n xs acc w) {v' : Value} {n' : Nat} {xs' : List Value} {j : JV} (ho : w'.ownsRow base E size v' n' xs') (hb : Bes (fun q => v.ownBlock = some q) w w') (hat : v'.ownBlock = v.ownBlock ∨ v'.ownBlock = some w.heap.size)
    (hj : qAi w j) (hoj : Off (fun q => q < base ∨ v.ownBlock = some q) j) : RK r s base E size k v' n' xs' (acc ++ [j]) w' := by
  obtain ⟨h1, h2⟩ := h.st; (have lo : ∀ q, v.ownBlock = some q → base ≤ q := fun q e => (qAh h.own e).1); refine ⟨Bes.box hb h.rd (fun e => by have := lo r e; omega), ho, fun y hy => ?_, ⟨h1, Nat.le_trans h2 hb.size⟩⟩
  have key : ∀ y : JV, qAi w y → Off (fun q => q < base ∨ v.ownBlock = some q) y → qAi w' y ∧ Off (fun q => q < base ∨ v'.ownBlock = some q) y := fun y a b => by
    refine ⟨qAi.bes hb a (Off.mono (fun q e => Or.inr e) b), ?_⟩; refine Off.mono (fun q e => ?_) (Off.or b (qCD a)); rcases e with e | e
    · exact .inl (.inl e)
    · rcases hat with h3 | h3
      · exact .inl (.inr (h3 ▸ e))
      · rw [h3] at e; have e2 := Option.some.inj e; exact .inr (by show w.heap.size ≤ q; omega)
  rcases List.mem_append.1 hy with hy | hy
  · exact key y (h.els y hy).1 (h.els y hy).2
  · (obtain rfl : y = j := by simpa using hy); exact key y hj hoj
end
theorem qA4 {P : Program} {ops : Array Oper} {rest : List Oper} {o : Oper} {a : Act} {w : World} {Q : Exit → Act → World → Prop} (hgd : o.guard = none) (s x : Operand) (t : TypeId)
    (ho : o.op = .call { callee := .builtin .append, args := #[s, x], argTypes := #[t, t] })
    (base : Nat) (e : TypeId) (i : TypeInfo) (z : Value) (size bytes : Nat) (ht : P.underlying t = some (.slice e)) (hi : P.info? e = some i) (hz : i.zero = some z)
    (hsize : i.size = size) (hby : i.bytes = bytes) (hzs : z.cells.size = size) (hsz : 0 < size)
    (v : Value) (n : Nat) (xs : List Value) (hs : a.eval s = v) (hown : w.ownsRow base e size v n xs)
    (g c : Nat) (cells : Array Value) (ty : TypeId) (IB : qAW w g ty cells) (hcs : cells.size = size) (hx : a.eval x = .slice (some ⟨g, 0, none⟩) 1 c) (h1 : cells.all (·.oneCell') = true)
    (h63 : n + 1 ≤ maxLen) (hbytes : (n + 1) * bytes ≤ 140737488355328) (hbase : base ≤ w.heap.size)
    (h : ∀ v' w', w'.ownsRow base e size v' (n + 1) (xs ++ cells.toList) → Bes (fun q => v.ownBlock = some q) w w' → (v'.ownBlock = v.ownBlock ∨ v'.ownBlock = some w.heap.size) → wpList P ops Q rest (a.put o.dst v') w') : wpList P ops Q (o :: rest) a w := by
  refine wpList_append_own_at w hgd s x t ho base e i z size bytes ht hi hz hsize hby hzs hsz v n xs hs hown ⟨g, 0, none⟩ 1 c cells.toList hx (by simp [hcs]) ?_ ?_ h63 hbytes hbase ?_
  · intro j u hu; (have hadd : (⟨g, 0, none⟩ : Addr).add j = ⟨g, j, none⟩ := by unfold Addr.add; split <;> simp_all); rw [hadd, IB.cell]
    simpa using hu
  · intro u hu; have := Array.all_eq_true_iff_forall_mem.1 h1 u (by simpa using hu); exact this
  · intro v' w' h2 h3 _ h5; exact h v' w' h2 (Bes.grown h3 (fun _ e => e)) h5
theorem Bes.own9 {r base : Nat} {w a b : World} {v : Value} {E : TypeId} {size n : Nat} {xs : List Value} (h : Bes (fun k => k = r) w a) (hb : Bes (fun q => v.ownBlock = some q) a b) (ho : a.ownsRow base E size v n xs) (hB : w.heap.size ≤ base) : Mv r w b :=
  Bes.trans h hb (fun _ x => x) (fun i hi x => by have := (qAh ho x).1; omega)
theorem qKv : (Tryz.prog.info? 25).map (fun i => (i.zero, i.size, i.bytes)) = some (some (.agg JV.zero.cells), 6, 88) := by kernel_rfl
theorem qIK : ∃ ie z, Tryz.prog.info? 25 = some ie ∧ ie.zero = some z ∧ ie.size = 6 ∧ ie.bytes = 88 ∧ z = .agg JV.zero.cells := by
  have h := qKv
  cases hq : Tryz.prog.info? 25 with
  | none => rw [hq] at h; cases h
  | some ie =>
    rw [hq] at h; simp only [Option.map_some, Option.some.injEq, Prod.mk.injEq] at h; exact ⟨ie, _, rfl, h.1, h.2.1, h.2.2, rfl⟩
theorem qCq (j : JV) : Instr.fill (fun i => some (i * 6, 6)) ((Array.range (1 * 6)).map ((Value.agg JV.zero.cells).cells[· % (Value.agg JV.zero.cells).cells.size]!)) [(0, .agg j.cells)] = some j.cells := by kernel_rfl
theorem qCp {σ : Type} {s : ByteArray} {endc : Int} (he : endc ≠ 44) {step : Nat → σ → Out σ} {n k : Nat} {x : σ} : qBU s endc step (n + 1) k x = match step k x with
    | .bad c p => .bad c p
    | .ok y k2 => match qB9 s endc k2 with
      | .ok true k3 => qBU s endc step n k3 y
      | .ok false k3 => .ok y k3
      | .bad c p => .bad c p := by
  conv => lhs; unfold qBU
  cases step k x with
  | bad c p => rfl
  | ok y k2 =>
    simp only; unfold qB9
    by_cases h1 : pk s (qAd s k2) = 44
    · rw [if_neg (by rw [h1]; exact fun e => he e.symm), if_pos h1, if_pos h1]
    · rw [if_neg h1, if_neg h1]
      by_cases h2 : pk s (qAd s k2) = endc
      · rw [if_pos h2, if_pos h2]
      · rw [if_neg h2, if_neg h2]
theorem qEM {s : ByteArray} {endc : Int} {k : Nat} (he : 0 ≤ endc) : qB0 s k (qB9 s endc k) := by
  unfold qB9; have h0 := qBJ (s := s) (i := k)
  split
  · rename_i h; have h1 := qC1 h (by omega); have h2 := qBJ (s := s) (i := qAd s k + 1); exact qB0.okk (by omega) (qBg (by omega))
  · split
    · rename_i h; have h1 := qC1 h he; exact qB0.okk (by omega) (by omega)
    · exact qB0.bad
theorem qEy {s : ByteArray} {endc : Int} {k : Nat} {c : Int} {p : Nat} (h : qB9 s endc k = .bad c p) : c = 3 := by
  unfold qB9 at h
  split at h
  · cases h
  · split at h
    · cases h
    · injection h with h _; exact h.symm
def RlV (w : World) (l : List JT) (e : Ending) (w' : World) : Prop := ∃ A c acc, e = .returned (.slice A acc.length c) ∧ qAi w' (qBy A c acc) ∧ acc.map er = l ∧ Off (fun q => q < w.heap.size) (qBy A c acc)
def SlN (e : Ending) : Prop := ∃ A n c, e = .returned (.slice A n c)
theorem SlN.nil : SlN (.returned (.slice none 0 0)) := ⟨_, _, _, rfl⟩
theorem SlN.own {w : World} {base : Nat} {E : TypeId} {size : Nat} {v : Value} {n : Nat} {xs : List Value} (h : w.ownsRow base E size v n xs) : SlN (.returned v) := by
  rcases h.2 with ⟨rfl, _⟩ | ⟨g, cap, cur, rfl, _⟩
  · exact SlN.nil
  · exact ⟨_, _, _, rfl⟩
theorem RlV.nil {w w' : World} : RlV w [] (.returned (.slice none 0 0)) w' := ⟨none, 0, [], rfl, by
  unfold qBy qAi; refine ⟨⟨mi4, mi0, mze, rfl, rfl, rfl, by decide, by decide, ?_⟩, ?_, ?_⟩
  · unfold qBA; exact True.intro
  · unfold qBf; exact True.intro
  · unfold qBf; exact True.intro, rfl, by
  unfold qBy Off qCd
  exact ⟨fun h => absurd rfl h, fun h => absurd rfl h, True.intro, True.intro⟩⟩
theorem RlV.of {r : Nat} {s : ByteArray} {E : TypeId} {k : Nat} {v : Value} {acc : List JV} {w0 w : World} (h : RK r s w0.heap.size E 6 k v acc.length (qDK acc) acc w) (hb : acc.length * 80 ≤ qAy) : RlV w0 (acc.map er) (.returned v) w := by
  obtain ⟨A, c, rfl, hj, ha⟩ := qD7 h.own rfl (fun x hx => (h.els x hx).1) hb; refine ⟨A, c, acc, rfl, hj, rfl, ?_⟩; unfold qBy Off; refine ⟨fun _ a e hlt => ?_, fun h => absurd rfl h, qCi fun x hx => Off.mono (fun q e => Or.inl e) (h.els x hx).2, by unfold qCd; exact True.intro⟩; have := ha a e; have hlt2 : a.block < w0.heap.size := hlt; omega
theorem qCl {r : Nat} {s : ByteArray} {base : Nat} {E : TypeId} {k : Nat} {v : Value} {acc : List JV} {j : JV} {w : World} (h : RK r s base E 6 k v (acc.length + 1) (qDK acc ++ j.cells.toList) (acc ++ [j]) w) : RK r s base E 6 k v (acc ++ [j]).length (qDK (acc ++ [j])) (acc ++ [j]) w := by
  rw [List.length_append, qEz, qEw]; exact h
theorem qHc {d : Nat} (hd : d ≤ 31) (hval : qIP d) {w : World} {r : Nat} {s : ByteArray} {i i1 : Nat} (h : RR w r s i1 0 0) (hi1 : i1 = i + 1) (hi : i < s.size) (hs : s.size ≤ 65536) :
    Calls Tryz.prog 77 #[At r, .int .i64 (32 - (d : Int))] w (qBL (qAx s 93 (qAo (qAJ s d)) i []) r s w (RlV w) SlN) := by
  obtain ⟨ie, z, hie1, hie2, hie3, hie4, hz⟩ := qIK; subst hz; have HR := h; have HM := Mv.refl r w; have hrw := HR.lt; (have hi1s : i1 ≤ s.size := by omega); obtain ⟨k, hk⟩ : ∃ k, k = qAd s i1 := ⟨_, rfl⟩; (have hks : k ≤ s.size := by rw [hk]; exact qBg hi1s); have HK1 := Lib.hid hk
  have heq : qAx s 93 (qAo (qAJ s d)) i [] = if pk s k = 93 then .ok [] (k + 1) else qBU s 93 (qAo (qAJ s d)) (s.size + 1) k [] := by
    rw [hk, hi1]; rfl
  clear hk
  by_cases hlt : k < s.size
  · have b0 := bt_nonneg s k; have b1 := bt_le s k
    by_cases h93 : bt s k = 93
    · (have q93 : (bt s k == 93) = true := by rw [h93]; rfl); have HK : Hid (qAx s 93 (qAo (qAJ s d)) i [] = .ok [] (k + 1)) := Lib.hid (by rw [heq, if_pos ((qBh hlt).trans h93)]); clear heq h93; go_enter Tryz.func77, Tryz.ntmps77
      go_wp2_with (first
        | (go_at_call 50; (with_reducible refine (qAa HR hi1s hs).mono ?_); rintro e w2 ⟨rfl, hr, hm⟩; rw [← HK1.out] at hr; replace HR := hr; replace HM := HM.trans hm; clear hr hm; have c0 := HR.c0; have c1 := HR.c1; have f1 := HR.f1; have c2 := HR.c2)
        | (go_at_call 72; (with_reducible refine (qAS HR hlt).mono ?_); rintro e w2 ⟨rfl, hr, hm⟩; replace HR := hr; replace HM := HM.trans hm; clear c0 c1 f1 c2 hr hm; have c0 := HR.c0; have c1 := HR.c1; have f1 := HR.f1; have c2 := HR.c2)
        | ((with_reducible refine qAF ?_); refine qAl rfl (.tmp 28) (.tmp 26) rfl rfl (k + 1) (by rfl) HR ?_; intro w4 hr hm; clear c0 c1 f1 c2; replace HR := hr; replace HM := HM.trans hm; clear hr hm; have c0 := HR.c0; have c1 := HR.c1; have f1 := HR.f1; have c2 := HR.c2))
      go_ret; exact qBL.ok HK.out HM RlV.nil HR
    · (have q93 : (bt s k == 93) = false := by simpa using h93); have HE : Hid (qAx s 93 (qAo (qAJ s d)) i [] = qBU s 93 (qAo (qAJ s d)) (s.size + 1) k []) := Lib.hid (by rw [heq, if_neg (by rw [qBh hlt]; exact h93)]); clear heq; clear h93; go_enter Tryz.func77, Tryz.ntmps77
      go_wp2_with (first
        | (go_at_call 50; (with_reducible refine (qAa HR hi1s hs).mono ?_); rintro e w2 ⟨rfl, hr, hm⟩; rw [← HK1.out] at hr; replace HR := hr; replace HM := HM.trans hm; clear hr hm; have c0 := HR.c0; have c1 := HR.c1; have f1 := HR.f1; have c2 := HR.c2)
        | (go_at_call 72; (with_reducible refine (qAS HR hlt).mono ?_); rintro e w2 ⟨rfl, hr, hm⟩; replace HR := hr; replace HM := HM.trans hm; clear c0 c1 f1 c2 hr hm; have c0 := HR.c0; have c1 := HR.c1; have f1 := HR.f1; have c2 := HR.c2))
      clear b0 b1 c0 c1 f1 c2
      go_loopw [7] (fun ov wr => ∃ (k n : Nat) (v : Value) (acc : List JV), v = ov ∧ k ≤ s.size ∧ RK r s w.heap.size 25 6 k v acc.length (qDK acc) acc wr ∧ Hid (qBU s 93 (qAo (qAJ s d)) n k (acc.map er) = qAx s 93 (qAo (qAJ s d)) i []) ∧ s.size < k + n ∧ acc.length ≤ k ∧ Mv r w wr) (fun _ wr => s.size - qHW wr r)
      case atStart => exact ⟨k, s.size + 1, _, [], rfl, hks, ⟨HR, ⟨rfl, .inl ⟨rfl, rfl⟩⟩, (fun y hy => by cases hy), ⟨hrw, HM.size⟩⟩, Lib.hid HE.out.symm, Nat.lt_succ_of_le (Nat.le_add_left _ _), Nat.zero_le _, HM⟩
      case round =>
        clear HR HM HE hks HK1; obtain ⟨k, n, v, acc, rfl, hks, HL, HS, hkn, hal, HM⟩ := hrel; have HR := HL.rd; have c0 := HR.c0; have c1 := HR.c1; have f1 := HR.f1; have c2 := HR.c2; have hat := HR.at; have hwz := HM.size; obtain ⟨n2, hn2⟩ : ∃ n2, n = n2 + 1 := ⟨n - 1, by omega⟩; subst hn2
        have hst : Hid (qBU s 93 (qAo (qAJ s d)) (n2 + 1) k (acc.map er) = match qAJ s d k with
            | .bad c p => .bad c p
            | .ok t k2 => match qB9 s 93 k2 with
              | .ok true k3 => qBU s 93 (qAo (qAJ s d)) n2 k3 (acc.map er ++ [t])
              | .ok false k3 => .ok (acc.map er ++ [t]) k3
              | .bad c p => .bad c p) := Lib.hid (by
          rw [qCp (by decide)]; unfold qAo
          cases qAJ s d k <;> rfl)
        cases ho : qAJ s d k with
        | bad c p =>
          have HK : Hid (qAx s 93 (qAo (qAJ s d)) i [] = .bad c p) := Lib.hid (by rw [← HS.out, hst.out, ho]); have HO := Lib.hid ho; clear ho hst HS
          go_wp2_with (first
            | (go_at_call 51; (refine (hval.at HR hks hs).mono ?_); rw [HO.out]; rintro e w5 ⟨hm, ⟨j, rfl⟩, hc, i3, hr⟩; have hc2 : (c == 0) = false := (by simpa using hc); have hc3 : (c != 0) = true := (by simpa using hc); have HC := Lib.hid hc; clear hc c0 c1 f1 c2; replace HR := hr; replace HM := HM.trans hm; clear hr hm; have c0 := HR.c0; have c1 := HR.c1; have f1 := HR.f1; have c2 := HR.c2)
            | (refine qAO 8 rfl rfl 25 rfl rfl (.tmp 37) rfl _ qAY j.cells rfl rfl qAA rfl (qAP _) ?_; intro w7 hw; have hb := qAD hw; clear hw; replace HR := HR.below hb; replace HM := HM.trans (Mv.of hb); clear hb c0 c1 f1 c2; have c0 := HR.c0; have c1 := HR.c1; have f1 := HR.f1; have c2 := HR.c2))
          go_ret; exact qBL.bad HK.out HM SlN.nil HC.out HR
        | ok t k2 =>
          have hg := qA8 d k t k2 ho; have hk1 : k < k2 := hg.1; have hk2 : k2 ≤ s.size := hg.2; have HO := Lib.hid ho
          cases hm : qB9 s 93 k2 with
          | bad c p =>
            have hc3 := qEy hm; subst hc3; have HK : Hid (qAx s 93 (qAo (qAJ s d)) i [] = .bad 3 p) := Lib.hid (by rw [← HS.out, hst.out, ho]; simp only [hm]); have HMO := Lib.hid hm; clear ho hst HS hm hg
            go_wp2_with (first
              | (go_at_call 51; (refine (hval.at HR hks hs).mono ?_); rw [HO.out]; rintro e w5 ⟨hm, ⟨j, rfl, hj, hje, hjo⟩, hr⟩; have HJE := Lib.hid hje; have hjf : Off (fun q => q < w.heap.size ∨ v.ownBlock = some q) j := Off.mono (fun q e => e.elim (fun e => Nat.lt_of_lt_of_le e hwz) (fun e => (qAh HL.own e).2)) hjo; have HJF := Lib.hid hjf; clear hje hjf hjo; clear c0 c1 f1 c2; replace HL := HL.mv hm hr; replace HM := HM.trans hm; clear HR hr hm; have HR := HL.rd; have c0 := HR.c0; have c1 := HR.c1; have f1 := HR.f1; have c2 := HR.c2)
              | (refine qAO 8 rfl rfl 25 rfl rfl (.tmp 37) rfl _ qAY j.cells rfl rfl qAA rfl (qAP _) ?_; intro w7 hw; have hb := qAD hw; have B8 := (qAC hw).1; clear hw; replace HL := HL.below hb; replace hj := qAi.below hb hj; replace HM := HM.trans (Mv.of hb); clear hb c0 c1 f1 c2 HR; have HR := HL.rd; have c0 := HR.c0; have c1 := HR.c1; have f1 := HR.f1; have c2 := HR.c2)
              | ((with_reducible refine qAR ?_); refine qAL rfl 25 (.tmp 8) rfl _ rfl _ _ _ B8 Tryz.underlying25 rfl qAA ?_)
              | ((with_reducible refine qAm ?_); refine qAU 1 [(0, .agg j.cells)] j.cells ie _ (by rw [hie3]; exact qCq j) rfl 22 25 _ rfl rfl Tryz.underlying22 hie1 hie2 (by rw [hie3]; decide) (by rw [hie3]; decide) ?_; intro w9 hw; have hb := qAD hw; have B9 := (qAC hw).1; clear hw; replace HL := HL.below hb; replace hj := qAi.below hb hj; replace HM := HM.trans (Mv.of hb); clear hb c0 c1 f1 c2 HR; have HR := HL.rd; have c0 := HR.c0; have c1 := HR.c1; have f1 := HR.f1; have c2 := HR.c2)
              | (at_builtin; refine qA4 rfl (.tmp 44) (.tmp 46) 22 rfl w.heap.size 25 ie _ 6 88 Tryz.underlying22 hie1 hie2 hie3 hie4 rfl (by decide) v acc.length (qDK acc) rfl HL.own _ 1 j.cells _ B9 rfl rfl (qAP _) (by unfold maxLen; omega) (by omega) HL.st.2 ?_; intro v9 w10 ho9 hb9 hat9; have HL2 := qCl (HL.more ho9 hb9 hat9 hj HJF.out); replace HM := HM.own9 hb9 HL.own (Nat.le_refl _); clear HR HL hb9 ho9 hat9 B9 c0 c1 f1 c2; have HL := HL2; clear HL2; have HR := HL.rd; have c0 := HR.c0; have c1 := HR.c1; have f1 := HR.f1; have c2 := HR.c2)
              | (go_at_call 94; (with_reducible refine (qBp HR hk2 hs (by decide)).mono ?_); rw [HMO.out]; rintro e w11 ⟨hm, rfl, hc, i3, hr⟩; clear c0 c1 f1 c2; replace HR := hr; have hown := HL.own; replace HM := HM.trans hm; clear hr hm hc; have c0 := HR.c0; have c1 := HR.c1; have f1 := HR.f1; have c2 := HR.c2))
            go_ret; exact qBL.bad HK.out HM (SlN.own hown) (by decide) HR
          | ok b k3 =>
            have hgm := qEM (by decide) b k3 hm; have hk3 : k2 < k3 := hgm.1; have hk3s : k3 ≤ s.size := hgm.2; have HMO := Lib.hid hm; cases b
            · have HK : Hid (qAx s 93 (qAo (qAJ s d)) i [] = .ok (acc.map er ++ [t]) k3) := Lib.hid (by rw [← HS.out, hst.out, ho]; simp only [hm]); clear ho hst HS hm hg hgm
              go_wp2_with (first
                | (go_at_call 51; (refine (hval.at HR hks hs).mono ?_); rw [HO.out]; rintro e w5 ⟨hm, ⟨j, rfl, hj, hje, hjo⟩, hr⟩; have HJE := Lib.hid hje; have hjf : Off (fun q => q < w.heap.size ∨ v.ownBlock = some q) j := Off.mono (fun q e => e.elim (fun e => Nat.lt_of_lt_of_le e hwz) (fun e => (qAh HL.own e).2)) hjo; have HJF := Lib.hid hjf; clear hje hjf hjo; clear c0 c1 f1 c2; replace HL := HL.mv hm hr; replace HM := HM.trans hm; clear HR hr hm; have HR := HL.rd; have c0 := HR.c0; have c1 := HR.c1; have f1 := HR.f1; have c2 := HR.c2)
                | (refine qAO 8 rfl rfl 25 rfl rfl (.tmp 37) rfl _ qAY j.cells rfl rfl qAA rfl (qAP _) ?_; intro w7 hw; have hb := qAD hw; have B8 := (qAC hw).1; clear hw; replace HL := HL.below hb; replace hj := qAi.below hb hj; replace HM := HM.trans (Mv.of hb); clear hb c0 c1 f1 c2 HR; have HR := HL.rd; have c0 := HR.c0; have c1 := HR.c1; have f1 := HR.f1; have c2 := HR.c2)
                | ((with_reducible refine qAR ?_); refine qAL rfl 25 (.tmp 8) rfl _ rfl _ _ _ B8 Tryz.underlying25 rfl qAA ?_)
                | ((with_reducible refine qAm ?_); refine qAU 1 [(0, .agg j.cells)] j.cells ie _ (by rw [hie3]; exact qCq j) rfl 22 25 _ rfl rfl Tryz.underlying22 hie1 hie2 (by rw [hie3]; decide) (by rw [hie3]; decide) ?_; intro w9 hw; have hb := qAD hw; have B9 := (qAC hw).1; clear hw; replace HL := HL.below hb; replace hj := qAi.below hb hj; replace HM := HM.trans (Mv.of hb); clear hb c0 c1 f1 c2 HR; have HR := HL.rd; have c0 := HR.c0; have c1 := HR.c1; have f1 := HR.f1; have c2 := HR.c2)
                | (at_builtin; refine qA4 rfl (.tmp 44) (.tmp 46) 22 rfl w.heap.size 25 ie _ 6 88 Tryz.underlying22 hie1 hie2 hie3 hie4 rfl (by decide) v acc.length (qDK acc) rfl HL.own _ 1 j.cells _ B9 rfl rfl (qAP _) (by unfold maxLen; omega) (by omega) HL.st.2 ?_; intro v9 w10 ho9 hb9 hat9; have HL2 := qCl (HL.more ho9 hb9 hat9 hj HJF.out); replace HM := HM.own9 hb9 HL.own (Nat.le_refl _); clear HR HL hb9 ho9 hat9 B9 c0 c1 f1 c2; have HL := HL2; clear HL2; have HR := HL.rd; have c0 := HR.c0; have c1 := HR.c1; have f1 := HR.f1; have c2 := HR.c2)
                | (go_at_call 94; (with_reducible refine (qBp HR hk2 hs (by decide)).mono ?_); rw [HMO.out]; rintro e w11 ⟨hm, rfl, hr⟩; clear c0 c1 f1 c2; replace HL := HL.mv hm hr; replace HM := HM.trans hm; clear HR hr hm; have HR := HL.rd; have c0 := HR.c0; have c1 := HR.c1; have f1 := HR.f1; have c2 := HR.c2))
              go_ret; exact qBL.ok HK.out HM (by have hh := RlV.of HL (by unfold qAy; simp; omega); rw [List.map_append] at hh; rw [← HJE.out]; exact hh) HR
            · have HK : Hid (qBU s 93 (qAo (qAJ s d)) n2 k3 (acc.map er ++ [t]) = qAx s 93 (qAo (qAJ s d)) i []) := Lib.hid (by rw [← HS.out, hst.out, ho]; simp only [hm]); clear ho hst HS hm hg hgm
              go_wp2_with (first
                | (go_at_call 51; (refine (hval.at HR hks hs).mono ?_); rw [HO.out]; rintro e w5 ⟨hm, ⟨j, rfl, hj, hje, hjo⟩, hr⟩; have HJE := Lib.hid hje; have hjf : Off (fun q => q < w.heap.size ∨ v.ownBlock = some q) j := Off.mono (fun q e => e.elim (fun e => Nat.lt_of_lt_of_le e hwz) (fun e => (qAh HL.own e).2)) hjo; have HJF := Lib.hid hjf; clear hje hjf hjo; clear c0 c1 f1 c2; replace HL := HL.mv hm hr; replace HM := HM.trans hm; clear HR hr hm; have HR := HL.rd; have c0 := HR.c0; have c1 := HR.c1; have f1 := HR.f1; have c2 := HR.c2)
                | (refine qAO 8 rfl rfl 25 rfl rfl (.tmp 37) rfl _ qAY j.cells rfl rfl qAA rfl (qAP _) ?_; intro w7 hw; have hb := qAD hw; have B8 := (qAC hw).1; clear hw; replace HL := HL.below hb; replace hj := qAi.below hb hj; replace HM := HM.trans (Mv.of hb); clear hb c0 c1 f1 c2 HR; have HR := HL.rd; have c0 := HR.c0; have c1 := HR.c1; have f1 := HR.f1; have c2 := HR.c2)
                | ((with_reducible refine qAR ?_); refine qAL rfl 25 (.tmp 8) rfl _ rfl _ _ _ B8 Tryz.underlying25 rfl qAA ?_)
                | ((with_reducible refine qAm ?_); refine qAU 1 [(0, .agg j.cells)] j.cells ie _ (by rw [hie3]; exact qCq j) rfl 22 25 _ rfl rfl Tryz.underlying22 hie1 hie2 (by rw [hie3]; decide) (by rw [hie3]; decide) ?_; intro w9 hw; have hb := qAD hw; have B9 := (qAC hw).1; clear hw; replace HL := HL.below hb; replace hj := qAi.below hb hj; replace HM := HM.trans (Mv.of hb); clear hb c0 c1 f1 c2 HR; have HR := HL.rd; have c0 := HR.c0; have c1 := HR.c1; have f1 := HR.f1; have c2 := HR.c2)
                | (at_builtin; refine qA4 rfl (.tmp 44) (.tmp 46) 22 rfl w.heap.size 25 ie _ 6 88 Tryz.underlying22 hie1 hie2 hie3 hie4 rfl (by decide) v acc.length (qDK acc) rfl HL.own _ 1 j.cells _ B9 rfl rfl (qAP _) (by unfold maxLen; omega) (by omega) HL.st.2 ?_; intro v9 w10 ho9 hb9 hat9; have HL2 := qCl (HL.more ho9 hb9 hat9 hj HJF.out); replace HM := HM.own9 hb9 HL.own (Nat.le_refl _); clear HR HL hb9 ho9 hat9 B9 c0 c1 f1 c2; have HL := HL2; clear HL2; have HR := HL.rd; have c0 := HR.c0; have c1 := HR.c1; have f1 := HR.f1; have c2 := HR.c2)
                | (go_at_call 94; (with_reducible refine (qBp HR hk2 hs (by decide)).mono ?_); rw [HMO.out]; rintro e w11 ⟨hm, rfl, hr⟩; clear c0 c1 f1 c2; replace HL := HL.mv hm hr; replace HM := HM.trans hm; clear HR hr hm; have HR := HL.rd; have c0 := HR.c0; have c1 := HR.c1; have f1 := HR.f1; have c2 := HR.c2))
              go_roundw
              case rel => exact ⟨k3, n2, _, acc ++ [j], rfl, hk3s, HL, by rw [List.map_append]; show Hid (qBU _ _ _ _ _ (acc.map er ++ [er j]) = _); rw [HJE.out]; exact HK, by omega, by simp; omega, HM⟩
              case measure => rw [HR.at, hat]; omega
  · have HE : Hid (qAx s 93 (qAo (qAJ s d)) i [] = qBU s 93 (qAo (qAJ s d)) (s.size + 1) k []) := Lib.hid (by rw [heq, if_neg (by rw [qBb (by omega)]; decide)]); clear heq; go_enter Tryz.func77, Tryz.ntmps77
    go_wp2_with (first
      | (go_at_call 50; (with_reducible refine (qAa HR hi1s hs).mono ?_); rintro e w2 ⟨rfl, hr, hm⟩; rw [← HK1.out] at hr; replace HR := hr; replace HM := HM.trans hm; clear hr hm; have c0 := HR.c0; have c1 := HR.c1; have f1 := HR.f1; have c2 := HR.c2)
      | (go_at_call 72; (with_reducible refine (qBT HR hlt).mono ?_); rintro e w2 ⟨rfl, hr, hm⟩; replace HR := hr; replace HM := HM.trans hm; clear c0 c1 f1 c2 hr hm; have c0 := HR.c0; have c1 := HR.c1; have f1 := HR.f1; have c2 := HR.c2))
    clear c0 c1 f1 c2
    go_loopw [7] (fun ov wr => ∃ (k n : Nat) (v : Value) (acc : List JV), v = ov ∧ k ≤ s.size ∧ RK r s w.heap.size 25 6 k v acc.length (qDK acc) acc wr ∧ Hid (qBU s 93 (qAo (qAJ s d)) n k (acc.map er) = qAx s 93 (qAo (qAJ s d)) i []) ∧ s.size < k + n ∧ acc.length ≤ k ∧ Mv r w wr) (fun _ wr => s.size - qHW wr r)
    case atStart => exact ⟨k, s.size + 1, _, [], rfl, hks, ⟨HR, ⟨rfl, .inl ⟨rfl, rfl⟩⟩, (fun y hy => by cases hy), ⟨hrw, HM.size⟩⟩, Lib.hid HE.out.symm, Nat.lt_succ_of_le (Nat.le_add_left _ _), Nat.zero_le _, HM⟩
    case round =>
      clear HR HM HE hks HK1; obtain ⟨k, n, v, acc, rfl, hks, HL, HS, hkn, hal, HM⟩ := hrel; have HR := HL.rd; have c0 := HR.c0; have c1 := HR.c1; have f1 := HR.f1; have c2 := HR.c2; have hat := HR.at; have hwz := HM.size; obtain ⟨n2, hn2⟩ : ∃ n2, n = n2 + 1 := ⟨n - 1, by omega⟩; subst hn2
      have hst : Hid (qBU s 93 (qAo (qAJ s d)) (n2 + 1) k (acc.map er) = match qAJ s d k with
          | .bad c p => .bad c p
          | .ok t k2 => match qB9 s 93 k2 with
            | .ok true k3 => qBU s 93 (qAo (qAJ s d)) n2 k3 (acc.map er ++ [t])
            | .ok false k3 => .ok (acc.map er ++ [t]) k3
            | .bad c p => .bad c p) := Lib.hid (by
        rw [qCp (by decide)]; unfold qAo
        cases qAJ s d k <;> rfl)
      cases ho : qAJ s d k with
      | bad c p =>
        have HK : Hid (qAx s 93 (qAo (qAJ s d)) i [] = .bad c p) := Lib.hid (by rw [← HS.out, hst.out, ho]); have HO := Lib.hid ho; clear ho hst HS
        go_wp2_with (first
          | (go_at_call 51; (refine (hval.at HR hks hs).mono ?_); rw [HO.out]; rintro e w5 ⟨hm, ⟨j, rfl⟩, hc, i3, hr⟩; have hc2 : (c == 0) = false := (by simpa using hc); have hc3 : (c != 0) = true := (by simpa using hc); have HC := Lib.hid hc; clear hc c0 c1 f1 c2; replace HR := hr; replace HM := HM.trans hm; clear hr hm; have c0 := HR.c0; have c1 := HR.c1; have f1 := HR.f1; have c2 := HR.c2)
          | (refine qAO 8 rfl rfl 25 rfl rfl (.tmp 37) rfl _ qAY j.cells rfl rfl qAA rfl (qAP _) ?_; intro w7 hw; have hb := qAD hw; clear hw; replace HR := HR.below hb; replace HM := HM.trans (Mv.of hb); clear hb c0 c1 f1 c2; have c0 := HR.c0; have c1 := HR.c1; have f1 := HR.f1; have c2 := HR.c2))
        go_ret; exact qBL.bad HK.out HM SlN.nil HC.out HR
      | ok t k2 =>
        have hg := qA8 d k t k2 ho; have hk1 : k < k2 := hg.1; have hk2 : k2 ≤ s.size := hg.2; have HO := Lib.hid ho
        cases hm : qB9 s 93 k2 with
        | bad c p =>
          have hc3 := qEy hm; subst hc3; have HK : Hid (qAx s 93 (qAo (qAJ s d)) i [] = .bad 3 p) := Lib.hid (by rw [← HS.out, hst.out, ho]; simp only [hm]); have HMO := Lib.hid hm; clear ho hst HS hm hg
          go_wp2_with (first
            | (go_at_call 51; (refine (hval.at HR hks hs).mono ?_); rw [HO.out]; rintro e w5 ⟨hm, ⟨j, rfl, hj, hje, hjo⟩, hr⟩; have HJE := Lib.hid hje; have hjf : Off (fun q => q < w.heap.size ∨ v.ownBlock = some q) j := Off.mono (fun q e => e.elim (fun e => Nat.lt_of_lt_of_le e hwz) (fun e => (qAh HL.own e).2)) hjo; have HJF := Lib.hid hjf; clear hje hjf hjo; clear c0 c1 f1 c2; replace HL := HL.mv hm hr; replace HM := HM.trans hm; clear HR hr hm; have HR := HL.rd; have c0 := HR.c0; have c1 := HR.c1; have f1 := HR.f1; have c2 := HR.c2)
            | (refine qAO 8 rfl rfl 25 rfl rfl (.tmp 37) rfl _ qAY j.cells rfl rfl qAA rfl (qAP _) ?_; intro w7 hw; have hb := qAD hw; have B8 := (qAC hw).1; clear hw; replace HL := HL.below hb; replace hj := qAi.below hb hj; replace HM := HM.trans (Mv.of hb); clear hb c0 c1 f1 c2 HR; have HR := HL.rd; have c0 := HR.c0; have c1 := HR.c1; have f1 := HR.f1; have c2 := HR.c2)
            | ((with_reducible refine qAR ?_); refine qAL rfl 25 (.tmp 8) rfl _ rfl _ _ _ B8 Tryz.underlying25 rfl qAA ?_)
            | ((with_reducible refine qAm ?_); refine qAU 1 [(0, .agg j.cells)] j.cells ie _ (by rw [hie3]; exact qCq j) rfl 22 25 _ rfl rfl Tryz.underlying22 hie1 hie2 (by rw [hie3]; decide) (by rw [hie3]; decide) ?_; intro w9 hw; have hb := qAD hw; have B9 := (qAC hw).1; clear hw; replace HL := HL.below hb; replace hj := qAi.below hb hj; replace HM := HM.trans (Mv.of hb); clear hb c0 c1 f1 c2 HR; have HR := HL.rd; have c0 := HR.c0; have c1 := HR.c1; have f1 := HR.f1; have c2 := HR.c2)
            | (at_builtin; refine qA4 rfl (.tmp 44) (.tmp 46) 22 rfl w.heap.size 25 ie _ 6 88 Tryz.underlying22 hie1 hie2 hie3 hie4 rfl (by decide) v acc.length (qDK acc) rfl HL.own _ 1 j.cells _ B9 rfl rfl (qAP _) (by unfold maxLen; omega) (by omega) HL.st.2 ?_; intro v9 w10 ho9 hb9 hat9; have HL2 := qCl (HL.more ho9 hb9 hat9 hj HJF.out); replace HM := HM.own9 hb9 HL.own (Nat.le_refl _); clear HR HL hb9 ho9 hat9 B9 c0 c1 f1 c2; have HL := HL2; clear HL2; have HR := HL.rd; have c0 := HR.c0; have c1 := HR.c1; have f1 := HR.f1; have c2 := HR.c2)
            | (go_at_call 94; (with_reducible refine (qBp HR hk2 hs (by decide)).mono ?_); rw [HMO.out]; rintro e w11 ⟨hm, rfl, hc, i3, hr⟩; clear c0 c1 f1 c2; replace HR := hr; have hown := HL.own; replace HM := HM.trans hm; clear hr hm hc; have c0 := HR.c0; have c1 := HR.c1; have f1 := HR.f1; have c2 := HR.c2))
          go_ret; exact qBL.bad HK.out HM (SlN.own hown) (by decide) HR
        | ok b k3 =>
          have hgm := qEM (by decide) b k3 hm; have hk3 : k2 < k3 := hgm.1; have hk3s : k3 ≤ s.size := hgm.2; have HMO := Lib.hid hm; cases b
          · have HK : Hid (qAx s 93 (qAo (qAJ s d)) i [] = .ok (acc.map er ++ [t]) k3) := Lib.hid (by rw [← HS.out, hst.out, ho]; simp only [hm]); clear ho hst HS hm hg hgm
            go_wp2_with (first
              | (go_at_call 51; (refine (hval.at HR hks hs).mono ?_); rw [HO.out]; rintro e w5 ⟨hm, ⟨j, rfl, hj, hje, hjo⟩, hr⟩; have HJE := Lib.hid hje; have hjf : Off (fun q => q < w.heap.size ∨ v.ownBlock = some q) j := Off.mono (fun q e => e.elim (fun e => Nat.lt_of_lt_of_le e hwz) (fun e => (qAh HL.own e).2)) hjo; have HJF := Lib.hid hjf; clear hje hjf hjo; clear c0 c1 f1 c2; replace HL := HL.mv hm hr; replace HM := HM.trans hm; clear HR hr hm; have HR := HL.rd; have c0 := HR.c0; have c1 := HR.c1; have f1 := HR.f1; have c2 := HR.c2)
              | (refine qAO 8 rfl rfl 25 rfl rfl (.tmp 37) rfl _ qAY j.cells rfl rfl qAA rfl (qAP _) ?_; intro w7 hw; have hb := qAD hw; have B8 := (qAC hw).1; clear hw; replace HL := HL.below hb; replace hj := qAi.below hb hj; replace HM := HM.trans (Mv.of hb); clear hb c0 c1 f1 c2 HR; have HR := HL.rd; have c0 := HR.c0; have c1 := HR.c1; have f1 := HR.f1; have c2 := HR.c2)
              | ((with_reducible refine qAR ?_); refine qAL rfl 25 (.tmp 8) rfl _ rfl _ _ _ B8 Tryz.underlying25 rfl qAA ?_)
              | ((with_reducible refine qAm ?_); refine qAU 1 [(0, .agg j.cells)] j.cells ie _ (by rw [hie3]; exact qCq j) rfl 22 25 _ rfl rfl Tryz.underlying22 hie1 hie2 (by rw [hie3]; decide) (by rw [hie3]; decide) ?_; intro w9 hw; have hb := qAD hw; have B9 := (qAC hw).1; clear hw; replace HL := HL.below hb; replace hj := qAi.below hb hj; replace HM := HM.trans (Mv.of hb); clear hb c0 c1 f1 c2 HR; have HR := HL.rd; have c0 := HR.c0; have c1 := HR.c1; have f1 := HR.f1; have c2 := HR.c2)
              | (at_builtin; refine qA4 rfl (.tmp 44) (.tmp 46) 22 rfl w.heap.size 25 ie _ 6 88 Tryz.underlying22 hie1 hie2 hie3 hie4 rfl (by decide) v acc.length (qDK acc) rfl HL.own _ 1 j.cells _ B9 rfl rfl (qAP _) (by unfold maxLen; omega) (by omega) HL.st.2 ?_; intro v9 w10 ho9 hb9 hat9; have HL2 := qCl (HL.more ho9 hb9 hat9 hj HJF.out); replace HM := HM.own9 hb9 HL.own (Nat.le_refl _); clear HR HL hb9 ho9 hat9 B9 c0 c1 f1 c2; have HL := HL2; clear HL2; have HR := HL.rd; have c0 := HR.c0; have c1 := HR.c1; have f1 := HR.f1; have c2 := HR.c2)
              | (go_at_call 94; (with_reducible refine (qBp HR hk2 hs (by decide)).mono ?_); rw [HMO.out]; rintro e w11 ⟨hm, rfl, hr⟩; clear c0 c1 f1 c2; replace HL := HL.mv hm hr; replace HM := HM.trans hm; clear HR hr hm; have HR := HL.rd; have c0 := HR.c0; have c1 := HR.c1; have f1 := HR.f1; have c2 := HR.c2))
            go_ret; exact qBL.ok HK.out HM (by have hh := RlV.of HL (by unfold qAy; simp; omega); rw [List.map_append] at hh; rw [← HJE.out]; exact hh) HR
          · have HK : Hid (qBU s 93 (qAo (qAJ s d)) n2 k3 (acc.map er ++ [t]) = qAx s 93 (qAo (qAJ s d)) i []) := Lib.hid (by rw [← HS.out, hst.out, ho]; simp only [hm]); clear ho hst HS hm hg hgm
            go_wp2_with (first
              | (go_at_call 51; (refine (hval.at HR hks hs).mono ?_); rw [HO.out]; rintro e w5 ⟨hm, ⟨j, rfl, hj, hje, hjo⟩, hr⟩; have HJE := Lib.hid hje; have hjf : Off (fun q => q < w.heap.size ∨ v.ownBlock = some q) j := Off.mono (fun q e => e.elim (fun e => Nat.lt_of_lt_of_le e hwz) (fun e => (qAh HL.own e).2)) hjo; have HJF := Lib.hid hjf; clear hje hjf hjo; clear c0 c1 f1 c2; replace HL := HL.mv hm hr; replace HM := HM.trans hm; clear HR hr hm; have HR := HL.rd; have c0 := HR.c0; have c1 := HR.c1; have f1 := HR.f1; have c2 := HR.c2)
              | (refine qAO 8 rfl rfl 25 rfl rfl (.tmp 37) rfl _ qAY j.cells rfl rfl qAA rfl (qAP _) ?_; intro w7 hw; have hb := qAD hw; have B8 := (qAC hw).1; clear hw; replace HL := HL.below hb; replace hj := qAi.below hb hj; replace HM := HM.trans (Mv.of hb); clear hb c0 c1 f1 c2 HR; have HR := HL.rd; have c0 := HR.c0; have c1 := HR.c1; have f1 := HR.f1; have c2 := HR.c2)
              | ((with_reducible refine qAR ?_); refine qAL rfl 25 (.tmp 8) rfl _ rfl _ _ _ B8 Tryz.underlying25 rfl qAA ?_)
              | ((with_reducible refine qAm ?_); refine qAU 1 [(0, .agg j.cells)] j.cells ie _ (by rw [hie3]; exact qCq j) rfl 22 25 _ rfl rfl Tryz.underlying22 hie1 hie2 (by rw [hie3]; decide) (by rw [hie3]; decide) ?_; intro w9 hw; have hb := qAD hw; have B9 := (qAC hw).1; clear hw; replace HL := HL.below hb; replace hj := qAi.below hb hj; replace HM := HM.trans (Mv.of hb); clear hb c0 c1 f1 c2 HR; have HR := HL.rd; have c0 := HR.c0; have c1 := HR.c1; have f1 := HR.f1; have c2 := HR.c2)
              | (at_builtin; refine qA4 rfl (.tmp 44) (.tmp 46) 22 rfl w.heap.size 25 ie _ 6 88 Tryz.underlying22 hie1 hie2 hie3 hie4 rfl (by decide) v acc.length (qDK acc) rfl HL.own _ 1 j.cells _ B9 rfl rfl (qAP _) (by unfold maxLen; omega) (by omega) HL.st.2 ?_; intro v9 w10 ho9 hb9 hat9; have HL2 := qCl (HL.more ho9 hb9 hat9 hj HJF.out); replace HM := HM.own9 hb9 HL.own (Nat.le_refl _); clear HR HL hb9 ho9 hat9 B9 c0 c1 f1 c2; have HL := HL2; clear HL2; have HR := HL.rd; have c0 := HR.c0; have c1 := HR.c1; have f1 := HR.f1; have c2 := HR.c2)
              | (go_at_call 94; (with_reducible refine (qBp HR hk2 hs (by decide)).mono ?_); rw [HMO.out]; rintro e w11 ⟨hm, rfl, hr⟩; clear c0 c1 f1 c2; replace HL := HL.mv hm hr; replace HM := HM.trans hm; clear HR hr hm; have HR := HL.rd; have c0 := HR.c0; have c1 := HR.c1; have f1 := HR.f1; have c2 := HR.c2))
            go_roundw
            case rel => exact ⟨k3, n2, _, acc ++ [j], rfl, hk3s, HL, by rw [List.map_append]; show Hid (qBU _ _ _ _ _ (acc.map er ++ [er j]) = _); rw [HJE.out]; exact HK, by omega, by simp; omega, HM⟩
            case measure => rw [HR.at, hat]; omega
end Go.Proofs.YtnjhmnolngdfaaaGreatDoor
