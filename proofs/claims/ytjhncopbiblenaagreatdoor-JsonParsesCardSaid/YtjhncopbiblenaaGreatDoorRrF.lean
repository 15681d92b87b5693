/- Layer 2, the document's reader (coveyref02): text. -/
import Derived.Test.YtjhncopbiblenaaGreatDoorAppB
import Derived.Test.YtjhncopbiblenaaGreatDoorRegB
import Derived.Test.YtjhncopbiblenaaGreatDoorRrE
namespace Go.Proofs.YtjhncopbiblenaaGreatDoor
open Go.RowKit Go.PlainAid
set_option linter.unusedVariables false
set_option linter.unusedSimpArgs false
theorem tl_ctl {s : ByteArray} {n k : Nat} {acc : List UInt8} (h : pk s k < 32) : textL s (n + 1) k acc = .bad 3 k := by unfold textL; rw [if_pos h]
theorem tl_end {s : ByteArray} {n k : Nat} {acc : List UInt8} (h : pk s k = 34) : textL s (n + 1) k acc = .ok ⟨acc.toArray⟩ (k + 1) := by unfold textL; rw [if_neg (by omega), if_pos h]
theorem tl_esc_bad {s : ByteArray} {n k : Nat} {acc : List UInt8} {c : Int} {p : Nat} (h : pk s k = 92) (hc : charTo s (k + 1) = .bad c p) : textL s (n + 1) k acc = .bad c p := by
  unfold textL; rw [if_neg (by omega), if_neg (by omega), if_pos h, hc]
theorem tl_esc {s : ByteArray} {n k : Nat} {acc : List UInt8} {x : Int} {q : Nat} (h : pk s k = 92) (hc : charTo s (k + 1) = .ok x q) : textL s (n + 1) k acc = textL s n q (acc ++ Lib.encodeRune x) := by
  conv => lhs; unfold textL
  rw [if_neg (by omega), if_neg (by omega), if_pos h, hc]
theorem tl_utf {s : ByteArray} {n k : Nat} {acc : List UInt8} (h1 : ¬ pk s k < 32) (h2 : ¬ pk s k = 34) (h3 : ¬ pk s k = 92) (h4 : badU s k) : textL s (n + 1) k acc = .bad 7 k := by
  unfold badU at h4; unfold textL; rw [if_neg h1, if_neg h2, if_neg h3, if_pos h4]
theorem tl_go {s : ByteArray} {n k : Nat} {acc : List UInt8} (h1 : ¬ pk s k < 32) (h2 : ¬ pk s k = 34) (h3 : ¬ pk s k = 92) (h4 : ¬ badU s k) : textL s (n + 1) k acc = textL s n (k + (Utf8.decode s k).2) (acc ++ Lib.encodeRune ((Utf8.decode s k).1 : Nat)) := by
  unfold badU at h4
  conv => lhs; unfold textL
  rw [if_neg h1, if_neg h2, if_neg h3, if_neg h4]
theorem at_scal {s : ByteArray} {k : Nat} (h : ¬ badU s k) : Scal ((Utf8.decode s k).1 : Int) := by
  rw [← Lib.decodeL_drop]
  exact dec_scal _ (by rw [Lib.decodeL_drop]; exact h)
/-- How far the reader still has to go; nothing once something is amiss. -/
def remOf (s : ByteArray) (w : World) (r : Nat) : Nat := match w.cell? ⟨r, 2, none⟩ with
  | some (.int _ c) => if c = 0 then s.size + 1 - atOf w r else 0
  | _ => 0
theorem RR.rem {w : World} {r : Nat} {s : ByteArray} {i : Nat} {p : Int} (h : RR w r s i 0 p) : remOf s w r = s.size + 1 - i := by unfold remOf; rw [h.c2]; simp [h.at]
theorem RR.rem0 {w : World} {r : Nat} {s : ByteArray} {i : Nat} {c p : Int} (h : RR w r s i c p) (hc : c ≠ 0) : remOf s w r = 0 := by unfold remOf; rw [h.c2]; simp [hc]
theorem RR.bes {w w' : World} {r : Nat} {s : ByteArray} {i : Nat} {c p : Int} {X : Nat → Prop} (h : RR w r s i c p) (hb : Bes X w w') (hX : ¬ X r) : RR w' r s i c p := Bes.box hb h hX
/-- The loop of text: the bytes so far, or what is amiss. -/
def TxL (s : ByteArray) (r i base : Nat) (bv : Value) (wr : World) : Prop :=
  (∃ k n acc, k ≤ s.size ∧ RR wr r s k 0 0 ∧ OwnB wr base bv acc ∧ s.size < k + n ∧ acc.length ≤ 4 * k ∧ Hid (textL s n k acc = textTo s i)) ∨
  (∃ c p i', RR wr r s i' c (p : Nat) ∧ c ≠ 0 ∧ textTo s i = .bad c p)
theorem TxL.good {s : ByteArray} {r i base k n : Nat} {acc : List UInt8} {bv : Value} {wr : World} (hk : k ≤ s.size) (HR : RR wr r s k 0 0) (HO : OwnB wr base bv acc) (hn : s.size < k + n) (hal : acc.length ≤ 4 * k) (HS : Hid (textL s n k acc = textTo s i)) : TxL s r i base bv wr := .inl ⟨k, n, acc, hk, HR, HO, hn, hal, HS⟩
theorem TxL.amiss {s : ByteArray} {r i base p i' : Nat} {c : Int} {bv : Value} {wr : World} (HR : RR wr r s i' c p) (hc : c ≠ 0) (h : textTo s i = .bad c p) : TxL s r i base bv wr := .inr ⟨c, p, i', HR, hc, h⟩
abbrev TxtV (t : ByteArray) (e : Ending) (_ : World) : Prop := e = .returned (.string t)
abbrev TxtN (e : Ending) : Prop := e = .returned (.string ⟨#[]⟩)
theorem Mv.ext {r base : Nat} {w a b : World} (h : Mv r w a) (hb : Bes (fun q => base ≤ q) a b) (hB : w.heap.size ≤ base) : Mv r w b := Bes.trans h hb (fun _ x => x) (fun i hi x => by have : base ≤ i := x; omega)
theorem runeB (x : Int) : Lib.runeCells x = Lib.byteCells (Lib.encodeRune x) := (Lib.byteCells_encodeRune x).symm
set_option maxRecDepth 10000 in
set_option maxHeartbeats 8000000 in
theorem rtext_any {w : World} {r : Nat} {s : ByteArray} {i : Nat} (h : RR w r s i 0 0) (hi : i < s.size) (hs : s.size ≤ 65536) :
    Calls Tryz.prog 39 #[At r] w (RGot (textTo s i) r s w TxtV TxtN) := by
  have HR := h
  have HM := Mv.refl r w
  have hrw := HR.lt
  have c0 := HR.c0
  have c1 := HR.c1
  have f1 := HR.f1
  have c2 := HR.c2
  obtain ⟨j, hj⟩ : ∃ j, j = i + 1 := ⟨_, rfl⟩
  have HJ := Lib.hid hj
  have hjs : j ≤ s.size := by omega
  have HT : Hid (textTo s i = textL s (s.size + 1) j []) := Lib.hid (by rw [hj]; rfl)
  clear hj
  go_enter Tryz.func39, Tryz.ntmps39
  go_wp2_with (first
    | ((with_reducible refine is_store ?_); refine wpl_rat rfl (.tmp 14) (.tmp 12) rfl rfl j (by rw [HJ.out]; rfl) HR ?_; intro w4 hr hm; clear c0 c1 f1 c2; replace HR := hr; replace HM := HM.trans hm; clear hr hm; have c0 := HR.c0; have c1 := HR.c1; have f1 := HR.f1; have c2 := HR.c2))
  go_loopw [3] (fun bv wr => Mv r w wr ∧ TxL s r i w.heap.size bv wr) (fun _ wr => remOf s wr r)
  case atStart => exact ⟨HM, TxL.good hjs HR (OwnB.nil _ _) (Nat.lt_succ_of_le (Nat.le_add_left _ _)) (Nat.zero_le _) (Lib.hid HT.out.symm)⟩
  case round =>
    clear c0 c1 f1 c2 HR HM
    obtain ⟨HM, hrel⟩ := hrel
    have hwz := HM.size
    rcases hrel with ⟨k, n, acc, hk, HR, HO, hkn, hal, HS⟩ | ⟨c, p, i2, HR, hc, hbad⟩
    · have c0 := HR.c0
      have c1 := HR.c1
      have f1 := HR.f1
      have c2 := HR.c2
      have hrem := Lib.hid HR.rem
      obtain ⟨n2, hn2⟩ : ∃ n2, n = n2 + 1 := ⟨n - 1, by omega⟩
      subst hn2
      by_cases hlt : k < s.size
      · have b0 := bt_nonneg s k
        have b1 := bt_le s k
        have hpk := pk_in hlt
        by_cases h32 : bt s k < 32
        · have HK := Lib.hid (HS.out.symm.trans (tl_ctl (n := n2) (acc := acc) (by rw [hpk]; exact h32)))
          clear hpk
          go_wp2_with (first
            | (go_at_call 35; (with_reducible refine (rnextB_in HR hlt).mono ?_); rintro e w2 ⟨rfl, hr, hm⟩; replace HR := hr; replace HM := HM.trans hm; clear c0 c1 f1 c2 hr hm; have c0 := HR.c0; have c1 := HR.c1; have f1 := HR.f1; have c2 := HR.c2)
            | (go_at_call 36; (with_reducible refine (rfail_any _ _ HR).mono ?_); rintro e w3 ⟨rfl, hr, hm⟩; clear c0 c1 f1 c2; replace HR := hr; replace HM := HM.trans hm; have c0 := HR.c0; have c1 := HR.c1; have f1 := HR.f1; have c2 := HR.c2))
          go_roundw
          case rel => exact ⟨HM, TxL.amiss HR (by decide) HK.out⟩
          case measure => rw [HR.rem0 (by decide), hrem.out]; omega
        · obtain ⟨k2, hk2⟩ : ∃ k2, k2 = k + 1 := ⟨_, rfl⟩
          have hk2s : k2 ≤ s.size := by omega
          have hk2k : k < k2 := by omega
          have HK2 := Lib.hid hk2
          have HK3 := Lib.hid (show k2 = k + 1 from hk2).symm
          by_cases h34 : bt s k = 34
          · have q34 : (bt s k == 34) = true := by rw [h34]; rfl
            have HK : Hid (textTo s i = .ok ⟨acc.toArray⟩ k2) := Lib.hid (by rw [hk2]; exact HS.out.symm.trans (tl_end (n := n2) (hpk.trans h34)))
            clear hpk hk2 h34
            go_wp2_with (first
              | (go_at_call 35; (with_reducible refine (rnextB_in HR hlt).mono ?_); rintro e w2 ⟨rfl, hr, hm⟩; replace HR := hr; replace HM := HM.trans hm; replace HO := HO.bes hm (fun q e => by have e2 : q = r := e; omega); clear c0 c1 f1 c2 hr hm; have c0 := HR.c0; have c1 := HR.c1; have f1 := HR.f1; have c2 := HR.c2)
              | ((with_reducible refine is_store ?_); refine wpl_rat rfl (.tmp 81) (.tmp 79) rfl rfl k2 (by rw [HK2.out]; rfl) HR ?_; intro w4 hr hm; clear c0 c1 f1 c2; replace HO := HO.bes hm (fun q e => by have e2 : q = r := e; omega); replace HR := hr; replace HM := HM.trans hm; clear hr hm; have c0 := HR.c0; have c1 := HR.c1; have f1 := HR.f1; have c2 := HR.c2)
              | ((with_reducible refine is_convert ?_); refine wpl_own_text rfl (.tmp 82) 42 9 rfl Tryz.underlying42 Tryz.underlying9 w.heap.size _ acc rfl HO ?_))
            refine bodyPost_ret (results_tmp rfl _ _ _) rfl ?_
            exact RGot.ok HK.out HM rfl HR
          · have q34 : (bt s k == 34) = false := by simpa using h34
            by_cases h92 : bt s k = 92
            · have q92 : (bt s k == 92) = true := by rw [h92]; rfl
              have hp92 := hpk.trans h92
              have hka : ((k2 : Nat) : Int) - 1 = (k : Int) := by omega
              have HKA := Lib.hid hka
              clear hka h92 hpk
              cases ho : charTo s k2 with
              | bad c p =>
                have HK : Hid (textTo s i = .bad c p) := Lib.hid (HS.out.symm.trans (tl_esc_bad (n := n2) hp92 (by rw [← hk2]; exact ho)))
                have hk2' := HK3.out
                have HOO := Lib.hid ho
                clear ho hp92 hk2
                go_wp2_with (first
                  | (go_at_call 35; (with_reducible refine (rnextB_in HR hlt).mono ?_); rintro e w2 ⟨rfl, hr, hm⟩; replace HR := hr; replace HM := HM.trans hm; replace HO := HO.bes hm (fun q e => by have e2 : q = r := e; omega); clear c0 c1 f1 c2 hr hm; have c0 := HR.c0; have c1 := HR.c1; have f1 := HR.f1; have c2 := HR.c2)
                  | ((with_reducible refine is_store ?_); refine wpl_rat rfl (.tmp 93) (.tmp 91) rfl rfl k2 (by rw [HK2.out]; rfl) HR ?_; intro w4 hr hm; clear c0 c1 f1 c2; replace HO := HO.bes hm (fun q e => by have e2 : q = r := e; omega); replace HR := hr; replace HM := HM.trans hm; clear hr hm; have c0 := HR.c0; have c1 := HR.c1; have f1 := HR.f1; have c2 := HR.c2)
                  | (go_at_call 55; (with_reducible refine (resc_any HR hk2s hs HK3.out HKA.out).mono ?_); rw [HOO.out]; rintro e w5 ⟨hm, rfl, hc, i3, hr⟩; have HC := Lib.hid hc; clear hc c0 c1 f1 c2; replace HR := hr; replace HO := HO.bes hm (fun q e => by have e2 : q = r := e; omega); replace HM := HM.trans hm; clear hr hm; have c0 := HR.c0; have c1 := HR.c1; have f1 := HR.f1; have c2 := HR.c2)
                  | (refine wpl_append_none rfl (.tmp 94) (.tmp 101) 42 rfl Tryz.underlying42 w.heap.size _ acc rfl HO rfl ?_))
                go_roundw
                case rel => exact ⟨HM, TxL.amiss HR HC.out HK.out⟩
                case measure => rw [HR.rem0 HC.out, hrem.out]; omega
              | ok x q =>
                have HS2 : Hid (textL s n2 q (acc ++ Lib.encodeRune x) = textTo s i) := Lib.hid (by rw [← HS.out]; exact (tl_esc hp92 (by rw [← hk2]; exact ho)).symm)
                have hg := char_goes x q ho
                have hl4 := Lib.runeCells_le x
                rw [Lib.runeCells_length] at hl4
                have HOO := Lib.hid ho
                have hq1 : k2 < q := hg.1
                have hq2 : q ≤ s.size := hg.2
                clear ho hp92 hk2 hg
                go_wp2_with (first
                  | (go_at_call 35; (with_reducible refine (rnextB_in HR hlt).mono ?_); rintro e w2 ⟨rfl, hr, hm⟩; replace HR := hr; replace HM := HM.trans hm; replace HO := HO.bes hm (fun q e => by have e2 : q = r := e; omega); clear c0 c1 f1 c2 hr hm; have c0 := HR.c0; have c1 := HR.c1; have f1 := HR.f1; have c2 := HR.c2)
                  | ((with_reducible refine is_store ?_); refine wpl_rat rfl (.tmp 93) (.tmp 91) rfl rfl k2 (by rw [HK2.out]; rfl) HR ?_; intro w4 hr hm; clear c0 c1 f1 c2; replace HO := HO.bes hm (fun q e => by have e2 : q = r := e; omega); replace HR := hr; replace HM := HM.trans hm; clear hr hm; have c0 := HR.c0; have c1 := HR.c1; have f1 := HR.f1; have c2 := HR.c2)
                  | (go_at_call 55; (with_reducible refine (resc_any HR hk2s hs HK3.out HKA.out).mono ?_); rw [HOO.out]; rintro e w5 ⟨hm, ⟨g, hg, rfl, hI⟩, hr⟩; clear c0 c1 f1 c2; replace HR := hr; replace HO := HO.bes hm (fun q e => by have e2 : q = r := e; omega); replace HM := HM.trans hm; have hms := HM.size; clear hr hm; have c0 := HR.c0; have c1 := HR.c1; have f1 := HR.f1; have c2 := HR.c2)
                  | (refine wpl_append_bytes rfl (.tmp 94) (.tmp 101) 42 rfl Tryz.underlying42 w.heap.size _ acc rfl HO g _ (Lib.encodeRune x) 5 _ (Lib.runeCells_length x) rfl (fun j u hu => by rw [hI.cell, runeB]; simpa using hu) (by omega) hms ?_; intro v9 w9 ho9 hb9 _; replace HR := HR.bes hb9 (by omega); replace HM := HM.ext hb9 (Nat.le_refl _); clear hI hb9 c0 c1 f1 c2; replace HO := ho9; clear ho9; have c0 := HR.c0; have c1 := HR.c1; have f1 := HR.f1; have c2 := HR.c2))
                go_roundw
                case rel => exact ⟨HM, TxL.good hq2 HR HO (by omega) (by simp; omega) HS2⟩
                case measure => rw [HR.rem, hrem.out]; omega
            · have q92 : (bt s k == 92) = false := by simpa using h92
              have hkr : s.size ≤ 140737488355328 := by omega
              have hA := at_any hlt hkr
              have HKB : Hid (badU s k → textTo s i = .bad 7 k) := Lib.hid fun hh => HS.out.symm.trans (tl_utf (by rw [hpk]; exact h32) (by rw [hpk]; exact h34) (by rw [hpk]; exact h92) hh)
              have HKG : Hid (¬ badU s k → textL s n2 (k + (Utf8.decode s k).2) (acc ++ Lib.encodeRune ((Utf8.decode s k).1 : Nat)) = textTo s i) := Lib.hid fun hh => by rw [← HS.out]; exact (tl_go (by rw [hpk]; exact h32) (by rw [hpk]; exact h34) (by rw [hpk]; exact h92) hh).symm
              have hdb := dec_bounds s k hlt
              clear hpk h34 h92 hk2
              by_cases hbu : badU s k
              · have HK := Lib.hid (HKB.out hbu)
                have HA := Lib.hid (atS_bad hbu)
                have HAT := Lib.hid hA
                clear hA hbu HKB HKG hdb
                go_wp2_with (first
                  | (go_at_call 35; (with_reducible refine (rnextB_in HR hlt).mono ?_); rintro e w2 ⟨rfl, hr, hm⟩; replace HR := hr; replace HM := HM.trans hm; replace HO := HO.bes hm (fun q e => by have e2 : q = r := e; omega); clear c0 c1 f1 c2 hr hm; have c0 := HR.c0; have c1 := HR.c1; have f1 := HR.f1; have c2 := HR.c2))
                refine wp_region_below (by kernel_rfl) (fun w8 hHeld => ?_)
                refine wpAnyH_take (i := 0) (oi := ⟨some 27, _, _, _, _, _⟩) (v := ?_) rfl (by kernel_rfl) (by kernel_rfl) (by kernel_rfl) (fun _ _ _ h => h) (Or.inl ⟨by kernel_rfl, ?_⟩) (by assumption) ?_
                rotate_left
                · (intro w hSw; (try dsimp only at hSw); go_simp; try with_reducible rfl)
                try simp only [Act.put, List.setIfInBounds_toArray, List.set_cons_zero, List.set_cons_succ]
                refine wpAnyH_take (i := 1) (oi := ⟨some 28, _, _, _, _, _⟩) (v := ?_) rfl (by kernel_rfl) (by kernel_rfl) (by kernel_rfl) (fun _ _ _ h => h) (Or.inl ⟨by kernel_rfl, ?_⟩) (by assumption) ?_
                rotate_left
                · (intro w hSw; (try dsimp only at hSw); go_simp; try with_reducible rfl)
                try simp only [Act.put, List.setIfInBounds_toArray, List.set_cons_zero, List.set_cons_succ]
                refine wpAnyH_take (i := 2) (oi := ⟨some 29, _, _, _, _, _⟩) (v := ?_) rfl (by kernel_rfl) (by kernel_rfl) (by kernel_rfl) (fun _ _ _ h => h) (Or.inl ⟨by kernel_rfl, ?_⟩) (by assumption) ?_
                rotate_left
                · (intro w hSw; (try dsimp only at hSw); go_simp; try with_reducible rfl)
                try simp only [Act.put, List.setIfInBounds_toArray, List.set_cons_zero, List.set_cons_succ]
                refine wpAnyH_take (i := 3) (oi := ⟨some 30, _, _, _, _, _⟩) (v := ?_) rfl (by kernel_rfl) (by kernel_rfl) (by kernel_rfl) (fun _ _ _ h => h) (Or.inl ⟨by kernel_rfl, ?_⟩) (by assumption) ?_
                rotate_left
                · (intro w hSw; (try dsimp only at hSw); have := cell_below hSw c0; go_simp; try with_reducible rfl)
                try simp only [Act.put, List.setIfInBounds_toArray, List.set_cons_zero, List.set_cons_succ]
                refine wpAnyH_take (i := 4) (oi := ⟨some 31, _, _, _, _, _⟩) (v := ?_) rfl (by kernel_rfl) (by kernel_rfl) (by kernel_rfl) (fun _ _ _ h => h) (Or.inl ⟨by kernel_rfl, ?_⟩) (by assumption) ?_
                rotate_left
                · (intro w hSw; (try dsimp only at hSw); go_simp; try with_reducible rfl)
                try simp only [Act.put, List.setIfInBounds_toArray, List.set_cons_zero, List.set_cons_succ]
                refine wpAnyH_take (i := 5) (oi := ⟨some 32, _, _, _, _, _⟩) (v := ?_) rfl (by kernel_rfl) (by kernel_rfl) (by kernel_rfl) (fun _ _ _ h => h) (Or.inl ⟨by kernel_rfl, ?_⟩) (by assumption) ?_
                rotate_left
                · (intro w hSw; (try dsimp only at hSw); go_simp; try with_reducible rfl)
                try simp only [Act.put, List.setIfInBounds_toArray, List.set_cons_zero, List.set_cons_succ]
                refine wpAnyH_take (i := 6) (oi := ⟨some 33, _, _, _, _, _⟩) (v := ?_) rfl (by kernel_rfl) (by kernel_rfl) (by kernel_rfl) (fun _ _ _ h => h) (Or.inl ⟨by kernel_rfl, ?_⟩) (by assumption) ?_
                rotate_left
                · (intro w hSw; (try dsimp only at hSw); go_simp; try with_reducible rfl)
                try simp only [Act.put, List.setIfInBounds_toArray, List.set_cons_zero, List.set_cons_succ]
                refine wpAnyH_take (i := 7) (oi := ⟨some 34, _, _, _, _, _⟩) (v := ?_) rfl (by kernel_rfl) (by kernel_rfl) (by kernel_rfl) (fun _ _ _ h => h) (Or.inl ⟨by kernel_rfl, ?_⟩) (by assumption) ?_
                rotate_left
                · (intro w hSw; (try dsimp only at hSw); have := cell_below hSw c1; go_simp; try with_reducible rfl)
                try simp only [Act.put, List.setIfInBounds_toArray, List.set_cons_zero, List.set_cons_succ]
                refine wpAnyH_ready (rs := [8]) (by kernel_rfl) (by simp) ?_
                refine AllReadyH.cons (o := ⟨some 35, _, _, _, _, _⟩) rfl (fun K hK => ?_) AllReadyH.nil
                go_simp
                (go_at_call 56; (with_reducible refine (HAT.out _).mono ?_); rintro e w9 ⟨rfl, hb3⟩; rw [HA.out])
                refine hK.out _ _ (hHeld.trans (hb3.mono hHeld.size)) (fun hHeld2 => ?_)
                clear hK K hHeld hb3
                have hHeld := hHeld2
                clear hHeld2
                try simp only [Act.put, List.setIfInBounds_toArray, List.set_cons_zero, List.set_cons_succ]
                refine wpAnyH_take (i := 9) (oi := ⟨some 26, _, _, _, _, _⟩) (v := ?_) rfl (by kernel_rfl) (by kernel_rfl) (by kernel_rfl) (fun _ _ _ h => h) (Or.inl ⟨by kernel_rfl, ?_⟩) (by assumption) ?_
                rotate_left
                · (intro w hSw; (try dsimp only at hSw); go_simp; try with_reducible rfl)
                try simp only [Act.put, List.setIfInBounds_toArray, List.set_cons_zero, List.set_cons_succ]
                refine wpAnyH_take (i := 10) (oi := ⟨some 36, _, _, _, _, _⟩) (v := ?_) rfl (by kernel_rfl) (by kernel_rfl) (by kernel_rfl) (fun _ _ _ h => h) (Or.inl ⟨by kernel_rfl, ?_⟩) (by assumption) ?_
                rotate_left
                · (intro w hSw; (try dsimp only at hSw); go_simp; try with_reducible rfl)
                try simp only [Act.put, List.setIfInBounds_toArray, List.set_cons_zero, List.set_cons_succ]
                refine wpAnyH_take (i := 11) (oi := ⟨some 37, _, _, _, _, _⟩) (v := ?_) rfl (by kernel_rfl) (by kernel_rfl) (by kernel_rfl) (fun _ _ _ h => h) (Or.inl ⟨by kernel_rfl, ?_⟩) (by assumption) ?_
                rotate_left
                · (intro w hSw; (try dsimp only at hSw); go_simp; try with_reducible rfl)
                try simp only [Act.put, List.setIfInBounds_toArray, List.set_cons_zero, List.set_cons_succ]
                refine wpAnyH_take (i := 12) (oi := ⟨some 6, _, _, _, _, _⟩) (v := ?_) rfl (by kernel_rfl) (by kernel_rfl) (by kernel_rfl) (fun _ _ _ h => h) (Or.inl ⟨by kernel_rfl, ?_⟩) (by assumption) ?_
                rotate_left
                · (intro w hSw; (try dsimp only at hSw); go_simp; try with_reducible rfl)
                try simp only [Act.put, List.setIfInBounds_toArray, List.set_cons_zero, List.set_cons_succ]
                refine wpAnyH_take (i := 13) (oi := ⟨some 7, _, _, _, _, _⟩) (v := ?_) rfl (by kernel_rfl) (by kernel_rfl) (by kernel_rfl) (fun _ _ _ h => h) (Or.inl ⟨by kernel_rfl, ?_⟩) (by assumption) ?_
                rotate_left
                · (intro w hSw; (try dsimp only at hSw); go_simp; try with_reducible rfl)
                try simp only [Act.put, List.setIfInBounds_toArray, List.set_cons_zero, List.set_cons_succ]
                refine wpAnyH_done (by kernel_rfl) ?_ _
                have hb8 := hHeld
                clear hHeld
                replace HR := HR.below hb8
                replace HO := HO.below hb8
                replace HM := HM.trans (Mv.of hb8)
                clear hb8 c0 c1 f1 c2
                have c0 := HR.c0
                have c1 := HR.c1
                have f1 := HR.f1
                have c2 := HR.c2
                
                go_wp2_with (first
                  | (go_at_call 36; (with_reducible refine (rfail_any _ _ HR).mono ?_); rintro e w3 ⟨rfl, hr, hm⟩; clear c0 c1 f1 c2; replace HR := hr; replace HM := HM.trans hm; have c0 := HR.c0; have c1 := HR.c1; have f1 := HR.f1; have c2 := HR.c2))
                go_ret
                exact RGot.bad HK.out HM rfl (by decide) HR
              · have HSC := Lib.hid (at_scal hbu)
                have HS2 := Lib.hid (HKG.out hbu)
                have hat := atS_ok hbu
                obtain ⟨D1, D2, hD⟩ : ∃ D1 D2, Utf8.decode s k = (D1, D2) := ⟨_, _, rfl⟩
                rw [hD] at hat hdb HS2 HSC
                have HA := Lib.hid hat
                have HAT := Lib.hid hA
                have hd0 : 0 < D2 := hdb.1
                have hdl : k + D2 ≤ s.size := hdb.2
                have hl4 := Lib.runeCells_le (D1 : Int)
                rw [Lib.runeCells_length] at hl4
                obtain ⟨k4, hk4⟩ : ∃ k4, k4 = k + D2 := ⟨_, rfl⟩
                have HK4 := Lib.hid hk4
                have hk4a : k < k4 := by omega
                have hk4b : k4 ≤ s.size := by omega
                have hd1 : ¬ (D2 : Int) = 0 := by omega
                clear hA hat hD hbu HKB HKG hdb hk4
                go_wp2_with (first
                  | (go_at_call 35; (with_reducible refine (rnextB_in HR hlt).mono ?_); rintro e w2 ⟨rfl, hr, hm⟩; replace HR := hr; replace HM := HM.trans hm; replace HO := HO.bes hm (fun q e => by have e2 : q = r := e; omega); clear c0 c1 f1 c2 hr hm; have c0 := HR.c0; have c1 := HR.c1; have f1 := HR.f1; have c2 := HR.c2))
                refine wp_region_below (by kernel_rfl) (fun w8 hHeld => ?_)
                refine wpAnyH_take (i := 0) (oi := ⟨some 27, _, _, _, _, _⟩) (v := ?_) rfl (by kernel_rfl) (by kernel_rfl) (by kernel_rfl) (fun _ _ _ h => h) (Or.inl ⟨by kernel_rfl, ?_⟩) (by assumption) ?_
                rotate_left
                · (intro w hSw; (try dsimp only at hSw); go_simp; try with_reducible rfl)
                try simp only [Act.put, List.setIfInBounds_toArray, List.set_cons_zero, List.set_cons_succ]
                refine wpAnyH_take (i := 1) (oi := ⟨some 28, _, _, _, _, _⟩) (v := ?_) rfl (by kernel_rfl) (by kernel_rfl) (by kernel_rfl) (fun _ _ _ h => h) (Or.inl ⟨by kernel_rfl, ?_⟩) (by assumption) ?_
                rotate_left
                · (intro w hSw; (try dsimp only at hSw); go_simp; try with_reducible rfl)
                try simp only [Act.put, List.setIfInBounds_toArray, List.set_cons_zero, List.set_cons_succ]
                refine wpAnyH_take (i := 2) (oi := ⟨some 29, _, _, _, _, _⟩) (v := ?_) rfl (by kernel_rfl) (by kernel_rfl) (by kernel_rfl) (fun _ _ _ h => h) (Or.inl ⟨by kernel_rfl, ?_⟩) (by assumption) ?_
                rotate_left
                · (intro w hSw; (try dsimp only at hSw); go_simp; try with_reducible rfl)
                try simp only [Act.put, List.setIfInBounds_toArray, List.set_cons_zero, List.set_cons_succ]
                refine wpAnyH_take (i := 3) (oi := ⟨some 30, _, _, _, _, _⟩) (v := ?_) rfl (by kernel_rfl) (by kernel_rfl) (by kernel_rfl) (fun _ _ _ h => h) (Or.inl ⟨by kernel_rfl, ?_⟩) (by assumption) ?_
                rotate_left
                · (intro w hSw; (try dsimp only at hSw); have := cell_below hSw c0; go_simp; try with_reducible rfl)
                try simp only [Act.put, List.setIfInBounds_toArray, List.set_cons_zero, List.set_cons_succ]
                refine wpAnyH_take (i := 4) (oi := ⟨some 31, _, _, _, _, _⟩) (v := ?_) rfl (by kernel_rfl) (by kernel_rfl) (by kernel_rfl) (fun _ _ _ h => h) (Or.inl ⟨by kernel_rfl, ?_⟩) (by assumption) ?_
                rotate_left
                · (intro w hSw; (try dsimp only at hSw); go_simp; try with_reducible rfl)
                try simp only [Act.put, List.setIfInBounds_toArray, List.set_cons_zero, List.set_cons_succ]
                refine wpAnyH_take (i := 5) (oi := ⟨some 32, _, _, _, _, _⟩) (v := ?_) rfl (by kernel_rfl) (by kernel_rfl) (by kernel_rfl) (fun _ _ _ h => h) (Or.inl ⟨by kernel_rfl, ?_⟩) (by assumption) ?_
                rotate_left
                · (intro w hSw; (try dsimp only at hSw); go_simp; try with_reducible rfl)
                try simp only [Act.put, List.setIfInBounds_toArray, List.set_cons_zero, List.set_cons_succ]
                refine wpAnyH_take (i := 6) (oi := ⟨some 33, _, _, _, _, _⟩) (v := ?_) rfl (by kernel_rfl) (by kernel_rfl) (by kernel_rfl) (fun _ _ _ h => h) (Or.inl ⟨by kernel_rfl, ?_⟩) (by assumption) ?_
                rotate_left
                · (intro w hSw; (try dsimp only at hSw); go_simp; try with_reducible rfl)
                try simp only [Act.put, List.setIfInBounds_toArray, List.set_cons_zero, List.set_cons_succ]
                refine wpAnyH_take (i := 7) (oi := ⟨some 34, _, _, _, _, _⟩) (v := ?_) rfl (by kernel_rfl) (by kernel_rfl) (by kernel_rfl) (fun _ _ _ h => h) (Or.inl ⟨by kernel_rfl, ?_⟩) (by assumption) ?_
                rotate_left
                · (intro w hSw; (try dsimp only at hSw); have := cell_below hSw c1; go_simp; try with_reducible rfl)
                try simp only [Act.put, List.setIfInBounds_toArray, List.set_cons_zero, List.set_cons_succ]
                refine wpAnyH_ready (rs := [8]) (by kernel_rfl) (by simp) ?_
                refine AllReadyH.cons (o := ⟨some 35, _, _, _, _, _⟩) rfl (fun K hK => ?_) AllReadyH.nil
                go_simp
                (go_at_call 56; (with_reducible refine (HAT.out _).mono ?_); rintro e w9 ⟨rfl, hb3⟩; rw [HA.out])
                refine hK.out _ _ (hHeld.trans (hb3.mono hHeld.size)) (fun hHeld2 => ?_)
                clear hK K hHeld hb3
                have hHeld := hHeld2
                clear hHeld2
                try simp only [Act.put, List.setIfInBounds_toArray, List.set_cons_zero, List.set_cons_succ]
                refine wpAnyH_take (i := 9) (oi := ⟨some 26, _, _, _, _, _⟩) (v := ?_) rfl (by kernel_rfl) (by kernel_rfl) (by kernel_rfl) (fun _ _ _ h => h) (Or.inl ⟨by kernel_rfl, ?_⟩) (by assumption) ?_
                rotate_left
                · (intro w hSw; (try dsimp only at hSw); go_simp; try with_reducible rfl)
                try simp only [Act.put, List.setIfInBounds_toArray, List.set_cons_zero, List.set_cons_succ]
                refine wpAnyH_take (i := 10) (oi := ⟨some 36, _, _, _, _, _⟩) (v := ?_) rfl (by kernel_rfl) (by kernel_rfl) (by kernel_rfl) (fun _ _ _ h => h) (Or.inl ⟨by kernel_rfl, ?_⟩) (by assumption) ?_
                rotate_left
                · (intro w hSw; (try dsimp only at hSw); go_simp; try with_reducible rfl)
                try simp only [Act.put, List.setIfInBounds_toArray, List.set_cons_zero, List.set_cons_succ]
                refine wpAnyH_take (i := 11) (oi := ⟨some 37, _, _, _, _, _⟩) (v := ?_) rfl (by kernel_rfl) (by kernel_rfl) (by kernel_rfl) (fun _ _ _ h => h) (Or.inl ⟨by kernel_rfl, ?_⟩) (by assumption) ?_
                rotate_left
                · (intro w hSw; (try dsimp only at hSw); go_simp; try with_reducible rfl)
                try simp only [Act.put, List.setIfInBounds_toArray, List.set_cons_zero, List.set_cons_succ]
                refine wpAnyH_take (i := 12) (oi := ⟨some 6, _, _, _, _, _⟩) (v := ?_) rfl (by kernel_rfl) (by kernel_rfl) (by kernel_rfl) (fun _ _ _ h => h) (Or.inl ⟨by kernel_rfl, ?_⟩) (by assumption) ?_
                rotate_left
                · (intro w hSw; (try dsimp only at hSw); go_simp; try with_reducible rfl)
                try simp only [Act.put, List.setIfInBounds_toArray, List.set_cons_zero, List.set_cons_succ]
                refine wpAnyH_take (i := 13) (oi := ⟨some 7, _, _, _, _, _⟩) (v := ?_) rfl (by kernel_rfl) (by kernel_rfl) (by kernel_rfl) (fun _ _ _ h => h) (Or.inl ⟨by kernel_rfl, ?_⟩) (by assumption) ?_
                rotate_left
                · (intro w hSw; (try dsimp only at hSw); go_simp; try with_reducible rfl)
                try simp only [Act.put, List.setIfInBounds_toArray, List.set_cons_zero, List.set_cons_succ]
                refine wpAnyH_done (by kernel_rfl) ?_ _
                have hb8 := hHeld
                clear hHeld
                replace HR := HR.below hb8
                replace HO := HO.below hb8
                replace HM := HM.trans (Mv.of hb8)
                clear hb8 c0 c1 f1 c2
                have c0 := HR.c0
                have c1 := HR.c1
                have f1 := HR.f1
                have c2 := HR.c2
                
                go_wp2_with (first
                  | (go_at_call 57; (refine (bytes_any HSC.out _).mono ?_); rintro e w6 ⟨g, hg, rfl, hI, hb⟩; replace HR := HR.below hb; replace HO := HO.below hb; replace HM := HM.trans (Mv.of hb); have hms := HM.size; clear hb c0 c1 f1 c2; have c0 := HR.c0; have c1 := HR.c1; have f1 := HR.f1; have c2 := HR.c2)
                  | (refine wpl_append_bytes rfl (.tmp 46) (.tmp 48) 42 rfl Tryz.underlying42 w.heap.size _ acc rfl HO g _ (Lib.encodeRune D1) 5 _ (Lib.runeCells_length D1) rfl (fun j u hu => by rw [hI.cell, runeB]; simpa using hu) (by omega) hms ?_; intro v9 w9 ho9 hb9 _; replace HR := HR.bes hb9 (by omega); replace HM := HM.ext hb9 (Nat.le_refl _); clear hI hb9 c0 c1 f1 c2; replace HO := ho9; clear ho9; have c0 := HR.c0; have c1 := HR.c1; have f1 := HR.f1; have c2 := HR.c2)
                  | ((with_reducible refine is_store ?_); refine wpl_rat rfl (.tmp 58) (.tmp 56) rfl rfl k4 (by rw [HK4.out]; rfl) HR ?_; intro w4 hr hm; clear c0 c1 f1 c2; replace HO := HO.bes hm (fun q e => by have e2 : q = r := e; omega); replace HR := hr; replace HM := HM.trans hm; clear hr hm; have c0 := HR.c0; have c1 := HR.c1; have f1 := HR.f1; have c2 := HR.c2))
                simp only [Act.put, List.setIfInBounds_toArray, List.set_cons_zero, List.set_cons_succ]
                go_roundw
                case rel => exact ⟨HM, TxL.good (n := n2) hk4b HR HO (by omega) (by simp; omega) (by rw [HK4.out]; exact HS2)⟩
                case measure => rw [HR.rem, hrem.out]; omega
      · have HK := Lib.hid (HS.out.symm.trans (tl_ctl (n := n2) (acc := acc) (by rw [pk_end (by omega)]; decide)))
        go_wp2_with (first
          | (go_at_call 35; (with_reducible refine (rnextB_out HR hlt).mono ?_); rintro e w2 ⟨rfl, hr, hm⟩; replace HR := hr; replace HM := HM.trans hm; clear c0 c1 f1 c2 hr hm; have c0 := HR.c0; have c1 := HR.c1; have f1 := HR.f1; have c2 := HR.c2)
          | (go_at_call 36; (with_reducible refine (rfail_any _ _ HR).mono ?_); rintro e w3 ⟨rfl, hr, hm⟩; clear c0 c1 f1 c2; replace HR := hr; replace HM := HM.trans hm; have c0 := HR.c0; have c1 := HR.c1; have f1 := HR.f1; have c2 := HR.c2))
        go_roundw
        case rel => exact ⟨HM, TxL.amiss HR (by decide) HK.out⟩
        case measure => rw [HR.rem0 (by decide), hrem.out]; omega
    · have c0 := HR.c0
      have c1 := HR.c1
      have f1 := HR.f1
      have c2 := HR.c2
      have HC := Lib.hid hc
      have q0 : (c == 0) = false := by simpa using hc
      have HK := Lib.hid hbad
      clear hc hbad
      go_wp2
      go_ret
      exact RGot.bad HK.out HM rfl HC.out HR
end Go.Proofs.YtjhncopbiblenaaGreatDoor
