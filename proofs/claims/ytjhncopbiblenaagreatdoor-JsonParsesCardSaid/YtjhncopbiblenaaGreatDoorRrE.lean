/- Layer 2, the document's reader (coveyref02): escape. -/
import Derived.Test.YtjhncopbiblenaaGreatDoorVuD
import Derived.Test.YtjhncopbiblenaaGreatDoorRrD
namespace Go.Proofs.YtjhncopbiblenaaGreatDoor
open Go.RowKit Go.PlainAid
set_option linter.unusedVariables false
set_option linter.unusedSimpArgs false
theorem hexTo_lt {s : ByteArray} : ∀ (n i : Nat) (v x : Int) (k : Nat), hexTo s n i v = .ok x k → 0 ≤ v → 0 ≤ x ∧ x < (v + 1) * 16 ^ n
  | 0, i, v, x, k, h, h0 => by unfold hexTo at h; injection h with h1 h2; subst h1; omega
  | n + 1, i, v, x, k, h, h0 => by
    unfold hexTo at h
    split at h
    · cases h
    · rename_i hneg
      have hb : hexI (pk s i) ≤ 15 := by
        have hlt : i < s.size := by
          rcases Nat.lt_or_ge i s.size with h1 | h1
          · exact h1
          · rw [pk_end h1] at hneg; exact absurd (by decide) hneg
        rw [pk_in hlt]
        exact (hex_bd (bt_nonneg s i) (bt_le s i)).2
      have h2 := hexTo_lt n _ _ _ _ h (by omega)
      refine ⟨h2.1, Int.lt_of_lt_of_le h2.2 ?_⟩
      rw [Int.pow_succ, Int.mul_comm (16 ^ n) 16, ← Int.mul_assoc]
      exact Int.mul_le_mul_of_nonneg_right (by omega) (by have : (0 : Int) < 16 ^ n := Int.pow_pos (by omega); omega)
theorem ch_esc {s : ByteArray} {i : Nat} {v x : Int} (h : pk s i = v) (hx : escI v = x) (h0 : 0 ≤ x) : charTo s i = .ok x (i + 1) := by
  unfold charTo
  rw [h, hx, if_pos h0]
theorem ch_no {s : ByteArray} {i : Nat} (h : escI (pk s i) < 0) (h2 : pk s i ≠ 117) : charTo s i = .bad 3 i := by
  unfold charTo
  rw [if_neg (by omega), if_pos h2]
theorem ch_u {s : ByteArray} {i : Nat} (h : pk s i = 117) : charTo s i = match hexTo s 4 (i + 1) 0 with
    | .bad c p => .bad c p
    | .ok n k =>
      if n < 55296 ∨ 57343 < n then .ok n k
      else if pk s k = 92 ∧ pk s (k + 1) = 117 then
        match hexTo s 4 (k + 2) 0 with
        | .bad _ _ => .bad 7 (i - 1)
        | .ok m k2 => if n ≤ 56319 ∧ 56320 ≤ m ∧ m ≤ 57343 then .ok (65536 + 1024 * (n - 55296) + (m - 56320)) k2 else .bad 7 (i - 1)
      else .bad 7 (i - 1) := by
  conv => lhs; unfold charTo
  rw [h, if_neg (by decide), if_neg (by decide)]
  rfl
theorem ch_hex_bad {s : ByteArray} {i : Nat} (h : pk s i = 117) {c : Int} {p : Nat} (hx : hexTo s 4 (i + 1) 0 = .bad c p) : charTo s i = .bad c p := by rw [ch_u h, hx]
theorem ch_plain {s : ByteArray} {i : Nat} (h : pk s i = 117) {n : Int} {k : Nat} (hx : hexTo s 4 (i + 1) 0 = .ok n k) (hn : n < 55296 ∨ 57343 < n) : charTo s i = .ok n k := by rw [ch_u h, hx]; exact if_pos hn
theorem ch_pair {s : ByteArray} {i : Nat} (h : pk s i = 117) {n m : Int} {k : Nat} (hx : hexTo s 4 (i + 1) 0 = .ok n k) (hn : ¬ (n < 55296 ∨ 57343 < n)) (h1 : n ≤ 56319) (hl : lowS s k = some m) : charTo s i = .ok (65536 + 1024 * (n - 55296) + m - 56320) (k + 6) ∧ 56320 ≤ m ∧ m ≤ 57343 ∧ k + 6 ≤ s.size := by
  unfold lowS at hl
  split at hl
  · rename_i hm
    split at hl
    · rename_i m' k2 hm2
      split at hl
      · rename_i hb
        injection hl with hl
        subst hl
        have he := hexTo_end _ _ _ _ _ hm2
        have hg := (hex_goes 4 (k + 2) 0 (by omega) m' k2 hm2).2
        refine ⟨?_, hb.1, hb.2, by omega⟩
        rw [ch_u h, hx]
        show (if n < 55296 ∨ 57343 < n then _ else _) = _
        rw [if_neg hn, if_pos hm, hm2]
        show (if n ≤ 56319 ∧ 56320 ≤ m' ∧ m' ≤ 57343 then _ else _) = _
        rw [if_pos ⟨h1, hb⟩]
        congr 1
        · omega
      · cases hl
    · cases hl
  · cases hl
theorem ch_none {s : ByteArray} {i : Nat} (h : pk s i = 117) {n : Int} {k : Nat} (hx : hexTo s 4 (i + 1) 0 = .ok n k) (hn : ¬ (n < 55296 ∨ 57343 < n)) (hl : 56319 < n ∨ lowS s k = none) : charTo s i = .bad 7 (i - 1) := by
  rw [ch_u h, hx]
  show (if n < 55296 ∨ 57343 < n then _ else _) = _
  rw [if_neg hn]
  split
  · rename_i hm
    split
    · rfl
    · rename_i m k2 hm2
      rw [if_neg]
      rintro ⟨h1, h2⟩
      rcases hl with hl | hl
      · omega
      · unfold lowS at hl
        rw [if_pos hm, hm2] at hl
        simp [h2] at hl
  · rfl
/-- What escape gives: the bytes of a character in a row of their own. -/
def EscV (w : World) (x : Int) (e : Ending) (w' : World) : Prop := ∃ g, w.heap.size ≤ g ∧ e = .returned (.slice (some ⟨g, 0, none⟩) (Lib.runeCells x).length (Lib.runeCells x).length) ∧ IBox w' g 5 (Lib.runeCells x).toArray
abbrev NilS (e : Ending) : Prop := e = .returned (.slice none 0 0)
theorem EscV.of {w w1 w' : World} {x : Int} {e : Ending} (h : NewB (Lib.runeCells x) w1 e w') (hm : w.heap.size ≤ w1.heap.size) : EscV w x e w' := by
  obtain ⟨g, hg, he, hI, _⟩ := h
  exact ⟨g, Nat.le_trans hm hg, he, hI⟩
theorem esc_one {w w1 : World} {x : Int} {arr : Array Value} (hx : 0 ≤ x ∧ x < 128) (ha : arr = #[.int .u8 x]) (hm : w.heap.size ≤ w1.heap.size) : EscV w x (.returned (.slice (some ⟨w1.heap.size, 0, none⟩) 1 1)) (w1.alloc (.cells arr 5)) := by
  have hr : Lib.runeCells x = [.int .u8 x] := by unfold Lib.runeCells; rw [Lib.encodeRuneZ_one (by omega) (by omega)]; rfl
  exact EscV.of (NewB.mk (by rw [hr]; rfl) (by rw [hr, ha])) hm
theorem alloc_rr {w : World} {r : Nat} {s : ByteArray} {i : Nat} {c p : Int} (h : RR w r s i c p) (o : Obj) : RR (w.alloc o) r s i c p ∧ Mv r w (w.alloc o) := ⟨IBox.alloc h o, Mv.of ((Below.refl _ _).alloc (Nat.le_refl _) _)⟩
set_option maxRecDepth 10000 in
set_option maxHeartbeats 8000000 in
theorem resc_any {w : World} {r : Nat} {s : ByteArray} {i f : Nat} {x : Int} (h : RR w r s i 0 0) (hi : i ≤ s.size) (hs : s.size ≤ 65536) (hf : f + 1 = i) (hx : x = f) :
    Calls Tryz.prog 55 #[At r, .int .i64 x] w (RGot (charTo s i) r s w (EscV w) NilS) := by
  subst hx
  have HR := h
  have HM := Mv.refl r w
  have c0 := HR.c0
  have c1 := HR.c1
  have f1 := HR.f1
  have c2 := HR.c2
  have HF : Hid (i - 1 = f) := Lib.hid (by omega)
  clear hf
  by_cases hlt : i < s.size
  · have a0 := bt_nonneg s i
    have a1 := bt_le s i
    have hpk := pk_in hlt
    obtain ⟨k, hk⟩ : ∃ k, k = i + 1 := ⟨_, rfl⟩
    have hks : k ≤ s.size := by omega
    have hk1 : 1 ≤ k := by omega
    have HK1 := Lib.hid hk
    by_cases v34 : bt s i = 34
    · have HK : Hid (charTo s i = .ok 34 k) := Lib.hid (by rw [hk]; exact ch_esc (hpk.trans v34) (by decide) (by decide))
      have HV := Lib.hid v34
      clear v34 hpk hk a0 a1
      go_enter Tryz.func55, Tryz.ntmps55
      go_wp2_with (first
        | (go_at_call 35; (with_reducible refine (rnextB_in HR hlt).mono ?_); rintro e w2 ⟨rfl, hr, hm⟩; replace HR := hr; replace HM := HM.trans hm; clear c0 c1 f1 c2 hr hm; have c0 := HR.c0; have c1 := HR.c1; have f1 := HR.f1; have c2 := HR.c2; rw [HV.out])
        | ((with_reducible refine is_store ?_); refine wpl_rat rfl (.tmp 29) (.tmp 27) rfl rfl k (by rw [HK1.out]; rfl) HR ?_; intro w4 hr hm; clear c0 c1 f1 c2; replace HR := hr; replace HM := HM.trans hm; clear hr hm; have c0 := HR.c0; have c1 := HR.c1; have f1 := HR.f1; have c2 := HR.c2))
      go_ret
      exact RGot.ok HK.out (HM.trans (alloc_rr HR _).2) (esc_one (by decide) rfl HM.size) (alloc_rr HR _).1
    · by_cases v92 : bt s i = 92
      · have HK : Hid (charTo s i = .ok 92 k) := Lib.hid (by rw [hk]; exact ch_esc (hpk.trans v92) (by decide) (by decide))
        have HV := Lib.hid v92
        clear v92 hpk hk a0 a1
        go_enter Tryz.func55, Tryz.ntmps55
        go_wp2_with (first
          | (go_at_call 35; (with_reducible refine (rnextB_in HR hlt).mono ?_); rintro e w2 ⟨rfl, hr, hm⟩; replace HR := hr; replace HM := HM.trans hm; clear c0 c1 f1 c2 hr hm; have c0 := HR.c0; have c1 := HR.c1; have f1 := HR.f1; have c2 := HR.c2; rw [HV.out])
          | ((with_reducible refine is_store ?_); refine wpl_rat rfl (.tmp 29) (.tmp 27) rfl rfl k (by rw [HK1.out]; rfl) HR ?_; intro w4 hr hm; clear c0 c1 f1 c2; replace HR := hr; replace HM := HM.trans hm; clear hr hm; have c0 := HR.c0; have c1 := HR.c1; have f1 := HR.f1; have c2 := HR.c2))
        go_ret
        exact RGot.ok HK.out (HM.trans (alloc_rr HR _).2) (esc_one (by decide) rfl HM.size) (alloc_rr HR _).1
      · by_cases v47 : bt s i = 47
        · have HK : Hid (charTo s i = .ok 47 k) := Lib.hid (by rw [hk]; exact ch_esc (hpk.trans v47) (by decide) (by decide))
          have HV := Lib.hid v47
          clear v47 hpk hk a0 a1
          go_enter Tryz.func55, Tryz.ntmps55
          go_wp2_with (first
            | (go_at_call 35; (with_reducible refine (rnextB_in HR hlt).mono ?_); rintro e w2 ⟨rfl, hr, hm⟩; replace HR := hr; replace HM := HM.trans hm; clear c0 c1 f1 c2 hr hm; have c0 := HR.c0; have c1 := HR.c1; have f1 := HR.f1; have c2 := HR.c2; rw [HV.out])
            | ((with_reducible refine is_store ?_); refine wpl_rat rfl (.tmp 29) (.tmp 27) rfl rfl k (by rw [HK1.out]; rfl) HR ?_; intro w4 hr hm; clear c0 c1 f1 c2; replace HR := hr; replace HM := HM.trans hm; clear hr hm; have c0 := HR.c0; have c1 := HR.c1; have f1 := HR.f1; have c2 := HR.c2))
          go_ret
          exact RGot.ok HK.out (HM.trans (alloc_rr HR _).2) (esc_one (by decide) rfl HM.size) (alloc_rr HR _).1
        · by_cases v98 : bt s i = 98
          · have HK : Hid (charTo s i = .ok 8 k) := Lib.hid (by rw [hk]; exact ch_esc (hpk.trans v98) (by decide) (by decide))
            have HV := Lib.hid v98
            clear v98 hpk hk a0 a1
            go_enter Tryz.func55, Tryz.ntmps55
            go_wp2_with (first
              | (go_at_call 35; (with_reducible refine (rnextB_in HR hlt).mono ?_); rintro e w2 ⟨rfl, hr, hm⟩; replace HR := hr; replace HM := HM.trans hm; clear c0 c1 f1 c2 hr hm; have c0 := HR.c0; have c1 := HR.c1; have f1 := HR.f1; have c2 := HR.c2; rw [HV.out])
              | ((with_reducible refine is_store ?_); refine wpl_rat rfl (.tmp 29) (.tmp 27) rfl rfl k (by rw [HK1.out]; rfl) HR ?_; intro w4 hr hm; clear c0 c1 f1 c2; replace HR := hr; replace HM := HM.trans hm; clear hr hm; have c0 := HR.c0; have c1 := HR.c1; have f1 := HR.f1; have c2 := HR.c2))
            go_ret
            exact RGot.ok HK.out (HM.trans (alloc_rr HR _).2) (esc_one (by decide) rfl HM.size) (alloc_rr HR _).1
          · by_cases v102 : bt s i = 102
            · have HK : Hid (charTo s i = .ok 12 k) := Lib.hid (by rw [hk]; exact ch_esc (hpk.trans v102) (by decide) (by decide))
              have HV := Lib.hid v102
              clear v102 hpk hk a0 a1
              go_enter Tryz.func55, Tryz.ntmps55
              go_wp2_with (first
                | (go_at_call 35; (with_reducible refine (rnextB_in HR hlt).mono ?_); rintro e w2 ⟨rfl, hr, hm⟩; replace HR := hr; replace HM := HM.trans hm; clear c0 c1 f1 c2 hr hm; have c0 := HR.c0; have c1 := HR.c1; have f1 := HR.f1; have c2 := HR.c2; rw [HV.out])
                | ((with_reducible refine is_store ?_); refine wpl_rat rfl (.tmp 29) (.tmp 27) rfl rfl k (by rw [HK1.out]; rfl) HR ?_; intro w4 hr hm; clear c0 c1 f1 c2; replace HR := hr; replace HM := HM.trans hm; clear hr hm; have c0 := HR.c0; have c1 := HR.c1; have f1 := HR.f1; have c2 := HR.c2))
              go_ret
              exact RGot.ok HK.out (HM.trans (alloc_rr HR _).2) (esc_one (by decide) rfl HM.size) (alloc_rr HR _).1
            · by_cases v110 : bt s i = 110
              · have HK : Hid (charTo s i = .ok 10 k) := Lib.hid (by rw [hk]; exact ch_esc (hpk.trans v110) (by decide) (by decide))
                have HV := Lib.hid v110
                clear v110 hpk hk a0 a1
                go_enter Tryz.func55, Tryz.ntmps55
                go_wp2_with (first
                  | (go_at_call 35; (with_reducible refine (rnextB_in HR hlt).mono ?_); rintro e w2 ⟨rfl, hr, hm⟩; replace HR := hr; replace HM := HM.trans hm; clear c0 c1 f1 c2 hr hm; have c0 := HR.c0; have c1 := HR.c1; have f1 := HR.f1; have c2 := HR.c2; rw [HV.out])
                  | ((with_reducible refine is_store ?_); refine wpl_rat rfl (.tmp 29) (.tmp 27) rfl rfl k (by rw [HK1.out]; rfl) HR ?_; intro w4 hr hm; clear c0 c1 f1 c2; replace HR := hr; replace HM := HM.trans hm; clear hr hm; have c0 := HR.c0; have c1 := HR.c1; have f1 := HR.f1; have c2 := HR.c2))
                go_ret
                exact RGot.ok HK.out (HM.trans (alloc_rr HR _).2) (esc_one (by decide) rfl HM.size) (alloc_rr HR _).1
              · by_cases v114 : bt s i = 114
                · have HK : Hid (charTo s i = .ok 13 k) := Lib.hid (by rw [hk]; exact ch_esc (hpk.trans v114) (by decide) (by decide))
                  have HV := Lib.hid v114
                  clear v114 hpk hk a0 a1
                  go_enter Tryz.func55, Tryz.ntmps55
                  go_wp2_with (first
                    | (go_at_call 35; (with_reducible refine (rnextB_in HR hlt).mono ?_); rintro e w2 ⟨rfl, hr, hm⟩; replace HR := hr; replace HM := HM.trans hm; clear c0 c1 f1 c2 hr hm; have c0 := HR.c0; have c1 := HR.c1; have f1 := HR.f1; have c2 := HR.c2; rw [HV.out])
                    | ((with_reducible refine is_store ?_); refine wpl_rat rfl (.tmp 29) (.tmp 27) rfl rfl k (by rw [HK1.out]; rfl) HR ?_; intro w4 hr hm; clear c0 c1 f1 c2; replace HR := hr; replace HM := HM.trans hm; clear hr hm; have c0 := HR.c0; have c1 := HR.c1; have f1 := HR.f1; have c2 := HR.c2))
                  go_ret
                  exact RGot.ok HK.out (HM.trans (alloc_rr HR _).2) (esc_one (by decide) rfl HM.size) (alloc_rr HR _).1
                · by_cases v116 : bt s i = 116
                  · have HK : Hid (charTo s i = .ok 9 k) := Lib.hid (by rw [hk]; exact ch_esc (hpk.trans v116) (by decide) (by decide))
                    have HV := Lib.hid v116
                    clear v116 hpk hk a0 a1
                    go_enter Tryz.func55, Tryz.ntmps55
                    go_wp2_with (first
                      | (go_at_call 35; (with_reducible refine (rnextB_in HR hlt).mono ?_); rintro e w2 ⟨rfl, hr, hm⟩; replace HR := hr; replace HM := HM.trans hm; clear c0 c1 f1 c2 hr hm; have c0 := HR.c0; have c1 := HR.c1; have f1 := HR.f1; have c2 := HR.c2; rw [HV.out])
                      | ((with_reducible refine is_store ?_); refine wpl_rat rfl (.tmp 29) (.tmp 27) rfl rfl k (by rw [HK1.out]; rfl) HR ?_; intro w4 hr hm; clear c0 c1 f1 c2; replace HR := hr; replace HM := HM.trans hm; clear hr hm; have c0 := HR.c0; have c1 := HR.c1; have f1 := HR.f1; have c2 := HR.c2))
                    go_ret
                    exact RGot.ok HK.out (HM.trans (alloc_rr HR _).2) (esc_one (by decide) rfl HM.size) (alloc_rr HR _).1
                  · by_cases v117 : bt s i = 117
                    · have HP : Hid (pk s i = 117) := Lib.hid (hpk.trans v117)
                      have HV := Lib.hid v117
                      clear v117 hpk hk a0 a1
                      cases ho : hexTo s 4 k 0 with
                      | bad c p =>
                        have HK : Hid (charTo s i = .bad c p) := Lib.hid (ch_hex_bad HP.out (by rw [← HK1.out]; exact ho))
                        have HO := Lib.hid ho
                        clear ho
                        go_enter Tryz.func55, Tryz.ntmps55
                        go_wp2_with (first
                          | (go_at_call 35; (with_reducible refine (rnextB_in HR hlt).mono ?_); rintro e w2 ⟨rfl, hr, hm⟩; replace HR := hr; replace HM := HM.trans hm; clear c0 c1 f1 c2 hr hm; have c0 := HR.c0; have c1 := HR.c1; have f1 := HR.f1; have c2 := HR.c2; rw [HV.out])
                          | ((with_reducible refine is_store ?_); refine wpl_rat rfl (.tmp 29) (.tmp 27) rfl rfl k (by rw [HK1.out]; rfl) HR ?_; intro w4 hr hm; clear c0 c1 f1 c2; replace HR := hr; replace HM := HM.trans hm; clear hr hm; have c0 := HR.c0; have c1 := HR.c1; have f1 := HR.f1; have c2 := HR.c2)
                          | (go_at_call 70; (with_reducible refine (rfour_any HR hks hs).mono ?_); rw [HO.out]; rintro e w5 ⟨hm, rfl, hc, i2, hr⟩; have hc2 : (c == 0) = false := (by simpa using hc); have hc3 : (c != 0) = true := (by simpa using hc); have HC := Lib.hid hc; clear hc; clear c0 c1 f1 c2; replace HR := hr; replace HM := HM.trans hm; clear hr hm; have c0 := HR.c0; have c1 := HR.c1; have f1 := HR.f1; have c2 := HR.c2))
                        go_ret
                        exact RGot.bad HK.out HM rfl HC.out HR
                      | ok n k2 =>
                        have hg := hex_goes 4 k 0 (by decide) n k2 ho
                        have hnb := hexTo_lt 4 k 0 n k2 ho (Int.le_refl _)
                        have hn0 : 0 ≤ n := hnb.1
                        have hn1 : n ≤ 65535 := by have := hnb.2; simp at this; omega
                        have hk2s : k2 ≤ s.size := hg.2
                        have HO := Lib.hid ho
                        have ho2 : hexTo s 4 (i + 1) 0 = .ok n k2 := by rw [← HK1.out]; exact ho
                        have HO2 := Lib.hid ho2
                        clear ho hg hnb ho2
                        by_cases n1 : n < 55296
                        · have HK : Hid (charTo s i = .ok n k2) := Lib.hid (ch_plain HP.out HO2.out (by omega))
                          go_enter Tryz.func55, Tryz.ntmps55
                          go_wp2_with (first
                            | (go_at_call 35; (with_reducible refine (rnextB_in HR hlt).mono ?_); rintro e w2 ⟨rfl, hr, hm⟩; replace HR := hr; replace HM := HM.trans hm; clear c0 c1 f1 c2 hr hm; have c0 := HR.c0; have c1 := HR.c1; have f1 := HR.f1; have c2 := HR.c2; rw [HV.out])
                            | ((with_reducible refine is_store ?_); refine wpl_rat rfl (.tmp 29) (.tmp 27) rfl rfl k (by rw [HK1.out]; rfl) HR ?_; intro w4 hr hm; clear c0 c1 f1 c2; replace HR := hr; replace HM := HM.trans hm; clear hr hm; have c0 := HR.c0; have c1 := HR.c1; have f1 := HR.f1; have c2 := HR.c2)
                            | (go_at_call 70; (with_reducible refine (rfour_any HR hks hs).mono ?_); rw [HO.out]; rintro e w5 ⟨hm, rfl, hr⟩; clear c0 c1 f1 c2; replace HR := hr; replace HM := HM.trans hm; clear hr hm; have c0 := HR.c0; have c1 := HR.c1; have f1 := HR.f1; have c2 := HR.c2)
                            | (go_at_call 57; (refine (bytes_any (p := n) (by unfold Scal; omega) _).mono ?_); rintro e w6 hn; have hms := HM.size; obtain ⟨g, hg, rfl, hI, hb⟩ := hn; have hes : EscV w (n) (.returned (.slice (some ⟨g, 0, none⟩) (Lib.runeCells (n)).length (Lib.runeCells (n)).length)) w6 := ⟨g, Nat.le_trans hms hg, rfl, hI⟩; have HES := Lib.hid hes; clear hes hI hg; replace HR := HR.below hb; replace HM := HM.trans (Mv.of hb); clear hb c0 c1 f1 c2))
                          go_ret
                          exact RGot.ok HK.out HM HES.out HR
                        · by_cases n2 : 57343 < n
                          · have HK : Hid (charTo s i = .ok n k2) := Lib.hid (ch_plain HP.out HO2.out (by omega))
                            go_enter Tryz.func55, Tryz.ntmps55
                            go_wp2_with (first
                              | (go_at_call 35; (with_reducible refine (rnextB_in HR hlt).mono ?_); rintro e w2 ⟨rfl, hr, hm⟩; replace HR := hr; replace HM := HM.trans hm; clear c0 c1 f1 c2 hr hm; have c0 := HR.c0; have c1 := HR.c1; have f1 := HR.f1; have c2 := HR.c2; rw [HV.out])
                              | ((with_reducible refine is_store ?_); refine wpl_rat rfl (.tmp 29) (.tmp 27) rfl rfl k (by rw [HK1.out]; rfl) HR ?_; intro w4 hr hm; clear c0 c1 f1 c2; replace HR := hr; replace HM := HM.trans hm; clear hr hm; have c0 := HR.c0; have c1 := HR.c1; have f1 := HR.f1; have c2 := HR.c2)
                              | (go_at_call 70; (with_reducible refine (rfour_any HR hks hs).mono ?_); rw [HO.out]; rintro e w5 ⟨hm, rfl, hr⟩; clear c0 c1 f1 c2; replace HR := hr; replace HM := HM.trans hm; clear hr hm; have c0 := HR.c0; have c1 := HR.c1; have f1 := HR.f1; have c2 := HR.c2)
                              | (go_at_call 57; (refine (bytes_any (p := n) (by unfold Scal; omega) _).mono ?_); rintro e w6 hn; have hms := HM.size; obtain ⟨g, hg, rfl, hI, hb⟩ := hn; have hes : EscV w (n) (.returned (.slice (some ⟨g, 0, none⟩) (Lib.runeCells (n)).length (Lib.runeCells (n)).length)) w6 := ⟨g, Nat.le_trans hms hg, rfl, hI⟩; have HES := Lib.hid hes; clear hes hI hg; replace HR := HR.below hb; replace HM := HM.trans (Mv.of hb); clear hb c0 c1 f1 c2))
                            go_ret
                            exact RGot.ok HK.out HM HES.out HR
                          · by_cases n3 : n ≤ 56319
                            · cases hl : lowS s k2 with
                              | none =>
                                have HK : Hid (charTo s i = .bad 7 f) := Lib.hid (by rw [ch_none HP.out HO2.out (by omega) (.inr hl), HF.out])
                                have HL := Lib.hid hl
                                clear hl
                                go_enter Tryz.func55, Tryz.ntmps55
                                go_wp2_with (first
                                  | (go_at_call 35; (with_reducible refine (rnextB_in HR hlt).mono ?_); rintro e w2 ⟨rfl, hr, hm⟩; replace HR := hr; replace HM := HM.trans hm; clear c0 c1 f1 c2 hr hm; have c0 := HR.c0; have c1 := HR.c1; have f1 := HR.f1; have c2 := HR.c2; rw [HV.out])
                                  | ((with_reducible refine is_store ?_); refine wpl_rat rfl (.tmp 29) (.tmp 27) rfl rfl k (by rw [HK1.out]; rfl) HR ?_; intro w4 hr hm; clear c0 c1 f1 c2; replace HR := hr; replace HM := HM.trans hm; clear hr hm; have c0 := HR.c0; have c1 := HR.c1; have f1 := HR.f1; have c2 := HR.c2)
                                  | (go_at_call 70; (with_reducible refine (rfour_any HR hks hs).mono ?_); rw [HO.out]; rintro e w5 ⟨hm, rfl, hr⟩; clear c0 c1 f1 c2; replace HR := hr; replace HM := HM.trans hm; clear hr hm; have c0 := HR.c0; have c1 := HR.c1; have f1 := HR.f1; have c2 := HR.c2)
                                  | (go_at_call 71; (with_reducible refine (rlow_any HR hk2s hs).mono ?_); rw [HL.out]; rintro e w7 ⟨⟨x, rfl⟩, hb⟩; replace HR := HR.below hb; replace HM := HM.trans (Mv.of hb); clear hb c0 c1 f1 c2; have c0 := HR.c0; have c1 := HR.c1; have f1 := HR.f1; have c2 := HR.c2)
                                  | (go_at_call 36; (with_reducible refine (rfail_any _ _ HR).mono ?_); rintro e w3 ⟨rfl, hr, hm⟩; clear c0 c1 f1 c2; replace HR := hr; replace HM := HM.trans hm; have c0 := HR.c0; have c1 := HR.c1; have f1 := HR.f1; have c2 := HR.c2))
                                go_ret
                                exact RGot.bad HK.out HM rfl (by decide) HR
                              | some m =>
                                obtain ⟨hp1, hp2, hp3, hp4⟩ := ch_pair HP.out HO2.out (by omega) n3 hl
                                have HK := Lib.hid hp1
                                have HL := Lib.hid hl
                                clear hl hp1
                                go_enter Tryz.func55, Tryz.ntmps55
                                go_wp2_with (first
                                  | (go_at_call 35; (with_reducible refine (rnextB_in HR hlt).mono ?_); rintro e w2 ⟨rfl, hr, hm⟩; replace HR := hr; replace HM := HM.trans hm; clear c0 c1 f1 c2 hr hm; have c0 := HR.c0; have c1 := HR.c1; have f1 := HR.f1; have c2 := HR.c2; rw [HV.out])
                                  | ((with_reducible refine is_store ?_); refine wpl_rat rfl (.tmp 29) (.tmp 27) rfl rfl k (by rw [HK1.out]; rfl) HR ?_; intro w4 hr hm; clear c0 c1 f1 c2; replace HR := hr; replace HM := HM.trans hm; clear hr hm; have c0 := HR.c0; have c1 := HR.c1; have f1 := HR.f1; have c2 := HR.c2)
                                  | (go_at_call 70; (with_reducible refine (rfour_any HR hks hs).mono ?_); rw [HO.out]; rintro e w5 ⟨hm, rfl, hr⟩; clear c0 c1 f1 c2; replace HR := hr; replace HM := HM.trans hm; clear hr hm; have c0 := HR.c0; have c1 := HR.c1; have f1 := HR.f1; have c2 := HR.c2)
                                  | (go_at_call 71; (with_reducible refine (rlow_any HR hk2s hs).mono ?_); rw [HL.out]; rintro e w7 ⟨rfl, hb⟩; replace HR := HR.below hb; replace HM := HM.trans (Mv.of hb); clear hb c0 c1 f1 c2; have c0 := HR.c0; have c1 := HR.c1; have f1 := HR.f1; have c2 := HR.c2)
                                  | ((with_reducible refine is_store ?_); refine wpl_rat rfl (.tmp 81) (.tmp 79) rfl rfl (k2 + 6) (by rfl) HR ?_; intro w4 hr hm; clear c0 c1 f1 c2; replace HR := hr; replace HM := HM.trans hm; clear hr hm; have c0 := HR.c0; have c1 := HR.c1; have f1 := HR.f1; have c2 := HR.c2)
                                  | (go_at_call 57; (refine (bytes_any (p := 65536 + 1024 * (n - 55296) + m - 56320) (by unfold Scal; omega) _).mono ?_); rintro e w6 hn; have hms := HM.size; obtain ⟨g, hg, rfl, hI, hb⟩ := hn; have hes : EscV w (65536 + 1024 * (n - 55296) + m - 56320) (.returned (.slice (some ⟨g, 0, none⟩) (Lib.runeCells (65536 + 1024 * (n - 55296) + m - 56320)).length (Lib.runeCells (65536 + 1024 * (n - 55296) + m - 56320)).length)) w6 := ⟨g, Nat.le_trans hms hg, rfl, hI⟩; have HES := Lib.hid hes; clear hes hI hg; replace HR := HR.below hb; replace HM := HM.trans (Mv.of hb); clear hb c0 c1 f1 c2))
                                go_ret
                                exact RGot.ok HK.out HM HES.out HR
                            · have HK : Hid (charTo s i = .bad 7 f) := Lib.hid (by rw [ch_none HP.out HO2.out (by omega) (.inl (by omega)), HF.out])
                              go_enter Tryz.func55, Tryz.ntmps55
                              go_wp2_with (first
                                | (go_at_call 35; (with_reducible refine (rnextB_in HR hlt).mono ?_); rintro e w2 ⟨rfl, hr, hm⟩; replace HR := hr; replace HM := HM.trans hm; clear c0 c1 f1 c2 hr hm; have c0 := HR.c0; have c1 := HR.c1; have f1 := HR.f1; have c2 := HR.c2; rw [HV.out])
                                | ((with_reducible refine is_store ?_); refine wpl_rat rfl (.tmp 29) (.tmp 27) rfl rfl k (by rw [HK1.out]; rfl) HR ?_; intro w4 hr hm; clear c0 c1 f1 c2; replace HR := hr; replace HM := HM.trans hm; clear hr hm; have c0 := HR.c0; have c1 := HR.c1; have f1 := HR.f1; have c2 := HR.c2)
                                | (go_at_call 70; (with_reducible refine (rfour_any HR hks hs).mono ?_); rw [HO.out]; rintro e w5 ⟨hm, rfl, hr⟩; clear c0 c1 f1 c2; replace HR := hr; replace HM := HM.trans hm; clear hr hm; have c0 := HR.c0; have c1 := HR.c1; have f1 := HR.f1; have c2 := HR.c2)
                                | (go_at_call 36; (with_reducible refine (rfail_any _ _ HR).mono ?_); rintro e w3 ⟨rfl, hr, hm⟩; clear c0 c1 f1 c2; replace HR := hr; replace HM := HM.trans hm; have c0 := HR.c0; have c1 := HR.c1; have f1 := HR.f1; have c2 := HR.c2))
                              go_ret
                              exact RGot.bad HK.out HM rfl (by decide) HR
                    · have q34 : (bt s i == 34) = false := by simpa using v34
                      have q92 : (bt s i == 92) = false := by simpa using v92
                      have q47 : (bt s i == 47) = false := by simpa using v47
                      have q98 : (bt s i == 98) = false := by simpa using v98
                      have q102 : (bt s i == 102) = false := by simpa using v102
                      have q110 : (bt s i == 110) = false := by simpa using v110
                      have q114 : (bt s i == 114) = false := by simpa using v114
                      have q116 : (bt s i == 116) = false := by simpa using v116
                      have q117 : (bt s i == 117) = false := by simpa using v117
                      have HK : Hid (charTo s i = .bad 3 i) := Lib.hid (ch_no (by rw [hpk]; unfold escI; simp [v34, v92, v47, v98, v102, v110, v114, v116]) (by rw [hpk]; exact v117))
                      have hi0 : (k : Int) - 1 = i := by omega
                      have HI0 := Lib.hid hi0
                      clear hk hpk hi0 v34 v92 v47 v98 v102 v110 v114 v116 v117
                      go_enter Tryz.func55, Tryz.ntmps55
                      go_wp2_with (first
                        | (go_at_call 35; (with_reducible refine (rnextB_in HR hlt).mono ?_); rintro e w2 ⟨rfl, hr, hm⟩; replace HR := hr; replace HM := HM.trans hm; clear c0 c1 f1 c2 hr hm; have c0 := HR.c0; have c1 := HR.c1; have f1 := HR.f1; have c2 := HR.c2)
                        | ((with_reducible refine is_store ?_); refine wpl_rat rfl (.tmp 29) (.tmp 27) rfl rfl k (by rw [HK1.out]; rfl) HR ?_; intro w4 hr hm; clear c0 c1 f1 c2; replace HR := hr; replace HM := HM.trans hm; clear hr hm; have c0 := HR.c0; have c1 := HR.c1; have f1 := HR.f1; have c2 := HR.c2)
                        | (go_at_call 36; (with_reducible refine (rfail_any _ _ HR).mono ?_); rw [HI0.out]; rintro e w3 ⟨rfl, hr, hm⟩; clear c0 c1 f1 c2; replace HR := hr; replace HM := HM.trans hm; have c0 := HR.c0; have c1 := HR.c1; have f1 := HR.f1; have c2 := HR.c2))
                      go_ret
                      exact RGot.bad HK.out HM rfl (by decide) HR
  · have HK : Hid (charTo s i = .bad 3 i) := Lib.hid (ch_no (by rw [pk_end (by omega)]; decide) (by rw [pk_end (by omega)]; decide))
    go_enter Tryz.func55, Tryz.ntmps55
    go_wp2_with (first
      | (go_at_call 35; (with_reducible refine (rnextB_out HR hlt).mono ?_); rintro e w2 ⟨rfl, hr, hm⟩; replace HR := hr; replace HM := HM.trans hm; clear c0 c1 f1 c2 hr hm; have c0 := HR.c0; have c1 := HR.c1; have f1 := HR.f1; have c2 := HR.c2)
      | (go_at_call 36; (with_reducible refine (rfail_any _ _ HR).mono ?_); rintro e w3 ⟨rfl, hr, hm⟩; clear c0 c1 f1 c2; replace HR := hr; replace HM := HM.trans hm; have c0 := HR.c0; have c1 := HR.c1; have f1 := HR.f1; have c2 := HR.c2))
    go_ret
    exact RGot.bad HK.out HM rfl (by decide) HR
end Go.Proofs.YtjhncopbiblenaaGreatDoor
