/- The document's layer 1, walked: coveyref01.At finds what Go's decoder finds. -/
import Derived.Test.YtbehakabglegjaaGreatDoorQ02
namespace Go.Proofs.YtbehakabglegjaaGreatDoor
open Go.RowKit Go.PlainAid
set_option linter.unusedVariables false
set_option linter.unusedSimpArgs false
theorem val_bd (s : ByteArray) (i n k : Nat) (hk : k ≤ 3) : -100000000 ≤ valI s i n k ∧ valI s i n k ≤ 100000000 := by
  have h0 := bt_nonneg s i
  have h0' := bt_le s i
  have h1 := bt_nonneg s (i + 1)
  have h1' := bt_le s (i + 1)
  have h2 := bt_nonneg s (i + 2)
  have h2' := bt_le s (i + 2)
  have h3 := bt_nonneg s (i + 3)
  have h3' := bt_le s (i + 3)
  have ho : 0 ≤ offI n ∧ offI n ≤ 240 := by unfold offI; repeat' split
                                            all_goals omega
  have : k = 0 ∨ k = 1 ∨ k = 2 ∨ k = 3 := by omega
  rcases this with rfl | rfl | rfl | rfl
  · show -100000000 ≤ bt s i - offI n ∧ bt s i - offI n ≤ 100000000
    omega
  · show -100000000 ≤ 64 * (bt s i - offI n) + bt s (i + 1) - 128 ∧ 64 * (bt s i - offI n) + bt s (i + 1) - 128 ≤ 100000000
    omega
  · show -100000000 ≤ 64 * (64 * (bt s i - offI n) + bt s (i + 1) - 128) + bt s (i + 2) - 128 ∧ 64 * (64 * (bt s i - offI n) + bt s (i + 1) - 128) + bt s (i + 2) - 128 ≤ 100000000
    omega
  · show -100000000 ≤ 64 * (64 * (64 * (bt s i - offI n) + bt s (i + 1) - 128) + bt s (i + 2) - 128) + bt s (i + 3) - 128 ∧ 64 * (64 * (64 * (bt s i - offI n) + bt s (i + 1) - 128) + bt s (i + 2) - 128) + bt s (i + 3) - 128 ≤ 100000000
    omega
theorem sz_le (c : Int) : szI c ≤ 4 := by unfold szI; repeat' split
                                          all_goals omega
/-- What the call of At answers. -/
def AtP (s : ByteArray) (i : Nat) (w : World) (e : Ending) (w' : World) : Prop := e = .returned (.tuple #[.int .i64 (atS s i).1, .int .i64 (atS s i).2]) ∧ Below w.heap.size w w'
theorem AtP.no {s : ByteArray} {i : Nat} {w w' : World} (h : badU s i) (hb : Below w.heap.size w w') : AtP s i w (.returned (.tuple #[.int .i64 0, .int .i64 0])) w' := ⟨by rw [atS_bad h]; rfl, hb⟩
theorem AtP.yes {s : ByteArray} {i n : Nat} {p : Int} {w w' : World} (h : Utf8.decode s i = (p.toNat, n) ∧ ¬ badU s i) (h0 : 0 ≤ p) (hb : Below w.heap.size w w') : AtP s i w (.returned (.tuple #[.int .i64 p, .int .i64 n])) w' := ⟨by
  rw [atS_ok h.2, h.1]
  show _ = Ending.returned (.tuple #[.int .i64 (p.toNat : Nat), .int .i64 n])
  rw [show ((p.toNat : Nat) : Int) = p by omega], hb⟩
set_option maxHeartbeats 4000000 in
set_option maxRecDepth 10000 in
theorem at_any {s : ByteArray} {i : Nat} (hi : i < s.size) (hs : s.size ≤ 140737488355328) (w : World) : Calls Tryz.prog 72 #[.string s, .int .i64 i] w (AtP s i w) := by
  have hbs := get_bt s
  have b0 := bt_nonneg s i
  have b1 := bt_le s i
  have hlt : (i : Int) < (s.size : Int) := by omega
  have h0 : 0 ≤ (i : Int) := by omega
  obtain ⟨n, hn⟩ : ∃ n, szI (bt s i) = n := ⟨_, rfl⟩
  have HN := Lib.hid hn
  by_cases hn0 : n = 0
  · have HB := Lib.hid (at_none hi (.inl (hn.trans hn0)))
    have HN2 : Hid (szI (bt s i) = 0) := Lib.hid (hn.trans hn0)
    clear hn hn0
    go_enter Tryz.func72, Tryz.ntmps72
    go_wp2_with (go_at_call 105; (with_reducible refine (size_any _ b0 b1 _).mono ?_); rintro e w1 ⟨rfl, rfl⟩; rw [HN2.out])
    go_ret2
    exact AtP.no HB.out (Below.refl _ _)
  · by_cases hsz : s.size < i + n
    · have HB := Lib.hid (at_none hi (.inr (by rw [hn]; exact hsz)))
      have hn1 : ¬ (n : Int) = 0 := by omega
      have hsz' : (s.size : Int) < (i : Int) + (n : Int) := by omega
      have hn4 : (n : Int) ≤ 4 := by have := sz_le (bt s i); omega
      have hn5 : 0 ≤ (n : Int) := by omega
      clear hn hn0
      go_enter Tryz.func72, Tryz.ntmps72
      go_wp2_with (go_at_call 105; (with_reducible refine (size_any _ b0 b1 _).mono ?_); rintro e w1 ⟨rfl, rfl⟩; rw [HN.out])
      go_ret2
      exact AtP.no HB.out (Below.refl _ _)
    · have hcase : n = 1 ∨ n = 2 ∨ n = 3 ∨ n = 4 := by have := sz_le (bt s i); omega
      have hns : i + n ≤ s.size := by omega
      clear HN
      rcases hcase with rfl | rfl | rfl | rfl
      · have HN := Lib.hid hn
        have HA := Lib.hid (at_all hn hn0 hns)
        have HC := Lib.hid (fun m h1 h2 h3 => at_cont (m := m) hn hns h1 h2 h3)
        have hsz' : ¬ (s.size : Int) < (i : Int) + 1 := by omega
        clear hn hn0 hsz
        go_enter Tryz.func72, Tryz.ntmps72
        go_wp2_with (go_at_call 105; (with_reducible refine (size_any _ b0 b1 _).mono ?_); rintro e w1 ⟨rfl, rfl⟩; rw [HN.out])
        go_loop [7, 8] (fun pv iv => ∃ k : Nat, iv = .int .i64 k ∧ 1 ≤ k ∧ k ≤ 1 ∧ pv = .int .i64 (valI s i 1 (k - 1)) ∧ Hid (∀ m, 1 ≤ m → m < k → 128 ≤ bt s (i + m) ∧ bt s (i + m) ≤ 191)) (fun _ iv => 1 - (intOf iv).toNat)
        case atStart => exact ⟨1, rfl, Nat.le_refl _, by omega, by first | rfl | simp [valI, offI], Lib.hid (fun m h1 h2 => by omega)⟩
        case round =>
          obtain ⟨k, rfl, hk1, hk2, rfl, HM⟩ := hrel
          have hv := val_bd s i 1 (k - 1) (by omega)
          by_cases hlt2 : k < 1
          · omega
          · obtain rfl : k = 1 := by omega
            have HA2 := Lib.hid (HA.out HM.out)
            have hv1 := hv.1
            have hv2 := hv.2
            generalize hV : valI s i 1 (1 - 1) = v at *
            clear HA HM HC hV hv
            cases hP : ptB v
            · have HB : Hid (badU s i) := Lib.hid (HA2.out.2 (by rw [hP]; simp))
              have HP := Lib.hid hP
              clear hP HA2
              go_wp2_with (go_at_call 106; (with_reducible refine (point_any _ _).mono ?_); rintro e w1 ⟨rfl, rfl⟩; rw [HP.out])
              go_ret2
              exact AtP.no HB.out (Below.refl _ _)
            · have hsc := pt_scal.1 hP
              have hv0 : 0 ≤ v := by unfold Scal at hsc; omega
              have hlen : (Lib.runeCells v).length = lenE v := by rw [Lib.runeCells_length, lenE_is hsc]
              have hl4 : (Lib.runeCells v).length ≤ 4 := by rw [hlen]; unfold lenE; repeat' split
                                                            all_goals omega
              have hl0 : 0 ≤ ((Lib.runeCells v).length : Int) := by omega
              have HP := Lib.hid hP
              by_cases hle : lenE v = 1
              · have HB := Lib.hid (HA2.out.1 ⟨hP, hle⟩)
                have hl : ((Lib.runeCells v).length : Int) = 1 := by omega
                have HSC := Lib.hid hsc
                have HL := Lib.hid hl
                clear hP HA2 hle hlen hl hsc hl4 hl0
                go_wp2_with (first
                  | (go_at_call 106; (with_reducible refine (point_any _ _).mono ?_); rintro e w1 ⟨rfl, rfl⟩; rw [HP.out])
                  | (go_at_call 107; (refine (bytes_any HSC.out _).mono ?_); rintro e w1 ⟨g, hg, rfl, hI, hb⟩; have hl := HL.out; clear hI))
                go_ret2
                exact AtP.yes HB.out hv0 hb
              · have HB := Lib.hid (HA2.out.2 (fun h => hle h.2))
                have hl : ¬ ((Lib.runeCells v).length : Int) = 1 := by omega
                have HSC := Lib.hid hsc
                have HL := Lib.hid hl
                clear hP HA2 hle hlen hl hsc hl4 hl0
                go_wp2_with (first
                  | (go_at_call 106; (with_reducible refine (point_any _ _).mono ?_); rintro e w1 ⟨rfl, rfl⟩; rw [HP.out])
                  | (go_at_call 107; (refine (bytes_any HSC.out _).mono ?_); rintro e w1 ⟨g, hg, rfl, hI, hb⟩; have hl := HL.out; clear hI))
                go_ret2
                exact AtP.no HB.out hb
      · have HN := Lib.hid hn
        have HA := Lib.hid (at_all hn hn0 hns)
        have HC := Lib.hid (fun m h1 h2 h3 => at_cont (m := m) hn hns h1 h2 h3)
        have hsz' : ¬ (s.size : Int) < (i : Int) + 2 := by omega
        clear hn hn0 hsz
        go_enter Tryz.func72, Tryz.ntmps72
        go_wp2_with (go_at_call 105; (with_reducible refine (size_any _ b0 b1 _).mono ?_); rintro e w1 ⟨rfl, rfl⟩; rw [HN.out])
        go_loop [7, 8] (fun pv iv => ∃ k : Nat, iv = .int .i64 k ∧ 1 ≤ k ∧ k ≤ 2 ∧ pv = .int .i64 (valI s i 2 (k - 1)) ∧ Hid (∀ m, 1 ≤ m → m < k → 128 ≤ bt s (i + m) ∧ bt s (i + m) ≤ 191)) (fun _ iv => 2 - (intOf iv).toNat)
        case atStart => exact ⟨1, rfl, Nat.le_refl _, by omega, by first | rfl | simp [valI, offI], Lib.hid (fun m h1 h2 => by omega)⟩
        case round =>
          obtain ⟨k, rfl, hk1, hk2, rfl, HM⟩ := hrel
          have hv := val_bd s i 2 (k - 1) (by omega)
          by_cases hlt2 : k < 2
          · have hlt3 : (k : Int) < 2 := by omega
            have c0 := bt_nonneg s (i + k)
            have c1 := bt_le s (i + k)
            have hik : i + k < s.size := by omega
            have hik2 : (i : Int) + (k : Int) < (s.size : Int) := by omega
            have hik3 : 0 ≤ (i : Int) + (k : Int) := by omega
            have hik4 : ((i : Int) + (k : Int)).toNat = i + k := by omega
            have hvs : Hid (valI s i 2 (k + 1 - 1) = 64 * valI s i 2 (k - 1) + bt s (i + k) - 128) := Lib.hid (by
              obtain ⟨j, rfl⟩ : ∃ j, k = j + 1 := ⟨k - 1, by omega⟩
              rfl)
            by_cases hc : 128 ≤ bt s (i + k) ∧ bt s (i + k) ≤ 191
            · obtain ⟨hc1, hc2⟩ := hc
              go_wp2
              go_round
              case rel => exact ⟨k + 1, by go_num, by omega, by omega, by rw [hvs.out], Lib.hid (fun m h1 h2 => by
                rcases Nat.lt_or_ge m k with h3 | h3
                · exact HM.out m h1 h3
                · obtain rfl : m = k := by omega
                  exact ⟨hc1, hc2⟩)⟩
              case measure => simp [intOf]; omega
            · have HB := Lib.hid (HC.out k hk1 hlt2 hc)
              by_cases hc1 : 128 ≤ bt s (i + k)
              · have hc2 : ¬ bt s (i + k) ≤ 191 := fun h => hc ⟨hc1, h⟩
                clear hc
                go_wp2
                go_ret2
                exact AtP.no HB.out (Below.refl _ _)
              · clear hc
                go_wp2
                go_ret2
                exact AtP.no HB.out (Below.refl _ _)
          · obtain rfl : k = 2 := by omega
            have HA2 := Lib.hid (HA.out HM.out)
            have hv1 := hv.1
            have hv2 := hv.2
            generalize hV : valI s i 2 (2 - 1) = v at *
            clear HA HM HC hV hv
            cases hP : ptB v
            · have HB : Hid (badU s i) := Lib.hid (HA2.out.2 (by rw [hP]; simp))
              have HP := Lib.hid hP
              clear hP HA2
              go_wp2_with (go_at_call 106; (with_reducible refine (point_any _ _).mono ?_); rintro e w1 ⟨rfl, rfl⟩; rw [HP.out])
              go_ret2
              exact AtP.no HB.out (Below.refl _ _)
            · have hsc := pt_scal.1 hP
              have hv0 : 0 ≤ v := by unfold Scal at hsc; omega
              have hlen : (Lib.runeCells v).length = lenE v := by rw [Lib.runeCells_length, lenE_is hsc]
              have hl4 : (Lib.runeCells v).length ≤ 4 := by rw [hlen]; unfold lenE; repeat' split
                                                            all_goals omega
              have hl0 : 0 ≤ ((Lib.runeCells v).length : Int) := by omega
              have HP := Lib.hid hP
              by_cases hle : lenE v = 2
              · have HB := Lib.hid (HA2.out.1 ⟨hP, hle⟩)
                have hl : ((Lib.runeCells v).length : Int) = 2 := by omega
                have HSC := Lib.hid hsc
                have HL := Lib.hid hl
                clear hP HA2 hle hlen hl hsc hl4 hl0
                go_wp2_with (first
                  | (go_at_call 106; (with_reducible refine (point_any _ _).mono ?_); rintro e w1 ⟨rfl, rfl⟩; rw [HP.out])
                  | (go_at_call 107; (refine (bytes_any HSC.out _).mono ?_); rintro e w1 ⟨g, hg, rfl, hI, hb⟩; have hl := HL.out; clear hI))
                go_ret2
                exact AtP.yes HB.out hv0 hb
              · have HB := Lib.hid (HA2.out.2 (fun h => hle h.2))
                have hl : ¬ ((Lib.runeCells v).length : Int) = 2 := by omega
                have HSC := Lib.hid hsc
                have HL := Lib.hid hl
                clear hP HA2 hle hlen hl hsc hl4 hl0
                go_wp2_with (first
                  | (go_at_call 106; (with_reducible refine (point_any _ _).mono ?_); rintro e w1 ⟨rfl, rfl⟩; rw [HP.out])
                  | (go_at_call 107; (refine (bytes_any HSC.out _).mono ?_); rintro e w1 ⟨g, hg, rfl, hI, hb⟩; have hl := HL.out; clear hI))
                go_ret2
                exact AtP.no HB.out hb
      · have HN := Lib.hid hn
        have HA := Lib.hid (at_all hn hn0 hns)
        have HC := Lib.hid (fun m h1 h2 h3 => at_cont (m := m) hn hns h1 h2 h3)
        have hsz' : ¬ (s.size : Int) < (i : Int) + 3 := by omega
        clear hn hn0 hsz
        go_enter Tryz.func72, Tryz.ntmps72
        go_wp2_with (go_at_call 105; (with_reducible refine (size_any _ b0 b1 _).mono ?_); rintro e w1 ⟨rfl, rfl⟩; rw [HN.out])
        go_loop [7, 8] (fun pv iv => ∃ k : Nat, iv = .int .i64 k ∧ 1 ≤ k ∧ k ≤ 3 ∧ pv = .int .i64 (valI s i 3 (k - 1)) ∧ Hid (∀ m, 1 ≤ m → m < k → 128 ≤ bt s (i + m) ∧ bt s (i + m) ≤ 191)) (fun _ iv => 3 - (intOf iv).toNat)
        case atStart => exact ⟨1, rfl, Nat.le_refl _, by omega, by first | rfl | simp [valI, offI], Lib.hid (fun m h1 h2 => by omega)⟩
        case round =>
          obtain ⟨k, rfl, hk1, hk2, rfl, HM⟩ := hrel
          have hv := val_bd s i 3 (k - 1) (by omega)
          by_cases hlt2 : k < 3
          · have hlt3 : (k : Int) < 3 := by omega
            have c0 := bt_nonneg s (i + k)
            have c1 := bt_le s (i + k)
            have hik : i + k < s.size := by omega
            have hik2 : (i : Int) + (k : Int) < (s.size : Int) := by omega
            have hik3 : 0 ≤ (i : Int) + (k : Int) := by omega
            have hik4 : ((i : Int) + (k : Int)).toNat = i + k := by omega
            have hvs : Hid (valI s i 3 (k + 1 - 1) = 64 * valI s i 3 (k - 1) + bt s (i + k) - 128) := Lib.hid (by
              obtain ⟨j, rfl⟩ : ∃ j, k = j + 1 := ⟨k - 1, by omega⟩
              rfl)
            by_cases hc : 128 ≤ bt s (i + k) ∧ bt s (i + k) ≤ 191
            · obtain ⟨hc1, hc2⟩ := hc
              go_wp2
              go_round
              case rel => exact ⟨k + 1, by go_num, by omega, by omega, by rw [hvs.out], Lib.hid (fun m h1 h2 => by
                rcases Nat.lt_or_ge m k with h3 | h3
                · exact HM.out m h1 h3
                · obtain rfl : m = k := by omega
                  exact ⟨hc1, hc2⟩)⟩
              case measure => simp [intOf]; omega
            · have HB := Lib.hid (HC.out k hk1 hlt2 hc)
              by_cases hc1 : 128 ≤ bt s (i + k)
              · have hc2 : ¬ bt s (i + k) ≤ 191 := fun h => hc ⟨hc1, h⟩
                clear hc
                go_wp2
                go_ret2
                exact AtP.no HB.out (Below.refl _ _)
              · clear hc
                go_wp2
                go_ret2
                exact AtP.no HB.out (Below.refl _ _)
          · obtain rfl : k = 3 := by omega
            have HA2 := Lib.hid (HA.out HM.out)
            have hv1 := hv.1
            have hv2 := hv.2
            generalize hV : valI s i 3 (3 - 1) = v at *
            clear HA HM HC hV hv
            cases hP : ptB v
            · have HB : Hid (badU s i) := Lib.hid (HA2.out.2 (by rw [hP]; simp))
              have HP := Lib.hid hP
              clear hP HA2
              go_wp2_with (go_at_call 106; (with_reducible refine (point_any _ _).mono ?_); rintro e w1 ⟨rfl, rfl⟩; rw [HP.out])
              go_ret2
              exact AtP.no HB.out (Below.refl _ _)
            · have hsc := pt_scal.1 hP
              have hv0 : 0 ≤ v := by unfold Scal at hsc; omega
              have hlen : (Lib.runeCells v).length = lenE v := by rw [Lib.runeCells_length, lenE_is hsc]
              have hl4 : (Lib.runeCells v).length ≤ 4 := by rw [hlen]; unfold lenE; repeat' split
                                                            all_goals omega
              have hl0 : 0 ≤ ((Lib.runeCells v).length : Int) := by omega
              have HP := Lib.hid hP
              by_cases hle : lenE v = 3
              · have HB := Lib.hid (HA2.out.1 ⟨hP, hle⟩)
                have hl : ((Lib.runeCells v).length : Int) = 3 := by omega
                have HSC := Lib.hid hsc
                have HL := Lib.hid hl
                clear hP HA2 hle hlen hl hsc hl4 hl0
                go_wp2_with (first
                  | (go_at_call 106; (with_reducible refine (point_any _ _).mono ?_); rintro e w1 ⟨rfl, rfl⟩; rw [HP.out])
                  | (go_at_call 107; (refine (bytes_any HSC.out _).mono ?_); rintro e w1 ⟨g, hg, rfl, hI, hb⟩; have hl := HL.out; clear hI))
                go_ret2
                exact AtP.yes HB.out hv0 hb
              · have HB := Lib.hid (HA2.out.2 (fun h => hle h.2))
                have hl : ¬ ((Lib.runeCells v).length : Int) = 3 := by omega
                have HSC := Lib.hid hsc
                have HL := Lib.hid hl
                clear hP HA2 hle hlen hl hsc hl4 hl0
                go_wp2_with (first
                  | (go_at_call 106; (with_reducible refine (point_any _ _).mono ?_); rintro e w1 ⟨rfl, rfl⟩; rw [HP.out])
                  | (go_at_call 107; (refine (bytes_any HSC.out _).mono ?_); rintro e w1 ⟨g, hg, rfl, hI, hb⟩; have hl := HL.out; clear hI))
                go_ret2
                exact AtP.no HB.out hb
      · have HN := Lib.hid hn
        have HA := Lib.hid (at_all hn hn0 hns)
        have HC := Lib.hid (fun m h1 h2 h3 => at_cont (m := m) hn hns h1 h2 h3)
        have hsz' : ¬ (s.size : Int) < (i : Int) + 4 := by omega
        clear hn hn0 hsz
        go_enter Tryz.func72, Tryz.ntmps72
        go_wp2_with (go_at_call 105; (with_reducible refine (size_any _ b0 b1 _).mono ?_); rintro e w1 ⟨rfl, rfl⟩; rw [HN.out])
        go_loop [7, 8] (fun pv iv => ∃ k : Nat, iv = .int .i64 k ∧ 1 ≤ k ∧ k ≤ 4 ∧ pv = .int .i64 (valI s i 4 (k - 1)) ∧ Hid (∀ m, 1 ≤ m → m < k → 128 ≤ bt s (i + m) ∧ bt s (i + m) ≤ 191)) (fun _ iv => 4 - (intOf iv).toNat)
        case atStart => exact ⟨1, rfl, Nat.le_refl _, by omega, by first | rfl | simp [valI, offI], Lib.hid (fun m h1 h2 => by omega)⟩
        case round =>
          obtain ⟨k, rfl, hk1, hk2, rfl, HM⟩ := hrel
          have hv := val_bd s i 4 (k - 1) (by omega)
          by_cases hlt2 : k < 4
          · have hlt3 : (k : Int) < 4 := by omega
            have c0 := bt_nonneg s (i + k)
            have c1 := bt_le s (i + k)
            have hik : i + k < s.size := by omega
            have hik2 : (i : Int) + (k : Int) < (s.size : Int) := by omega
            have hik3 : 0 ≤ (i : Int) + (k : Int) := by omega
            have hik4 : ((i : Int) + (k : Int)).toNat = i + k := by omega
            have hvs : Hid (valI s i 4 (k + 1 - 1) = 64 * valI s i 4 (k - 1) + bt s (i + k) - 128) := Lib.hid (by
              obtain ⟨j, rfl⟩ : ∃ j, k = j + 1 := ⟨k - 1, by omega⟩
              rfl)
            by_cases hc : 128 ≤ bt s (i + k) ∧ bt s (i + k) ≤ 191
            · obtain ⟨hc1, hc2⟩ := hc
              go_wp2
              go_round
              case rel => exact ⟨k + 1, by go_num, by omega, by omega, by rw [hvs.out], Lib.hid (fun m h1 h2 => by
                rcases Nat.lt_or_ge m k with h3 | h3
                · exact HM.out m h1 h3
                · obtain rfl : m = k := by omega
                  exact ⟨hc1, hc2⟩)⟩
              case measure => simp [intOf]; omega
            · have HB := Lib.hid (HC.out k hk1 hlt2 hc)
              by_cases hc1 : 128 ≤ bt s (i + k)
              · have hc2 : ¬ bt s (i + k) ≤ 191 := fun h => hc ⟨hc1, h⟩
                clear hc
                go_wp2
                go_ret2
                exact AtP.no HB.out (Below.refl _ _)
              · clear hc
                go_wp2
                go_ret2
                exact AtP.no HB.out (Below.refl _ _)
          · obtain rfl : k = 4 := by omega
            have HA2 := Lib.hid (HA.out HM.out)
            have hv1 := hv.1
            have hv2 := hv.2
            generalize hV : valI s i 4 (4 - 1) = v at *
            clear HA HM HC hV hv
            cases hP : ptB v
            · have HB : Hid (badU s i) := Lib.hid (HA2.out.2 (by rw [hP]; simp))
              have HP := Lib.hid hP
              clear hP HA2
              go_wp2_with (go_at_call 106; (with_reducible refine (point_any _ _).mono ?_); rintro e w1 ⟨rfl, rfl⟩; rw [HP.out])
              go_ret2
              exact AtP.no HB.out (Below.refl _ _)
            · have hsc := pt_scal.1 hP
              have hv0 : 0 ≤ v := by unfold Scal at hsc; omega
              have hlen : (Lib.runeCells v).length = lenE v := by rw [Lib.runeCells_length, lenE_is hsc]
              have hl4 : (Lib.runeCells v).length ≤ 4 := by rw [hlen]; unfold lenE; repeat' split
                                                            all_goals omega
              have hl0 : 0 ≤ ((Lib.runeCells v).length : Int) := by omega
              have HP := Lib.hid hP
              by_cases hle : lenE v = 4
              · have HB := Lib.hid (HA2.out.1 ⟨hP, hle⟩)
                have hl : ((Lib.runeCells v).length : Int) = 4 := by omega
                have HSC := Lib.hid hsc
                have HL := Lib.hid hl
                clear hP HA2 hle hlen hl hsc hl4 hl0
                go_wp2_with (first
                  | (go_at_call 106; (with_reducible refine (point_any _ _).mono ?_); rintro e w1 ⟨rfl, rfl⟩; rw [HP.out])
                  | (go_at_call 107; (refine (bytes_any HSC.out _).mono ?_); rintro e w1 ⟨g, hg, rfl, hI, hb⟩; have hl := HL.out; clear hI))
                go_ret2
                exact AtP.yes HB.out hv0 hb
              · have HB := Lib.hid (HA2.out.2 (fun h => hle h.2))
                have hl : ¬ ((Lib.runeCells v).length : Int) = 4 := by omega
                have HSC := Lib.hid hsc
                have HL := Lib.hid hl
                clear hP HA2 hle hlen hl hsc hl4 hl0
                go_wp2_with (first
                  | (go_at_call 106; (with_reducible refine (point_any _ _).mono ?_); rintro e w1 ⟨rfl, rfl⟩; rw [HP.out])
                  | (go_at_call 107; (refine (bytes_any HSC.out _).mono ?_); rintro e w1 ⟨g, hg, rfl, hI, hb⟩; have hl := HL.out; clear hI))
                go_ret2
                exact AtP.no HB.out hb
end Go.Proofs.YtbehakabglegjaaGreatDoor
