/- Layer 2: the reader's steps that call the library: blanks. -/
import Derived.Test.YtnjhmnolngdfaaaGreatDoorJrA
import Derived.Test.YtnjhmnolngdfaaaGreatDoorShelf
namespace Go.Proofs.YtnjhmnolngdfaaaGreatDoor
open Go.RowKit Go.PlainAid
set_option linter.unusedVariables false
set_option linter.unusedSimpArgs false

theorem bodyPost_end {P : Program} {fn : Func} {R : Ending → World → Prop} {a : Act} {w : World} {v : Value}
    (hr : (results fn a.tmps).run P w = .ok v w) (hd : a.defers = []) (hR : R (.returned v) w) : bodyPost P fn R .normal a w := ⟨hd, v, hr, hR⟩
def bix (c : Int) : Int := Lib.indexByte (⟨#[32, 10, 13, 9]⟩ : ByteArray).data.toList c.toNat.toUInt8
theorem bix_all : ∀ n : Nat, n < 256 → decide (0 ≤ bix (n : Int)) = blankI (n : Int) := by decide +kernel
theorem bix_is {c : Int} (h0 : 0 ≤ c) (h1 : c ≤ 255) : decide (0 ≤ bix c) = blankI c := by
  have := bix_all c.toNat (by omega)
  rwa [show ((c.toNat : Nat) : Int) = c by omega] at this
theorem skip_stop {s : ByteArray} {k : Nat} (h : blankI (bt s k) = false) (hk : k < s.size) : skipTo s k = k := overTo_stop (by rw [pk_in hk]; exact h)
theorem skip_end {s : ByteArray} {k : Nat} (hk : s.size ≤ k) : skipTo s k = k := overTo_stop (by rw [pk_end hk]; rfl)
theorem skip_go {s : ByteArray} {k : Nat} (hk : k < s.size) (h : blankI (bt s k) = true) : skipTo s k = skipTo s (k + 1) := overTo_go hk (by rw [pk_in hk]; exact h)
theorem blank_idx (c : Int) (w : World) : Calls Tryz.prog 54 #[.string ⟨#[32, 10, 13, 9]⟩, .int .u8 c] w fun e w' => e = .returned (.int .i64 (bix c)) ∧ w' = w := Tryz.strings_IndexByte _ _ _
set_option maxRecDepth 10000 in
theorem blanks_any {w : World} {r : Nat} {s : ByteArray} {i : Nat} (h : Rd w r s i) (hi : i ≤ s.size) (hs : s.size ≤ 65536) :
    Calls Tryz.prog 37 #[At r] w fun e w' => e = .returned (.tuple #[]) ∧ Rd w' r s (skipTo s i) ∧ Mv r w w' := by
  have hbs := get_bt s
  go_enter Tryz.func37, Tryz.ntmps37
  go_wp2
  go_loopw [] (fun wr => ∃ k : Nat, k ≤ s.size ∧ Rd wr r s k ∧ Hid (skipTo s k = skipTo s i) ∧ Mv r w wr) (fun wr => s.size - atOf wr r)
  case atStart => exact ⟨i, hi, h, Lib.hid rfl, Mv.refl _ _⟩
  case round =>
    obtain ⟨k, hk, HR, HS, HM⟩ := hrel
    have c0 := HR.c0
    have c1 := HR.c1
    have f1 := HR.f1
    have b0 := bt_nonneg s k
    have b1 := bt_le s k
    have hat := HR.at
    by_cases hlt : k < s.size
    · have hlt' : (k : Int) < (s.size : Int) := by omega
      have hd : decide ((k : Int) < (s.size : Int)) = true := decide_eq_true hlt'
      have h0 : ¬ (k : Int) < 0 := by omega
      cases hB : blankI (bt s k)
      · have hx : ¬ 0 ≤ bix (bt s k) := by have := bix_is b0 b1; rw [hB] at this; simpa using this
        go_wp2
        go_quiet ((go_at_call 54; exact Calls.quiet_of_same (blank_idx _ _)))
        go_wp2
        exact bodyPost_end (results_none rfl _ _ _) rfl ⟨rfl, by rw [← HS.out, skip_stop hB hlt]; exact HR.drewN nq, HM.trans (drewN_mv r wr nq)⟩
      · have hx : 0 ≤ bix (bt s k) := by have := bix_is b0 b1; rw [hB] at this; simpa using this
        go_wp2
        go_quiet ((go_at_call 54; exact Calls.quiet_of_same (blank_idx _ _)))
        go_wp2
        have HQ := (HR.drewN nq).set (x := (k : Int) + 1) (k := k + 1) (by omega)
        exact ⟨⟨k + 1, by omega, HQ.1, Lib.hid ((skip_go hlt hB).symm.trans HS.out), (HM.trans (drewN_mv r wr nq)).trans HQ.2⟩, by rw [HQ.1.at, hat]; omega⟩
    · have hlt' : ¬ (k : Int) < (s.size : Int) := by omega
      have hd : decide ((k : Int) < (s.size : Int)) = false := decide_eq_false hlt'
      go_wp2
      go_quiet (fail)
      go_wp2
      exact bodyPost_end (results_none rfl _ _ _) rfl ⟨rfl, by rw [← HS.out, skip_end (by omega)]; exact HR.drewN nq, HM.trans (drewN_mv r wr nq)⟩
def hix (c : Int) : Int := Lib.indexByte (⟨#[48, 49, 50, 51, 52, 53, 54, 55, 56, 57, 97, 98, 99, 100, 101, 102, 48, 49, 50, 51, 52, 53, 54, 55, 56, 57, 65, 66, 67, 68, 69, 70]⟩ : ByteArray).data.toList c.toNat.toUInt8
theorem hix_all : ∀ n : Nat, n < 256 → (if hix (n : Int) < 0 then -1 else hix (n : Int) % 16) = hexI (n : Int) ∧ hix (n : Int) < 32 := by decide +kernel
theorem hix_is {c : Int} (h0 : 0 ≤ c) (h1 : c ≤ 255) : (if hix c < 0 then -1 else hix c % 16) = hexI c ∧ hix c < 32 := by
  have := hix_all c.toNat (by omega)
  rwa [show ((c.toNat : Nat) : Int) = c by omega] at this
theorem hix_max {c : Int} (h0 : -1 ≤ c) (h1 : c ≤ 255) : (if hix (max c 0) < 0 then -1 else hix (max c 0) % 16) = hexI c ∧ hix (max c 0) < 32 := by
  by_cases h : c = -1
  · subst h; decide +kernel
  · rw [show max c 0 = c by omega]; exact hix_is (by omega) h1
theorem hex_idx (c : Int) (w : World) : Calls Tryz.prog 54 #[.string ⟨#[48, 49, 50, 51, 52, 53, 54, 55, 56, 57, 97, 98, 99, 100, 101, 102, 48, 49, 50, 51, 52, 53, 54, 55, 56, 57, 65, 66, 67, 68, 69, 70]⟩, .int .u8 c] w fun e w' => e = .returned (.int .i64 (hix c)) ∧ w' = w := Tryz.strings_IndexByte _ _ _
abbrev Num (x : Int) (e : Ending) (_ : World) : Prop := e = .returned (.int .i64 x)
set_option maxRecDepth 10000 in
theorem hex_any {w : World} {r : Nat} {s : ByteArray} {i : Nat} (h : Rd w r s i) (hi : i ≤ s.size) (hs : s.size ≤ 65536) :
    Calls Tryz.prog 99 #[At r] w (Got (hexTo s 4 i 0) r s w Num) := by
  go_enter Tryz.func99, Tryz.ntmps99
  go_wp2
  go_loopw [3, 5] (fun nv iv wr => ∃ (j k : Nat) (v : Int), iv = .int .i64 j ∧ nv = .int .i64 v ∧ j ≤ 4 ∧ 0 ≤ v ∧ v < 16 ^ j ∧ k ≤ s.size ∧ Rd wr r s k ∧ Hid (hexTo s (4 - j) k v = hexTo s 4 i 0) ∧ Mv r w wr) (fun _ iv _ => 4 - (intOf iv).toNat)
  case atStart => exact ⟨0, i, 0, rfl, rfl, by omega, by omega, by decide, hi, h, Lib.hid rfl, Mv.refl _ _⟩
  case round =>
    obtain ⟨j, k, v, rfl, rfl, hj, hv0, hv1, hk, HR, HS, HM⟩ := hrel
    have c0 := HR.c0
    have c1 := HR.c1
    have f1 := HR.f1
    have p0 := pk_ge s k
    have p1 := pk_le s k
    by_cases hlt : j < 4
    · have hlt' : (j : Int) < 4 := by omega
      have hxx := hix_max p0 p1
      by_cases hx : hix (max (pk s k) 0) < 0
      · have hbad : hexTo s (4 - j) k v = .bad 3 k := by rw [show 4 - j = (3 - j) + 1 by omega]; unfold hexTo; rw [if_pos (by rw [if_pos hx] at hxx; omega)]
        go_wp2_with (first
          | (go_at_call 55; (with_reducible refine (peek_any HR).mono ?_); rintro e w1 ⟨rfl, m, rfl⟩; replace HR := HR.drewN m; replace HM := HM.trans (drewN_mv r _ m); replace c0 := HR.c0; replace c1 := HR.c1; replace f1 := HR.f1)
          | (go_at_call 54; (with_reducible refine (hex_idx _ _).mono ?_); rintro e w2 ⟨rfl, rfl⟩)
          | (go_at_call 39; (with_reducible refine (fail_any _ _ _ _).mono ?_); rintro e w3 ⟨⟨g, rfl, hg⟩, hb⟩))
        exact ⟨rfl, Got.bad (HS.out ▸ hbad) (HM.trans (Mv.of hb)) ⟨g, rfl, hg⟩⟩
      · rw [if_neg hx] at hxx
        have hxx1 := hxx.1
        have hxx2 := hxx.2
        clear hxx
        have hgo : hexTo s (4 - j) k v = hexTo s (4 - (j + 1)) (k + 1) (16 * v + hix (max (pk s k) 0) % 16) := by
          rw [show 4 - j = (3 - j) + 1 by omega, show 4 - (j + 1) = 3 - j by omega]
          conv => lhs; unfold hexTo
          rw [if_neg (by omega), ← hxx1]
        have hk2 : k < s.size := by
          refine pk_nonneg ?_
          rcases Int.lt_or_le (pk s k) 0 with h1 | h1
          · exfalso
            rw [show pk s k = -1 by omega] at hx
            exact absurd (by decide +kernel : hix (max (-1) 0) < 0) hx
          · exact h1
        have hv2 : v < 4096 := by
          have : j = 0 ∨ j = 1 ∨ j = 2 ∨ j = 3 := by omega
          rcases this with rfl | rfl | rfl | rfl <;> simp at hv1 <;> omega
        have hv3 : 16 * v + hix (max (pk s k) 0) % 16 < 16 ^ (j + 1) := by
          rw [Int.pow_succ]; omega
        have HV := Lib.hid hv3
        have HG := Lib.hid (hgo.symm.trans HS.out)
        have HX1 := Lib.hid hxx1
        clear hv3 hgo hxx1 hv1
        go_wp2_with (first
          | (go_at_call 55; (with_reducible refine (peek_any HR).mono ?_); rintro e w1 ⟨rfl, m, rfl⟩; replace HR := HR.drewN m; replace HM := HM.trans (drewN_mv r _ m); replace c0 := HR.c0; replace c1 := HR.c1; replace f1 := HR.f1)
          | (go_at_call 54; (with_reducible refine (hex_idx _ _).mono ?_); rintro e w2 ⟨rfl, rfl⟩))
        have HQ := HR.set (x := (k : Int) + 1) (k := k + 1) (by omega)
        exact ⟨⟨j + 1, k + 1, 16 * v + hix (max (pk s k) 0) % 16, by go_num, by go_num, by omega, by omega, HV.out, by omega, HQ.1, HG, HM.trans HQ.2⟩, by simp [intOf]; omega⟩
    · have hlt' : ¬ (j : Int) < 4 := by omega
      have hend : hexTo s (4 - j) k v = Out.ok v k := by rw [show 4 - j = 0 by omega]; rfl
      go_wp2
      exact bodyPost_ret (results_tmp rfl _ _ _) rfl (Got.ok (HS.out ▸ hend) HM rfl HR)
end Go.Proofs.YtnjhmnolngdfaaaGreatDoor
