/- Layer 2: the reader's steps that call the library: blanks. Layer 2: strconv.ParseUint at base 16, of four letters. Layer 2: what the reader leans on in memory (errors, tables); strconv.ParseUint; utf.Pair. -/
import Derived.Test.YtnjhmnolngdfaaaGreatDoorShelf
import Derived.Test.YtnjhmnolngdfaaaGreatDoorQ06
import Derived.Lib.ConvBytes
import Derived.Lib.AtoiErrMem
import Derived.Test.YtnjhmnolngdfaaaGreatDoorQ05
import Derived.Test.YtnjhmnolngdfaaaGreatDoorQZip
namespace Go.Proofs.YtnjhmnolngdfaaaGreatDoor
open Go.RowKit Go.PlainAid
set_option linter.unusedVariables false
set_option linter.unusedSimpArgs false

theorem bodyPost_end {P : Program} {fn : Func} {R : Ending → World → Prop} {a : Act} {w : World} {v : Value}
    (hr : (results fn a.tmps).run P w = .ok v w) (hd : a.defers = []) (hR : R (.returned v) w) : bodyPost P fn R .normal a w := ⟨hd, v, hr, hR⟩
def bix (c : Int) : Int := Lib.indexByte (⟨#[32, 10, 13, 9]⟩ : ByteArray).data.toList c.toNat.toUInt8
theorem bix_all : ∀ n : Nat, n < 256 → decide (0 ≤ bix (n : Int)) = blankI (n : Int) := by decide +kernel
theorem bix_is {c : Int} (h0 : 0 ≤ c) (h1 : c ≤ 255) : decide (0 ≤ bix c) = blankI c := by
  have := bix_all c.toNat (by omega)
  rwa [show ((c.toNat : Nat) : Int) = c by omega] at this
theorem skip_stop {s : ByteArray} {k : Nat} (h : blankI (bt s k) = false) (hk : k < s.size) : skipTo s k = k := overTo_stop (by rw [pk_in hk]; exact h)
theorem skip_end {s : ByteArray} {k : Nat} (hk : s.size ≤ k) : skipTo s k = k := overTo_stop (by rw [pk_end hk]; rfl)
theorem skip_go {s : ByteArray} {k : Nat} (hk : k < s.size) (h : blankI (bt s k) = true) : skipTo s k = skipTo s (k + 1) := overTo_go hk (by rw [pk_in hk]; exact h)
theorem blank_idx (c : Int) (w : World) : Calls Tryz.prog 54 #[.string ⟨#[32, 10, 13, 9]⟩, .int .u8 c] w fun e w' => e = .returned (.int .i64 (bix c)) ∧ w' = w := Tryz.strings_IndexByte _ _ _
set_option maxRecDepth 10000 in
theorem blanks_any {w : World} {r : Nat} {s : ByteArray} {i : Nat} (h : Rd w r s i) (hi : i ≤ s.size) (hs : s.size ≤ 65536) :
    Calls Tryz.prog 37 #[At r] w fun e w' => e = .returned (.tuple #[]) ∧ Rd w' r s (skipTo s i) ∧ Mv r w w' := by
  have hbs := get_bt s
  go_enter Tryz.func37, Tryz.ntmps37
  go_wp2
  go_loopw [] (fun wr => ∃ k : Nat, k ≤ s.size ∧ Rd wr r s k ∧ Hid (skipTo s k = skipTo s i) ∧ Mv r w wr) (fun wr => s.size - atOf wr r)
  case atStart => exact ⟨i, hi, h, Lib.hid rfl, Mv.refl _ _⟩
  case round =>
    obtain ⟨k, hk, HR, HS, HM⟩ := hrel
    have c0 := HR.c0
    have c1 := HR.c1
    have f1 := HR.f1
    have b0 := bt_nonneg s k
    have b1 := bt_le s k
    have hat := HR.at
    by_cases hlt : k < s.size
    · have hlt' : (k : Int) < (s.size : Int) := by omega
      have hd : decide ((k : Int) < (s.size : Int)) = true := decide_eq_true hlt'
      have h0 : ¬ (k : Int) < 0 := by omega
      cases hB : blankI (bt s k)
      · have hx : ¬ 0 ≤ bix (bt s k) := by have := bix_is b0 b1; rw [hB] at this; simpa using this
        go_wp2
        go_quiet ((go_at_call 54; exact Calls.quiet_of_same (blank_idx _ _)))
        go_wp2
        exact bodyPost_end (results_none rfl _ _ _) rfl ⟨rfl, by rw [← HS.out, skip_stop hB hlt]; exact HR.drewN nq, HM.trans (drewN_mv r wr nq)⟩
      · have hx : 0 ≤ bix (bt s k) := by have := bix_is b0 b1; rw [hB] at this; simpa using this
        go_wp2
        go_quiet ((go_at_call 54; exact Calls.quiet_of_same (blank_idx _ _)))
        go_wp2
        have HQ := (HR.drewN nq).set (x := (k : Int) + 1) (k := k + 1) (by omega)
        exact ⟨⟨k + 1, by omega, HQ.1, Lib.hid ((skip_go hlt hB).symm.trans HS.out), (HM.trans (drewN_mv r wr nq)).trans HQ.2⟩, by rw [HQ.1.at, hat]; omega⟩
    · have hlt' : ¬ (k : Int) < (s.size : Int) := by omega
      have hd : decide ((k : Int) < (s.size : Int)) = false := decide_eq_false hlt'
      go_wp2
      go_quiet (fail)
      go_wp2
      exact bodyPost_end (results_none rfl _ _ _) rfl ⟨rfl, by rw [← HS.out, skip_end (by omega)]; exact HR.drewN nq, HM.trans (drewN_mv r wr nq)⟩
def hix (c : Int) : Int := Lib.indexByte (⟨#[48, 49, 50, 51, 52, 53, 54, 55, 56, 57, 97, 98, 99, 100, 101, 102, 48, 49, 50, 51, 52, 53, 54, 55, 56, 57, 65, 66, 67, 68, 69, 70]⟩ : ByteArray).data.toList c.toNat.toUInt8
theorem hix_all : ∀ n : Nat, n < 256 → (if hix (n : Int) < 0 then -1 else hix (n : Int) % 16) = hexI (n : Int) ∧ hix (n : Int) < 32 := by decide +kernel
theorem hix_is {c : Int} (h0 : 0 ≤ c) (h1 : c ≤ 255) : (if hix c < 0 then -1 else hix c % 16) = hexI c ∧ hix c < 32 := by
  have := hix_all c.toNat (by omega)
  rwa [show ((c.toNat : Nat) : Int) = c by omega] at this
theorem hix_max {c : Int} (h0 : -1 ≤ c) (h1 : c ≤ 255) : (if hix (max c 0) < 0 then -1 else hix (max c 0) % 16) = hexI c ∧ hix (max c 0) < 32 := by
  by_cases h : c = -1
  · subst h; decide +kernel
  · rw [show max c 0 = c by omega]; exact hix_is (by omega) h1
theorem hex_idx (c : Int) (w : World) : Calls Tryz.prog 54 #[.string ⟨#[48, 49, 50, 51, 52, 53, 54, 55, 56, 57, 97, 98, 99, 100, 101, 102, 48, 49, 50, 51, 52, 53, 54, 55, 56, 57, 65, 66, 67, 68, 69, 70]⟩, .int .u8 c] w fun e w' => e = .returned (.int .i64 (hix c)) ∧ w' = w := Tryz.strings_IndexByte _ _ _
abbrev Num (x : Int) (e : Ending) (_ : World) : Prop := e = .returned (.int .i64 x)
set_option maxRecDepth 10000 in
theorem hex_any {w : World} {r : Nat} {s : ByteArray} {i : Nat} (h : Rd w r s i) (hi : i ≤ s.size) (hs : s.size ≤ 65536) :
    Calls Tryz.prog 99 #[At r] w (Got (hexTo s 4 i 0) r s w Num) := by
  go_enter Tryz.func99, Tryz.ntmps99
  go_wp2
  go_loopw [3, 5] (fun nv iv wr => ∃ (j k : Nat) (v : Int), iv = .int .i64 j ∧ nv = .int .i64 v ∧ j ≤ 4 ∧ 0 ≤ v ∧ v < 16 ^ j ∧ k ≤ s.size ∧ Rd wr r s k ∧ Hid (hexTo s (4 - j) k v = hexTo s 4 i 0) ∧ Mv r w wr) (fun _ iv _ => 4 - (intOf iv).toNat)
  case atStart => exact ⟨0, i, 0, rfl, rfl, by omega, by omega, by decide, hi, h, Lib.hid rfl, Mv.refl _ _⟩
  case round =>
    obtain ⟨j, k, v, rfl, rfl, hj, hv0, hv1, hk, HR, HS, HM⟩ := hrel
    have c0 := HR.c0
    have c1 := HR.c1
    have f1 := HR.f1
    have p0 := pk_ge s k
    have p1 := pk_le s k
    by_cases hlt : j < 4
    · have hlt' : (j : Int) < 4 := by omega
      have hxx := hix_max p0 p1
      by_cases hx : hix (max (pk s k) 0) < 0
      · have hbad : hexTo s (4 - j) k v = .bad 3 k := by rw [show 4 - j = (3 - j) + 1 by omega]; unfold hexTo; rw [if_pos (by rw [if_pos hx] at hxx; omega)]
        go_wp2_with (first
          | (go_at_call 55; (with_reducible refine (peek_any HR).mono ?_); rintro e w1 ⟨rfl, m, rfl⟩; replace HR := HR.drewN m; replace HM := HM.trans (drewN_mv r _ m); replace c0 := HR.c0; replace c1 := HR.c1; replace f1 := HR.f1)
          | (go_at_call 54; (with_reducible refine (hex_idx _ _).mono ?_); rintro e w2 ⟨rfl, rfl⟩)
          | (go_at_call 39; (with_reducible refine (fail_any _ _ _ _).mono ?_); rintro e w3 ⟨⟨g, rfl, hg⟩, hb⟩))
        exact ⟨rfl, Got.bad (HS.out ▸ hbad) (HM.trans (Mv.of hb)) ⟨g, rfl, hg⟩⟩
      · rw [if_neg hx] at hxx
        have hxx1 := hxx.1
        have hxx2 := hxx.2
        clear hxx
        have hgo : hexTo s (4 - j) k v = hexTo s (4 - (j + 1)) (k + 1) (16 * v + hix (max (pk s k) 0) % 16) := by
          rw [show 4 - j = (3 - j) + 1 by omega, show 4 - (j + 1) = 3 - j by omega]
          conv => lhs; unfold hexTo
          rw [if_neg (by omega), ← hxx1]
        have hk2 : k < s.size := by
          refine pk_nonneg ?_
          rcases Int.lt_or_le (pk s k) 0 with h1 | h1
          · exfalso
            rw [show pk s k = -1 by omega] at hx
            exact absurd (by decide +kernel : hix (max (-1) 0) < 0) hx
          · exact h1
        have hv2 : v < 4096 := by
          have : j = 0 ∨ j = 1 ∨ j = 2 ∨ j = 3 := by omega
          rcases this with rfl | rfl | rfl | rfl <;> simp at hv1 <;> omega
        have hv3 : 16 * v + hix (max (pk s k) 0) % 16 < 16 ^ (j + 1) := by
          rw [Int.pow_succ]; omega
        have HV := Lib.hid hv3
        have HG := Lib.hid (hgo.symm.trans HS.out)
        have HX1 := Lib.hid hxx1
        clear hv3 hgo hxx1 hv1
        go_wp2_with (first
          | (go_at_call 55; (with_reducible refine (peek_any HR).mono ?_); rintro e w1 ⟨rfl, m, rfl⟩; replace HR := HR.drewN m; replace HM := HM.trans (drewN_mv r _ m); replace c0 := HR.c0; replace c1 := HR.c1; replace f1 := HR.f1)
          | (go_at_call 54; (with_reducible refine (hex_idx _ _).mono ?_); rintro e w2 ⟨rfl, rfl⟩))
        have HQ := HR.set (x := (k : Int) + 1) (k := k + 1) (by omega)
        exact ⟨⟨j + 1, k + 1, 16 * v + hix (max (pk s k) 0) % 16, by go_num, by go_num, by omega, by omega, HV.out, by omega, HQ.1, HG, HM.trans HQ.2⟩, by simp [intOf]; omega⟩
    · have hlt' : ¬ (j : Int) < 4 := by omega
      have hend : hexTo s (4 - j) k v = Out.ok v k := by rw [show 4 - j = 0 by omega]; rfl
      go_wp2
      exact bodyPost_ret (results_tmp rfl _ _ _) rfl (Got.ok (HS.out ▸ hend) HM rfl HR)
end Go.Proofs.YtnjhmnolngdfaaaGreatDoor
namespace Go.Proofs.YtnjhmnolngdfaaaGreatDoor
open Go.RowKit Go.PlainAid
set_option linter.unusedVariables false
set_option linter.unusedSimpArgs false

def low (c : Int) : Int := bits .or .u8 c 32
theorem low_all : ∀ n : Nat, n < 256 → 0 ≤ low (n : Int) ∧ low (n : Int) ≤ 255 ∧ (digI (n : Int) = false → hexI (n : Int) = if 97 ≤ low (n : Int) ∧ low (n : Int) ≤ 102 then low (n : Int) - 87 else -1) := by decide +kernel
theorem low_is {c : Int} (h0 : 0 ≤ c) (h1 : c ≤ 255) : 0 ≤ low c ∧ low c ≤ 255 ∧ (digI c = false → hexI c = if 97 ≤ low c ∧ low c ≤ 102 then low c - 87 else -1) := by
  have := low_all c.toNat (by omega)
  rwa [show ((c.toNat : Nat) : Int) = c by omega] at this
theorem low_lo_all : ∀ n : Nat, n < 48 → low (n : Int) < 97 := by decide +kernel
theorem low_lo {c : Int} (h0 : 0 ≤ c) (h1 : c < 48) : low c < 97 := by
  have := low_lo_all c.toNat (by omega)
  rwa [show ((c.toNat : Nat) : Int) = c by omega] at this
theorem lower_any (c : Int) (w : World) : Calls Tryz.prog 138 #[.int .u8 c] w fun e w' => e = .returned (.int .u8 (low c)) ∧ w' = w := Tryz.internal_strconv_lower c w
def PuRes (o : Out Int) (w : World) (e : Ending) (w' : World) : Prop := Below w.heap.size w w' ∧ (match o with
    | .ok v _ => e = .returned (.tuple #[.int .u64 v, .nilIface])
    | .bad _ _ => e = .returned (.tuple #[.int .u64 0, .iface 147 (.int .i64 2)]))
theorem PuRes.ok {o : Out Int} {w w' : World} {e : Ending} {v : Int} {k : Nat} (h : o = .ok v k) (hb : Below w.heap.size w w') (he : e = .returned (.tuple #[.int .u64 v, .nilIface])) : PuRes o w e w' := by subst h; exact ⟨hb, he⟩
theorem PuRes.bad {o : Out Int} {w w' : World} {e : Ending} {c : Int} {k : Nat} (h : o = .bad c k) (hb : Below w.heap.size w w') (he : e = .returned (.tuple #[.int .u64 0, .iface 147 (.int .i64 2)])) : PuRes o w e w' := by subst h; exact ⟨hb, he⟩
set_option maxRecDepth 10000 in
set_option maxHeartbeats 4000000 in
theorem pu_any (t : ByteArray) (ht : t.size = 4) (w : World) : Calls Tryz.prog 116 #[.string t, .int .i64 16, .int .i64 32] w (PuRes (hexTo t 4 0 0) w) := by
  have hemp : t.toList.isEmpty = false := by
    rw [← decide_eq_emptyBytes]
    exact decide_eq_false (fun h => by rw [h] at ht; exact absurd ht (by decide))
  have hcv := Lib.run_convert_string_bytes (P := Tryz.prog) w 9 46 5 t (u := .string) Tryz.underlying9 Tryz.underlying46 Tryz.underlying5
  have hB : ∀ j, j < t.size → (Lib.bytesWorld w 5 t).cell? ⟨w.heap.size, j, none⟩ = some (.int .u8 (t.data.toList.getD j 0).toNat) := fun j hj => Lib.bytesWorld_cell w 5 t j hj
  have HBB := Lib.bytesWorld_below w 5 t
  obtain ⟨W1, hW1⟩ : ∃ W1, W1 = Lib.bytesWorld w 5 t := ⟨_, rfl⟩
  rw [← hW1] at hcv hB HBB
  clear hW1
  have hC : ∀ j, j < t.size → W1.cell? ⟨w.heap.size, j, none⟩ = some (.int .u8 (bt t j)) := fun j hj => by
    rw [hB j hj]
    unfold bt
    rw [dif_pos hj]
    simp [List.getD, List.getElem?_eq_getElem (show j < t.data.toList.length by simpa using hj)]
    rfl
  clear hB
  go_enter Tryz.func116, Tryz.ntmps116
  go_wp2
  go_loopw [12, 13, 101] (fun uv nv iv wr => ∃ (k : Nat) (v : Int), uv = .bool false ∧ nv = .int .u64 v ∧ iv = .int .i64 k ∧ k ≤ 4 ∧ 0 ≤ v ∧ Hid (v < 16 ^ k) ∧ wr = W1 ∧ Hid (hexTo t (4 - k) k v = hexTo t 4 0 0)) (fun _ _ iv _ => 4 - (intOf iv).toNat)
  case atStart => exact ⟨0, 0, rfl, rfl, rfl, by omega, by omega, Lib.hid (by decide), rfl, Lib.hid rfl⟩
  case round =>
    obtain ⟨k, v, rfl, rfl, rfl, hk, hv0, HV, rfl, HS⟩ := hrel
    have b0 := bt_nonneg t k
    have b1 := bt_le t k
    by_cases hlt : k < 4
    · have hlt' : (k : Int) < 4 := by omega
      have hk0 : ¬ (k : Int) < 0 := by omega
      have hc := hC k (by omega)
      have hpk : pk t k = bt t k := pk_in (by omega)
      have hv2 : v < 4096 := by
        have hv1 := HV.out
        have : k = 0 ∨ k = 1 ∨ k = 2 ∨ k = 3 := by omega
        rcases this with rfl | rfl | rfl | rfl <;> simp at hv1 <;> omega
      have HF : ∀ h, hexI (bt t k) = h → h < 0 → hexTo t (4 - k) k v = .bad 3 k := fun h e1 e2 => by
        rw [show 4 - k = (3 - k) + 1 by omega]; unfold hexTo; rw [if_pos (by rw [hpk]; omega)]
      have HG : ∀ h, hexI (bt t k) = h → 0 ≤ h → h < 16 → hexTo t (4 - (k + 1)) (k + 1) (16 * v + h) = hexTo t 4 0 0 ∧ 16 * v + h < 16 ^ (k + 1) := fun h e1 e2 e3 => by
        refine ⟨?_, by have := HV.out; rw [Int.pow_succ]; omega⟩
        rw [← HS.out, show 4 - k = (3 - k) + 1 by omega, show 4 - (k + 1) = 3 - k by omega]
        conv => rhs; unfold hexTo
        rw [if_neg (by rw [hpk]; omega), hpk, e1]
      have HL := low_is b0 b1
      have L0 := HL.1
      have L1 := HL.2.1
      have L2 := Lib.hid HL.2.2
      clear HL
      have HFH := Lib.hid HF
      have HGH := Lib.hid HG
      clear HF HG hpk
      cases hd : digI (bt t k)
      · have hx := L2.out hd
        have hq : ¬ (48 ≤ bt t k ∧ bt t k ≤ 57) := fun h => by
          unfold digI at hd
          rw [decide_eq_true h.1, decide_eq_true h.2] at hd
          cases hd
        have l95 : low 95 = 127 := by decide +kernel
        by_cases q1 : 48 ≤ bt t k
        · have q2 : ¬ bt t k ≤ 57 := fun h => hq ⟨q1, h⟩
          by_cases h1 : 97 ≤ low (bt t k)
          · by_cases h2 : low (bt t k) ≤ 102
            · have hxx : hexI (bt t k) = low (bt t k) - 87 := by rw [hx, if_pos ⟨h1, h2⟩]
              have n95 : ¬ bt t k = 95 := fun h => by rw [h, l95] at h2; omega
              clear hx
              have e1 : ¬ 16 ≤ low (bt t k) - 97 + 10 := by omega
              have e2 : low (bt t k) ≤ 122 := by omega
              go_wp2_with (go_at_call 138; (with_reducible refine (lower_any _ _).mono ?_); rintro e w2 ⟨rfl, rfl⟩)
              obtain ⟨G1, G2⟩ := HGH.out _ hxx (by omega) (by omega)
              exact ⟨⟨k + 1, 16 * v + (low (bt t k) - 87), rfl, by congr 1; omega, by go_num, by omega, by omega, Lib.hid G2, trivial, Lib.hid G1⟩, by simp [intOf]; omega⟩
            · have hxx : hexI (bt t k) = -1 := by rw [hx, if_neg (fun h => h2 h.2)]
              clear hx
              by_cases h3 : low (bt t k) ≤ 122
              · have n95 : ¬ bt t k = 95 := fun h => by rw [h, l95] at h3; omega
                have e1 : 16 ≤ low (bt t k) - 97 + 10 := by omega
                go_wp2_with (go_at_call 138; (with_reducible refine (lower_any _ _).mono ?_); rintro e w2 ⟨rfl, rfl⟩)
                all_goals
                  refine bodyPost_ret (results_tmp2 rfl _ _ _) rfl ?_
                  exact PuRes.bad (HS.out.symm.trans (HFH.out _ hxx (by decide))) HBB rfl
              · by_cases n95 : bt t k = 95
                · have hl : low (bt t k) = 127 := by rw [n95, l95]
                  go_wp2_with (go_at_call 138; (with_reducible refine (lower_any _ _).mono ?_); rintro e w2 ⟨rfl, rfl⟩)
                  all_goals
                    refine bodyPost_ret (results_tmp2 rfl _ _ _) rfl ?_
                    exact PuRes.bad (HS.out.symm.trans (HFH.out _ hxx (by decide))) HBB rfl
                · go_wp2_with (go_at_call 138; (with_reducible refine (lower_any _ _).mono ?_); rintro e w2 ⟨rfl, rfl⟩)
                  all_goals
                    refine bodyPost_ret (results_tmp2 rfl _ _ _) rfl ?_
                    exact PuRes.bad (HS.out.symm.trans (HFH.out _ hxx (by decide))) HBB rfl
          · have hxx : hexI (bt t k) = -1 := by rw [hx, if_neg (fun h => h1 h.1)]
            have n95 : ¬ bt t k = 95 := fun h => by rw [h, l95] at h1; omega
            clear hx
            go_wp2_with (go_at_call 138; (with_reducible refine (lower_any _ _).mono ?_); rintro e w2 ⟨rfl, rfl⟩)
            all_goals
              refine bodyPost_ret (results_tmp2 rfl _ _ _) rfl ?_
              exact PuRes.bad (HS.out.symm.trans (HFH.out _ hxx (by decide))) HBB rfl
        · by_cases h1 : 97 ≤ low (bt t k)
          · by_cases h2 : low (bt t k) ≤ 102
            · exfalso
              have := low_lo b0 (by omega : bt t k < 48)
              omega
            · have hxx : hexI (bt t k) = -1 := by rw [hx, if_neg (fun h => h2 h.2)]
              have := low_lo b0 (by omega : bt t k < 48)
              omega
          · have hxx : hexI (bt t k) = -1 := by rw [hx, if_neg (fun h => h1 h.1)]
            have n95 : ¬ bt t k = 95 := by omega
            clear hx
            go_wp2_with (go_at_call 138; (with_reducible refine (lower_any _ _).mono ?_); rintro e w2 ⟨rfl, rfl⟩)
            all_goals
              refine bodyPost_ret (results_tmp2 rfl _ _ _) rfl ?_
              exact PuRes.bad (HS.out.symm.trans (HFH.out _ hxx (by decide))) HBB rfl
      · have hd2 := hd
        unfold digI at hd2
        simp only [Bool.and_eq_true, decide_eq_true_eq] at hd2
        have d1 := hd2.1
        have d2 := hd2.2
        clear hd2
        have e1 : ¬ 16 ≤ bt t k - 48 := by omega
        have e2 : ¬ bt t k = 95 := by omega
        have hxx : hexI (bt t k) = bt t k - 48 := by unfold hexI; rw [if_pos hd]
        go_wp2_with (fail)
        all_goals
          obtain ⟨G1, G2⟩ := HGH.out _ hxx (by omega) (by omega)
          exact ⟨⟨k + 1, 16 * v + (bt t k - 48), rfl, by congr 1; omega, by go_num, by omega, by omega, Lib.hid G2, trivial, Lib.hid G1⟩, by simp [intOf]; omega⟩
    · have hlt' : ¬ (k : Int) < 4 := by omega
      have hend : hexTo t (4 - k) k v = Out.ok v k := by rw [show 4 - k = 0 by omega]; rfl
      go_wp2
      refine bodyPost_ret (results_tmp2 rfl _ _ _) rfl ?_
      exact PuRes.ok (HS.out.symm.trans hend) HBB rfl
end Go.Proofs.YtnjhmnolngdfaaaGreatDoor
namespace Go.Proofs.YtnjhmnolngdfaaaGreatDoor
open Go.RowKit Go.PlainAid
set_option linter.unusedVariables false
set_option linter.unusedSimpArgs false

/-- An error's variable. -/
def ErrAt (w : World) (g : Nat) : Prop := ∃ ev, w.cell? ⟨g, 0, none⟩ = some ev ∧ (ev = .nilIface ∨ ∃ te pe, ev = .iface te pe)
/-- The variables that reading leans on, none of them the reader's own block. -/
structure Gl (w : World) (r : Nat) : Prop where
  syn : ErrAt w 4
  rng : ErrAt w 5
  tabs : Lib.Utf8Tabs 1 2 w
  n1 : 4 < r
  n2 : 5 < r
  n3 : 1 < r
  n4 : 2 < r
theorem cell_bes {X : Nat → Prop} {w w' : World} {b j : Nat} {v : Value} (h : Bes X w w') (hn : ¬ X b) (hc : w.cell? ⟨b, j, none⟩ = some v) : w'.cell? ⟨b, j, none⟩ = some v :=
  (World.cell?_of_block (h.block b (World.block_lt_of_cell? w _ hc) hn)).trans hc
theorem ErrAt.bes {X : Nat → Prop} {w w' : World} {g : Nat} (h : Bes X w w') (hn : ¬ X g) (he : ErrAt w g) : ErrAt w' g := by
  obtain ⟨ev, h1, h2⟩ := he
  exact ⟨ev, cell_bes h hn h1, h2⟩
theorem Gl.bes {X : Nat → Prop} {r : Nat} {w w' : World} (h : Bes X w w') (hx : ∀ k, k < r → ¬ X k) (hg : Gl w r) : Gl w' r :=
  ⟨hg.syn.bes h (hx _ hg.n1), hg.rng.bes h (hx _ hg.n2), ⟨fun c hc => cell_bes h (hx _ hg.n3) (hg.tabs.1 c hc), fun i hi => ⟨cell_bes h (hx _ hg.n4) (hg.tabs.2 i hi).1, cell_bes h (hx _ hg.n4) (hg.tabs.2 i hi).2⟩⟩, hg.n1, hg.n2, hg.n3, hg.n4⟩
theorem Gl.mv {r : Nat} {w w' : World} (h : Mv r w w') (hg : Gl w r) : Gl w' r := hg.bes h (fun k hk e => Nat.ne_of_lt hk e)
theorem Gl.below {r : Nat} {w w' : World} (h : Below w.heap.size w w') (hg : Gl w r) : Gl w' r := hg.mv (Mv.of h)
def SpRes (o : Out Int) (w : World) (e : Ending) (w' : World) : Prop := Below w.heap.size w w' ∧ (match o with
    | .ok v _ => e = .returned (.tuple #[.int .u64 v, .nilIface])
    | .bad _ _ => ∃ t p, e = .returned (.tuple #[.int .u64 0, .iface t p]))
theorem spu_any (t : ByteArray) (ht : t.size = 4) {w : World} (he : ErrAt w 4) : Calls Tryz.prog 100 #[.string t, .int .i64 16, .int .i64 32] w (SpRes (hexTo t 4 0 0) w) := by
  have HB := Below.refl w.heap.size w
  cases ho : hexTo t 4 0 0 with
  | ok v k =>
    go_enter Tryz.func100, Tryz.ntmps100
    go_wp2_with (go_at_call 116; (with_reducible refine (pu_any t ht _).mono ?_); rw [ho]; rintro e w1 ⟨hb, rfl⟩)
    refine bodyPost_ret (results_tmp2 rfl _ _ _) rfl ?_
    exact ⟨hb, rfl⟩
  | bad c k =>
    go_enter Tryz.func100, Tryz.ntmps100
    go_wp2_with (first
      | (go_at_call 116; (with_reducible refine (pu_any t ht _).mono ?_); rw [ho]; rintro e w1 ⟨hb, rfl⟩; obtain ⟨ev, he1, he2⟩ := he; replace he1 := cell_below hb he1)
      | (go_at_call 97; (with_reducible refine (Tryz.strconv_toError_syntax _ t _ _ ev _ (by rw [ht]; decide) he1 he2).mono ?_); rintro e w2 ⟨N, rfl, _, _, hb2⟩))
    refine bodyPost_ret (results_tmp2 rfl _ _ _) rfl ?_
    exact ⟨zT hb hb2, _, _, rfl⟩
def PairB (n m : Int) : Bool := decide (55296 ≤ n) && decide (n ≤ 56319) && decide (56320 ≤ m) && decide (m ≤ 57343)
theorem pair_ok {n m : Int} (h1 : 55296 ≤ n) (h2 : n ≤ 56319) (h3 : 56320 ≤ m) (h4 : m ≤ 57343) (w : World) : Calls Tryz.prog 101 #[.int .i64 n, .int .i64 m] w fun e w' => e = .returned (.tuple #[.int .i64 (65536 + 1024 * (n - 55296) + (m - 56320)), .nilIface]) ∧ w' = w := by
  have e1 : ¬ n < 55296 := by omega
  have e2 : ¬ n > 56319 := by omega
  have e3 : ¬ m < 56320 := by omega
  have e4 : ¬ m > 57343 := by omega
  go_enter Tryz.func101, Tryz.ntmps101
  go_wp2
  refine bodyPost_ret (results_tmp2 rfl _ _ _) rfl ⟨?_, rfl⟩
  show Ending.returned (.tuple #[.int .i64 (65536 + (n - 55296) * 1024 + m - 56320), .nilIface]) = _
  rw [show 65536 + (n - 55296) * 1024 + m - 56320 = 65536 + 1024 * (n - 55296) + (m - 56320) by omega]
theorem pair_bad {n m : Int} (h0 : 0 ≤ n) (h0' : n < 65536) (k0 : 0 ≤ m) (k1 : m < 65536) (h : ¬ (55296 ≤ n ∧ n ≤ 56319 ∧ 56320 ≤ m ∧ m ≤ 57343)) (w : World) : Calls Tryz.prog 101 #[.int .i64 n, .int .i64 m] w fun e w' => e = .returned (.tuple #[.int .i64 0, .iface 31 (.int .i64 1)]) ∧ w' = w := by
  by_cases e1 : n < 55296 <;> by_cases e2 : n > 56319 <;> by_cases e3 : m < 56320 <;> by_cases e4 : m > 57343
  all_goals try (exfalso; omega)
  all_goals
    go_enter Tryz.func101, Tryz.ntmps101
    go_wp2
    refine bodyPost_ret (results_tmp2 rfl _ _ _) rfl ?_
    exact ⟨rfl, rfl⟩
end Go.Proofs.YtnjhmnolngdfaaaGreatDoor
