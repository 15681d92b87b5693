/- Layer 2: strconv.ParseUint at base 16, of four letters. -/
import Derived.Test.YtnjhmnolngdfaaaGreatDoorJrB
import Derived.Lib.ConvBytes
import Derived.Lib.AtoiErrMem
namespace Go.Proofs.YtnjhmnolngdfaaaGreatDoor
open Go.RowKit Go.PlainAid
set_option linter.unusedVariables false
set_option linter.unusedSimpArgs false

def low (c : Int) : Int := bits .or .u8 c 32
theorem low_all : ∀ n : Nat, n < 256 → 0 ≤ low (n : Int) ∧ low (n : Int) ≤ 255 ∧ (digI (n : Int) = false → hexI (n : Int) = if 97 ≤ low (n : Int) ∧ low (n : Int) ≤ 102 then low (n : Int) - 87 else -1) := by decide +kernel
theorem low_is {c : Int} (h0 : 0 ≤ c) (h1 : c ≤ 255) : 0 ≤ low c ∧ low c ≤ 255 ∧ (digI c = false → hexI c = if 97 ≤ low c ∧ low c ≤ 102 then low c - 87 else -1) := by
  have := low_all c.toNat (by omega)
  rwa [show ((c.toNat : Nat) : Int) = c by omega] at this
theorem low_lo_all : ∀ n : Nat, n < 48 → low (n : Int) < 97 := by decide +kernel
theorem low_lo {c : Int} (h0 : 0 ≤ c) (h1 : c < 48) : low c < 97 := by
  have := low_lo_all c.toNat (by omega)
  rwa [show ((c.toNat : Nat) : Int) = c by omega] at this
theorem lower_any (c : Int) (w : World) : Calls Tryz.prog 138 #[.int .u8 c] w fun e w' => e = .returned (.int .u8 (low c)) ∧ w' = w := Tryz.internal_strconv_lower c w
def PuRes (o : Out Int) (w : World) (e : Ending) (w' : World) : Prop := Below w.heap.size w w' ∧ (match o with
    | .ok v _ => e = .returned (.tuple #[.int .u64 v, .nilIface])
    | .bad _ _ => e = .returned (.tuple #[.int .u64 0, .iface 147 (.int .i64 2)]))
theorem PuRes.ok {o : Out Int} {w w' : World} {e : Ending} {v : Int} {k : Nat} (h : o = .ok v k) (hb : Below w.heap.size w w') (he : e = .returned (.tuple #[.int .u64 v, .nilIface])) : PuRes o w e w' := by subst h; exact ⟨hb, he⟩
theorem PuRes.bad {o : Out Int} {w w' : World} {e : Ending} {c : Int} {k : Nat} (h : o = .bad c k) (hb : Below w.heap.size w w') (he : e = .returned (.tuple #[.int .u64 0, .iface 147 (.int .i64 2)])) : PuRes o w e w' := by subst h; exact ⟨hb, he⟩
set_option maxRecDepth 10000 in
set_option maxHeartbeats 4000000 in
theorem pu_any (t : ByteArray) (ht : t.size = 4) (w : World) : Calls Tryz.prog 116 #[.string t, .int .i64 16, .int .i64 32] w (PuRes (hexTo t 4 0 0) w) := by
  have hemp : t.toList.isEmpty = false := by
    rw [← decide_eq_emptyBytes]
    exact decide_eq_false (fun h => by rw [h] at ht; exact absurd ht (by decide))
  have hcv := Lib.run_convert_string_bytes (P := Tryz.prog) w 9 46 5 t (u := .string) Tryz.underlying9 Tryz.underlying46 Tryz.underlying5
  have hB : ∀ j, j < t.size → (Lib.bytesWorld w 5 t).cell? ⟨w.heap.size, j, none⟩ = some (.int .u8 (t.data.toList.getD j 0).toNat) := fun j hj => Lib.bytesWorld_cell w 5 t j hj
  have HBB := Lib.bytesWorld_below w 5 t
  obtain ⟨W1, hW1⟩ : ∃ W1, W1 = Lib.bytesWorld w 5 t := ⟨_, rfl⟩
  rw [← hW1] at hcv hB HBB
  clear hW1
  have hC : ∀ j, j < t.size → W1.cell? ⟨w.heap.size, j, none⟩ = some (.int .u8 (bt t j)) := fun j hj => by
    rw [hB j hj]
    unfold bt
    rw [dif_pos hj]
    simp [List.getD, List.getElem?_eq_getElem (show j < t.data.toList.length by simpa using hj)]
    rfl
  clear hB
  go_enter Tryz.func116, Tryz.ntmps116
  go_wp2
  go_loopw [12, 13, 101] (fun uv nv iv wr => ∃ (k : Nat) (v : Int), uv = .bool false ∧ nv = .int .u64 v ∧ iv = .int .i64 k ∧ k ≤ 4 ∧ 0 ≤ v ∧ Hid (v < 16 ^ k) ∧ wr = W1 ∧ Hid (hexTo t (4 - k) k v = hexTo t 4 0 0)) (fun _ _ iv _ => 4 - (intOf iv).toNat)
  case atStart => exact ⟨0, 0, rfl, rfl, rfl, by omega, by omega, Lib.hid (by decide), rfl, Lib.hid rfl⟩
  case round =>
    obtain ⟨k, v, rfl, rfl, rfl, hk, hv0, HV, rfl, HS⟩ := hrel
    have b0 := bt_nonneg t k
    have b1 := bt_le t k
    by_cases hlt : k < 4
    · have hlt' : (k : Int) < 4 := by omega
      have hk0 : ¬ (k : Int) < 0 := by omega
      have hc := hC k (by omega)
      have hpk : pk t k = bt t k := pk_in (by omega)
      have hv2 : v < 4096 := by
        have hv1 := HV.out
        have : k = 0 ∨ k = 1 ∨ k = 2 ∨ k = 3 := by omega
        rcases this with rfl | rfl | rfl | rfl <;> simp at hv1 <;> omega
      have HF : ∀ h, hexI (bt t k) = h → h < 0 → hexTo t (4 - k) k v = .bad 3 k := fun h e1 e2 => by
        rw [show 4 - k = (3 - k) + 1 by omega]; unfold hexTo; rw [if_pos (by rw [hpk]; omega)]
      have HG : ∀ h, hexI (bt t k) = h → 0 ≤ h → h < 16 → hexTo t (4 - (k + 1)) (k + 1) (16 * v + h) = hexTo t 4 0 0 ∧ 16 * v + h < 16 ^ (k + 1) := fun h e1 e2 e3 => by
        refine ⟨?_, by have := HV.out; rw [Int.pow_succ]; omega⟩
        rw [← HS.out, show 4 - k = (3 - k) + 1 by omega, show 4 - (k + 1) = 3 - k by omega]
        conv => rhs; unfold hexTo
        rw [if_neg (by rw [hpk]; omega), hpk, e1]
      have HL := low_is b0 b1
      have L0 := HL.1
      have L1 := HL.2.1
      have L2 := Lib.hid HL.2.2
      clear HL
      have HFH := Lib.hid HF
      have HGH := Lib.hid HG
      clear HF HG hpk
      cases hd : digI (bt t k)
      · have hx := L2.out hd
        have hq : ¬ (48 ≤ bt t k ∧ bt t k ≤ 57) := fun h => by
          unfold digI at hd
          rw [decide_eq_true h.1, decide_eq_true h.2] at hd
          cases hd
        have l95 : low 95 = 127 := by decide +kernel
        by_cases q1 : 48 ≤ bt t k
        · have q2 : ¬ bt t k ≤ 57 := fun h => hq ⟨q1, h⟩
          by_cases h1 : 97 ≤ low (bt t k)
          · by_cases h2 : low (bt t k) ≤ 102
            · have hxx : hexI (bt t k) = low (bt t k) - 87 := by rw [hx, if_pos ⟨h1, h2⟩]
              have n95 : ¬ bt t k = 95 := fun h => by rw [h, l95] at h2; omega
              clear hx
              have e1 : ¬ 16 ≤ low (bt t k) - 97 + 10 := by omega
              have e2 : low (bt t k) ≤ 122 := by omega
              go_wp2_with (go_at_call 138; (with_reducible refine (lower_any _ _).mono ?_); rintro e w2 ⟨rfl, rfl⟩)
              obtain ⟨G1, G2⟩ := HGH.out _ hxx (by omega) (by omega)
              exact ⟨⟨k + 1, 16 * v + (low (bt t k) - 87), rfl, by congr 1; omega, by go_num, by omega, by omega, Lib.hid G2, trivial, Lib.hid G1⟩, by simp [intOf]; omega⟩
            · have hxx : hexI (bt t k) = -1 := by rw [hx, if_neg (fun h => h2 h.2)]
              clear hx
              by_cases h3 : low (bt t k) ≤ 122
              · have n95 : ¬ bt t k = 95 := fun h => by rw [h, l95] at h3; omega
                have e1 : 16 ≤ low (bt t k) - 97 + 10 := by omega
                go_wp2_with (go_at_call 138; (with_reducible refine (lower_any _ _).mono ?_); rintro e w2 ⟨rfl, rfl⟩)
                all_goals
                  refine bodyPost_ret (results_tmp2 rfl _ _ _) rfl ?_
                  exact PuRes.bad (HS.out.symm.trans (HFH.out _ hxx (by decide))) HBB rfl
              · by_cases n95 : bt t k = 95
                · have hl : low (bt t k) = 127 := by rw [n95, l95]
                  go_wp2_with (go_at_call 138; (with_reducible refine (lower_any _ _).mono ?_); rintro e w2 ⟨rfl, rfl⟩)
                  all_goals
                    refine bodyPost_ret (results_tmp2 rfl _ _ _) rfl ?_
                    exact PuRes.bad (HS.out.symm.trans (HFH.out _ hxx (by decide))) HBB rfl
                · go_wp2_with (go_at_call 138; (with_reducible refine (lower_any _ _).mono ?_); rintro e w2 ⟨rfl, rfl⟩)
                  all_goals
                    refine bodyPost_ret (results_tmp2 rfl _ _ _) rfl ?_
                    exact PuRes.bad (HS.out.symm.trans (HFH.out _ hxx (by decide))) HBB rfl
          · have hxx : hexI (bt t k) = -1 := by rw [hx, if_neg (fun h => h1 h.1)]
            have n95 : ¬ bt t k = 95 := fun h => by rw [h, l95] at h1; omega
            clear hx
            go_wp2_with (go_at_call 138; (with_reducible refine (lower_any _ _).mono ?_); rintro e w2 ⟨rfl, rfl⟩)
            all_goals
              refine bodyPost_ret (results_tmp2 rfl _ _ _) rfl ?_
              exact PuRes.bad (HS.out.symm.trans (HFH.out _ hxx (by decide))) HBB rfl
        · by_cases h1 : 97 ≤ low (bt t k)
          · by_cases h2 : low (bt t k) ≤ 102
            · exfalso
              have := low_lo b0 (by omega : bt t k < 48)
              omega
            · have hxx : hexI (bt t k) = -1 := by rw [hx, if_neg (fun h => h2 h.2)]
              have := low_lo b0 (by omega : bt t k < 48)
              omega
          · have hxx : hexI (bt t k) = -1 := by rw [hx, if_neg (fun h => h1 h.1)]
            have n95 : ¬ bt t k = 95 := by omega
            clear hx
            go_wp2_with (go_at_call 138; (with_reducible refine (lower_any _ _).mono ?_); rintro e w2 ⟨rfl, rfl⟩)
            all_goals
              refine bodyPost_ret (results_tmp2 rfl _ _ _) rfl ?_
              exact PuRes.bad (HS.out.symm.trans (HFH.out _ hxx (by decide))) HBB rfl
      · have hd2 := hd
        unfold digI at hd2
        simp only [Bool.and_eq_true, decide_eq_true_eq] at hd2
        have d1 := hd2.1
        have d2 := hd2.2
        clear hd2
        have e1 : ¬ 16 ≤ bt t k - 48 := by omega
        have e2 : ¬ bt t k = 95 := by omega
        have hxx : hexI (bt t k) = bt t k - 48 := by unfold hexI; rw [if_pos hd]
        go_wp2_with (fail)
        all_goals
          obtain ⟨G1, G2⟩ := HGH.out _ hxx (by omega) (by omega)
          exact ⟨⟨k + 1, 16 * v + (bt t k - 48), rfl, by congr 1; omega, by go_num, by omega, by omega, Lib.hid G2, trivial, Lib.hid G1⟩, by simp [intOf]; omega⟩
    · have hlt' : ¬ (k : Int) < 4 := by omega
      have hend : hexTo t (4 - k) k v = Out.ok v k := by rw [show 4 - k = 0 by omega]; rfl
      go_wp2
      refine bodyPost_ret (results_tmp2 rfl _ _ _) rfl ?_
      exact PuRes.ok (HS.out.symm.trans hend) HBB rfl
end Go.Proofs.YtnjhmnolngdfaaaGreatDoor
