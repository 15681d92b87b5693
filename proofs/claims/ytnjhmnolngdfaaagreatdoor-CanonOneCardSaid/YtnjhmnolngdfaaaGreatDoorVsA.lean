/- The document's layer 1, walked: coveyref01.Points, coveyref01.Bad; what is sound is what Go takes for valid. -/
import Derived.Test.YtnjhmnolngdfaaaGreatDoorVuD
import Derived.Test.YtnjhmnolngdfaaaGreatDoorAppL
namespace Go.Proofs.YtnjhmnolngdfaaaGreatDoor
open Go.RowKit Go.PlainAid
set_option linter.unusedVariables false
set_option linter.unusedSimpArgs false
/-- The first place from i on where no character stands; -1: there is none. -/
def badFrom (s : ByteArray) : Nat → Nat → Int
  | 0, _ => -1
  | n + 1, i => if i < s.size then (if (Utf8.decode s i).1 = 65533 ∧ (Utf8.decode s i).2 ≤ 1 then (i : Int) else badFrom s n (i + (Utf8.decode s i).2)) else -1
def badI (s : ByteArray) : Int := badFrom s s.size 0
theorem bf_end {s : ByteArray} {n i : Nat} (h : ¬ i < s.size) : badFrom s n i = -1 := by
  cases n with
  | zero => rfl
  | succ n => unfold badFrom; rw [if_neg h]
theorem bf_bad {s : ByteArray} {n i : Nat} (h : i < s.size) (hb : badU s i) : badFrom s (n + 1) i = i := by
  unfold badU at hb
  unfold badFrom
  rw [if_pos h, if_pos hb]
theorem bf_go {s : ByteArray} {n i : Nat} (h : i < s.size) (hb : ¬ badU s i) : badFrom s (n + 1) i = badFrom s n (i + (Utf8.decode s i).2) := by
  unfold badU at hb
  conv => lhs; unfold badFrom
  rw [if_pos h, if_neg hb]
theorem vdec_bounds (s : ByteArray) (i : Nat) (hi : i < s.size) : 0 < (Utf8.decode s i).2 ∧ i + (Utf8.decode s i).2 ≤ s.size := by
  rw [← Lib.decodeL_drop]
  have hne : s.data.toList.drop i ≠ [] := by
    intro h
    rw [List.drop_eq_nil_iff] at h
    have : s.data.toList.length = s.size := by simp
    omega
  have h1 := Lib.decodeL_width (s.data.toList.drop i)
  have h2 := Lib.decodeL_le _ hne
  rw [List.length_drop] at h2
  have : s.data.toList.length = s.size := by simp
  omega
theorem bf_valid {s : ByteArray} : ∀ (n i : Nat), s.size ≤ i + n → (badFrom s n i < 0 ↔ Lib.validD (s.data.toList.drop i) = true)
  | n, i, hn => by
    by_cases hi : i < s.size
    · have hlen : s.data.toList.length = s.size := by simp
      have hne : s.data.toList.drop i ≠ [] := by
        intro h
        rw [List.drop_eq_nil_iff] at h
        omega
      have hw := vdec_bounds s i hi
      match n, hn with
      | 0, hn => omega
      | n + 1, hn =>
        rw [Lib.validD_step _ hne, Lib.decodeL_drop, List.drop_drop]
        by_cases hb : badU s i
        · rw [bf_bad hi hb, if_pos ⟨hb.1, by have := hb.2; omega⟩]
          simp
        · rw [bf_go hi hb, if_neg (fun h => hb ⟨h.1, by omega⟩)]
          exact bf_valid n _ (by omega)
    · rw [bf_end hi]
      have : s.data.toList.drop i = [] := List.drop_eq_nil_of_le (by have : s.data.toList.length = s.size := by simp
                                                                     omega)
      rw [this]
      simp [Lib.validD_nil]
theorem badI_valid (s : ByteArray) : badI s < 0 ↔ Lib.validD s.data.toList = true := by
  have := bf_valid (s := s) s.size 0 (by omega)
  rwa [List.drop_zero] at this
theorem vinfo_int : (Tryz.prog.info? 3).map (fun i => (i.zero, i.size, i.bytes)) = some (some (.int .i64 0), 1, 8) := by kernel_rfl
theorem vint_info : ∃ ie, Tryz.prog.info? 3 = some ie ∧ ie.zero = some (.int .i64 0) ∧ ie.size = 1 ∧ ie.bytes = 8 := by
  have h := vinfo_int
  cases hq : Tryz.prog.info? 3 with
  | none => rw [hq] at h; cases h
  | some ie =>
    rw [hq] at h
    simp only [Option.map_some, Option.some.injEq, Prod.mk.injEq] at h
    exact ⟨ie, rfl, h.1, h.2.1, h.2.2⟩
theorem vint_fill (p : Int) : Instr.fill (fun i => some (i * 1, 1)) ((Array.range (1 * 1)).map ((Value.int .i64 0).cells[· % (Value.int .i64 0).cells.size]!)) [(0, .int .i64 p)] = some #[.int .i64 p] := by kernel_rfl
/-- What Points answers: some row, and the first place that is amiss. -/
def PtsP (s : ByteArray) (w : World) (e : Ending) (w' : World) : Prop := (∃ v, e = .returned (.tuple #[v, .int .i64 (badI s)])) ∧ Below w.heap.size w w'
theorem PtsP.of {s : ByteArray} {w w' : World} {v : Value} {x : Int} (h : badI s = x) (hb : Below w.heap.size w w') : PtsP s w (.returned (.tuple #[v, .int .i64 x])) w' := by subst h; exact ⟨⟨v, rfl⟩, hb⟩
set_option maxRecDepth 10000 in
set_option maxHeartbeats 8000000 in
theorem points_any {s : ByteArray} (hs : s.size ≤ 17592186044400) (w : World) : Calls Tryz.prog 71 #[.string s] w (PtsP s w) := by
  obtain ⟨ie, hie1, hie2, hie3, hie4⟩ := vint_info
  go_enter Tryz.func71, Tryz.ntmps71
  go_wp2
  go_loopw [4, 5] (fun ov av wr => ∃ (k n m : Nat) (v : Value) (xs : List Value), v = ov ∧ av = .int .i64 k ∧ k ≤ s.size ∧ wr.ownsRow w.heap.size 3 1 v m xs ∧ m ≤ k ∧ s.size ≤ k + n ∧ Hid (badFrom s n k = badI s) ∧ Below w.heap.size w wr) (fun _ av _ => s.size - (intOf av).toNat)
  case atStart => exact ⟨0, s.size, 0, _, [], rfl, rfl, Nat.zero_le _, ⟨rfl, .inl ⟨rfl, rfl⟩⟩, Nat.le_refl _, by omega, Lib.hid rfl, Below.refl _ _⟩
  case round =>
    obtain ⟨k, n, m, v, xs, rfl, rfl, hk, HO, hmk, hkn, HS, HB⟩ := hrel
    by_cases hlt : k < s.size
    · have hkr : s.size ≤ 140737488355328 := by omega
      have hlt' : (k : Int) < (s.size : Int) := by omega
      obtain ⟨n2, hn2⟩ : ∃ n2, n = n2 + 1 := ⟨n - 1, by omega⟩
      subst hn2
      by_cases hbu : badU s k
      · have HK := Lib.hid (HS.out.symm.trans (bf_bad hlt hbu))
        have HA := Lib.hid (atS_bad hbu)
        clear hbu
        go_wp2_with (go_at_call 91; (with_reducible refine (at_any hlt hkr _).mono ?_); rintro e w2 ⟨rfl, hb⟩; rw [HA.out]; replace HB := HB.trans (hb.mono HB.size); clear hb)
        go_ret2
        exact PtsP.of HK.out HB
      · have hd := vdec_bounds s k hlt
        have HS2 : Hid (badFrom s n2 (k + (Utf8.decode s k).2) = badI s) := Lib.hid ((bf_go hlt hbu).symm.trans HS.out)
        have hat := atS_ok hbu
        obtain ⟨D1, D2, hD⟩ : ∃ D1 D2, Utf8.decode s k = (D1, D2) := ⟨_, _, rfl⟩
        rw [hD] at hat hd HS2
        have hd0 : 0 < D2 := hd.1
        have hdl : k + D2 ≤ s.size := hd.2
        have HS3 : Hid (badFrom s n2 (k + D2) = badI s) := HS2
        have hd1 : ¬ (D2 : Int) = 0 := by omega
        have hd2 : (k : Int) + (D2 : Int) ≤ (s.size : Int) := by omega
        have HA := Lib.hid hat
        clear hat hD hbu hd HS HS2
        go_wp2_with (first
          | (go_at_call 91; (with_reducible refine (at_any hlt hkr _).mono ?_); rintro e w2 ⟨rfl, hb⟩; rw [HA.out]; have hbz := HB.size; replace HO := own_below HO (hb.mono (Nat.le_refl _)); replace HB := HB.trans (hb.mono HB.size); clear hb hbz)
          | ((with_reducible refine is_slice ?_); refine wpl_slice_at 1 [(0, .int .i64 (D1 : Int))] #[.int .i64 (D1 : Int)] ie _ (by rw [hie3]; exact vint_fill _) rfl 106 3 _ rfl rfl Tryz.underlying106 hie1 hie2 (by rw [hie3]; decide) (by rw [hie3]; decide) ?_; intro w9 hw; have hb := hid_grow hw; have B9 := (hid_alloc hw).1; clear hw; replace HO := own_below HO hb; replace HB := HB.trans (hb.mono HB.size); clear hb; have hbz := HB.size)
          | (at_builtin; refine wpl_append_fresh rfl (.tmp 22) (.tmp 24) 106 rfl w.heap.size 3 ie _ 1 8 Tryz.underlying106 hie1 hie2 hie3 hie4 rfl (by decide) v m xs rfl HO _ 1 #[.int .i64 (D1 : Int)] _ B9 rfl rfl (by simp [Value.oneCell']) (by unfold maxLen; omega) (by omega) hbz ?_; intro v9 w10 ho9 hb9; replace HO := ho9; replace HB := HB.trans hb9; clear ho9 hb9 B9 hbz))
        go_roundw
        case rel => exact ⟨k + D2, n2, m + 1, v9, _, rfl, by go_num, hdl, HO, by omega, by omega, HS3, HB⟩
        case measure => simp [intOf]; omega
    · have hlt' : ¬ (k : Int) < (s.size : Int) := by omega
      have HK := Lib.hid (HS.out.symm.trans (bf_end hlt))
      go_wp2
      go_ret2
      exact PtsP.of HK.out HB
theorem badu_any {s : ByteArray} (hs : s.size ≤ 17592186044400) (w : World) : Calls Tryz.prog 47 #[.string s] w fun e w' => e = .returned (.int .i64 (badI s)) ∧ Below w.heap.size w w' := by
  go_enter Tryz.func47, Tryz.ntmps47
  go_wp2_with (go_at_call 71; (with_reducible refine (points_any hs _).mono ?_); rintro e w2 ⟨⟨v, rfl⟩, hb⟩)
  go_ret
  exact ⟨rfl, hb⟩
end Go.Proofs.YtnjhmnolngdfaaaGreatDoor
