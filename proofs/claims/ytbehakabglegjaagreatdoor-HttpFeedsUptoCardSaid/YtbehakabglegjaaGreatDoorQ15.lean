/- utf.Bad, walked, at a seat without json. Layer 9: a feed's steps: a request's target, an answer's reason. -/
import Derived.Laws.RangeAny
import Derived.Lib.OthersKept
import Derived.Lib.RuneBytes
import Derived.Shelf.Unicode.DecodeSlow
import Derived.Lib.RuneCountTail
import Derived.Test.YtbehakabglegjaaGreatDoorQ14
import Derived.Test.YtbehakabglegjaaGreatDoorQ11
import Derived.Test.YtbehakabglegjaaGreatDoorQZip
namespace Go.Proofs.YtbehakabglegjaaGreatDoor
open Go.RowKit Go.PlainAid
set_option linter.unusedVariables false
set_option linter.unusedSimpArgs false
theorem dec_bounds (s : ByteArray) (i : Nat) (hi : i < s.size) : 0 < (Utf8.decode s i).2 ∧ i + (Utf8.decode s i).2 ≤ s.size := by
  unfold Utf8.decode
  simp only
  split
  · exact ⟨Nat.succ_pos _, by show i + 1 ≤ s.size; omega⟩
  · split
    · rename_i h
      simp only [Bool.and_eq_true, decide_eq_true_eq] at h
      split
      · exact ⟨Nat.succ_pos _, by show i + 2 ≤ s.size; omega⟩
      · exact ⟨Nat.succ_pos _, by show i + 1 ≤ s.size; omega⟩
    · split
      · rename_i h
        simp only [Bool.and_eq_true, decide_eq_true_eq] at h
        split
        · exact ⟨Nat.succ_pos _, by show i + 3 ≤ s.size; omega⟩
        · exact ⟨Nat.succ_pos _, by show i + 1 ≤ s.size; omega⟩
      · split
        · rename_i h
          simp only [Bool.and_eq_true, decide_eq_true_eq] at h
          split
          · exact ⟨Nat.succ_pos _, by show i + 4 ≤ s.size; omega⟩
          · exact ⟨Nat.succ_pos _, by show i + 1 ≤ s.size; omega⟩
        · exact ⟨Nat.succ_pos _, by show i + 1 ≤ s.size; omega⟩
theorem decodeGo_at (s : ByteArray) (i : Nat) (hi : i < s.size) : Lib.decodeGo (s.extract i s.size) = Utf8.decode s i := by
  unfold Lib.decodeGo
  rw [if_neg (by simp; omega), Lib.tail_decode, Nat.add_zero]
set_option maxRecDepth 100000 in
set_option maxHeartbeats 4000000 in
theorem ubad_any {s : ByteArray} {w : World} (hG : Wh w w.heap.size) (hs : s.size ≤ 140737488355328) : Calls Tryz.prog 74 #[.string s] w fun e w' => e = .returned (.int .i64 (badI s)) ∧ Below w.heap.size w w' := by
  go_enter Tryz.func74, Tryz.ntmps74
  go_wp2
  go_loopw [] (fun wr => ∃ (pos n : Nat), wr.heap[w.heap.size]? = some (.stringIter s pos) ∧ Below w.heap.size w wr ∧ pos ≤ s.size ∧ s.size ≤ pos + n ∧ Hid (badFrom s n pos = badI s)) (fun wr => s.size - wr.iterPos w.heap.size)
  case atStart =>
    refine ⟨0, s.size, ?_, (Below.refl _ w).alloc (Nat.le_refl _) _, Nat.zero_le _, by omega, Lib.hid rfl⟩
    have := World.iter_heap w s 0
    simpa using this
  case round =>
    obtain ⟨pos, n, hit, HB, hps, hpn, HS⟩ := hrel
    have hsz : w.heap.size < wr.heap.size := (Array.getElem?_eq_some_iff.1 hit).1
    have hpos : wr.iterPos w.heap.size = pos := by simp [World.iterPos, hit]
    by_cases hp : pos < s.size
    · have hnx : ∀ ty, (Instr.next (.pointer (some ⟨w.heap.size, 0, none⟩)) true ty).run Tryz.prog wr = _ := fun ty => Lib.run_next_any_at wr w.heap.size s pos ty hit hp
      have hdb := dec_bounds s pos hp
      have hd1 := decode_le s pos
      have hit2 := Lib.iterAt_heap wr w.heap.size s pos (pos + (Utf8.decode s pos).2) hit
      have HB2 := Lib.below_iterAt HB (k := w.heap.size) (Nat.le_refl _) s (pos + (Utf8.decode s pos).2)
      obtain ⟨f, rfl⟩ : ∃ f, n = f + 1 := ⟨n - 1, by omega⟩
      have hA : 0 ≤ (pos : Int) ∧ (pos : Int) ≤ (s.size : Int) := by omega
      have hA1 : (pos : Int) ≤ (s.size : Int) := hA.2
      have HKB : Hid (badU s pos → badI s = pos) := Lib.hid fun hh => HS.out.symm.trans (bf_bad hp hh)
      have HKG : Hid (¬ badU s pos → badFrom s f (pos + (Utf8.decode s pos).2) = badI s) := Lib.hid fun hh => (bf_go hp hh).symm.trans HS.out
      have hgd := decodeGo_at s pos hp
      unfold badU at HKB HKG
      generalize hD1 : (Utf8.decode s pos).1 = D1 at *
      generalize hD2 : (Utf8.decode s pos).2 = D2 at *
      have HD1 := Lib.hid hD1
      have HD2 := Lib.hid hD2
      have HGD := Lib.hid hgd
      have HPO := Lib.hid hpos
      clear hD1 hD2 hgd hpos
      generalize hW2 : wr.iterAt w.heap.size s (pos + D2) = w2 at *
      have hG2 := (hG.at HB2).tabs
      clear hW2
      by_cases h65 : D1 = 65533
      · subst h65
        by_cases hw1 : D2 ≤ 1
        · have HF := Lib.hid (HKB.out ⟨rfl, hw1⟩)
          have hwI : ((D2 : Int) ≤ 1) := by omega
          go_wp2_with (go_at_call 95; (with_reducible refine (Tryz.utf8_DecodeRuneInString _ _ hG2).mono ?_); rw [HGD.out, HD1.out, HD2.out]; rintro e w9 ⟨rfl, hb3⟩)
          go_ret
          exact ⟨ret_int (by rw [HF.out]), zT HB2 hb3⟩
        · have hwI : ¬ ((D2 : Int) ≤ 1) := by omega
          have HF := Lib.hid (HKG.out (fun e => hw1 e.2))
          go_wp2_with (go_at_call 95; (with_reducible refine (Tryz.utf8_DecodeRuneInString _ _ hG2).mono ?_); rw [HGD.out, HD1.out, HD2.out]; rintro e w9 ⟨rfl, hb3⟩; have hit3 := (hb3.block _ (Array.getElem?_eq_some_iff.1 hit2).1).trans hit2; have HB3 := zT HB2 hb3)
          go_roundw
          case rel => exact ⟨pos + D2, f, hit3, HB3, by omega, by omega, HF⟩
          case measure =>
            simp only [World.iterPos, hit3]
            have := HPO.out
            simp only [World.iterPos] at this
            omega
      · have h65I : ((D1 : Int) == 65533) = false := by simp; omega
        have HF := Lib.hid (HKG.out (fun e => h65 e.1))
        go_wp2
        go_roundw
        case rel => exact ⟨pos + D2, f, hit2, HB2, by omega, by omega, HF⟩
        case measure =>
          simp only [World.iterPos, hit2]
          have := HPO.out
          simp only [World.iterPos] at this
          omega
    · have hnx : ∀ ty, (Instr.next (.pointer (some ⟨w.heap.size, 0, none⟩)) true ty).run Tryz.prog wr = _ := fun ty => Lib.run_next_end_at wr w.heap.size s pos ty hit hp
      have HF := Lib.hid (HS.out.symm.trans (bf_end hp))
      go_wp2
      go_ret
      exact ⟨ret_int (by rw [HF.out]), HB⟩
end Go.Proofs.YtbehakabglegjaaGreatDoor
namespace Go.Proofs.YtbehakabglegjaaGreatDoor
open Go.RowKit Go.PlainAid
set_option linter.unusedVariables false
set_option linter.unusedSimpArgs false
set_option maxRecDepth 100000 in
set_option maxHeartbeats 4000000 in
theorem target_any {base : Bs} {g : Nat} {F : Fs} {nx tk hs bd wh : Value} {L : List Mm} {w : World} {c : UInt8} (h : FdM base g F nx tk hs bd wh L w) (hj : FJ F) (hx : F.next = 1) :
    Calls Tryz.prog 102 #[.pointer (some ⟨g, 0, none⟩), .int .u8 (c.toNat : Int)] w (StV base g F c w) := by
  have HT := Lib.hid hj.tok
  have HS : Hid (stepS F c = targetS F c) := Lib.hid (by unfold stepS; rw [hx]; rfl)
  clear hj hx
  obtain ⟨A, cp, htk⟩ := bt_slice h.2.rt
  subst htk
  have B := h.1
  have R := Lib.hid h.2
  have HB := Bl.refl base w
  clear h
  have c5 : w.cell? ⟨g, 5, none⟩ = some (.slice A F.tok.length cp) := B.cell 5
  by_cases h1 : c.toNat = 32 ∧ 0 < F.tok.length
  · have HV : Hid (targetS F c = .ok { F with m := { F.m with targ := txt F.tok }, tok := [], next := 2 }) := Lib.hid (by unfold targetS; rw [if_pos h1])
    by_cases a0 : c.toNat = 32 <;> by_cases a1 : 0 < F.tok.length
    all_goals first
      | (exfalso; omega)
      | skip
    all_goals clear h1
    all_goals
      go_enter Tryz.func102, Tryz.ntmps102
      go_wp2_with (first
        | (go_at_call 101; (have hM := fdm (F := F) B R.out); (with_reducible refine (taken_any hM).mono ?_); rintro e w4 ⟨rfl, ⟨tk4, hm⟩, hb⟩; replace B := hm.1; replace R := Lib.hid hm.2; replace HB := HB.trans hb; clear hm hb hM)
        | ((with_reducible refine is_store ?_); refine wpl_store_cell rfl 9 (.tmp 22) (.tmp 19) rfl g 7 rfl (.string (txt F.tok)) rfl _ _ B (show 7 < 16 by decide) one_s rfl ?_; intro w5 hw; replace HB := HB.trans (R.out.store hw); replace R := Lib.hid (R.out.row (Bes.row (X := fun q => q = g) hw rfl)); replace B := hid_row hw B; simp only [FdC_7] at B; clear hw))
      go_ret2
      exact StV.ok (HS.out.trans HV.out) HB (fdm B (R.out.same rfl rfl rfl rfl)) rfl
  · by_cases h2 : c.toNat < 33 ∨ 126 < c.toNat
    · have HV : Hid (targetS F c = .bad 3) := Lib.hid (by unfold targetS; rw [if_neg h1, if_pos h2])
      by_cases a0 : c.toNat = 32 <;> by_cases a1 : 0 < F.tok.length <;> by_cases a2 : c.toNat < 33 <;> by_cases a3 : 126 < c.toNat
      all_goals first
        | (exfalso; omega)
        | skip
      all_goals clear h1 h2
      all_goals
        go_enter Tryz.func102, Tryz.ntmps102
        go_wp2
        go_ret2
        exact StV.bad (HS.out.trans HV.out) HB (fdm B R.out)
    · by_cases h3 : F.tok.length = 2048
      · have HV : Hid (targetS F c = .bad 2) := Lib.hid (by unfold targetS; rw [if_neg h1, if_neg h2, if_pos h3])
        by_cases a0 : c.toNat = 32 <;> by_cases a1 : c.toNat < 33 <;> by_cases a2 : 126 < c.toNat <;> by_cases a3 : (F.tok.length : Int) = 2048
        all_goals first
          | (exfalso; omega)
          | skip
        all_goals clear h1 h2
        all_goals
          go_enter Tryz.func102, Tryz.ntmps102
          go_wp2
          go_ret2
          exact StV.bad (HS.out.trans HV.out) HB (fdm B R.out)
      · have HV : Hid (targetS F c = .ok { F.put c with next := 1 }) := Lib.hid (by unfold targetS; rw [if_neg h1, if_neg h2, if_neg h3])
        by_cases a0 : c.toNat = 32 <;> by_cases a1 : c.toNat < 33 <;> by_cases a2 : 126 < c.toNat <;> by_cases a3 : (F.tok.length : Int) = 2048
        all_goals first
          | (exfalso; omega)
          | skip
        all_goals clear h1 h2
        all_goals
          go_enter Tryz.func102, Tryz.ntmps102
          go_wp2_with (first
            | ((with_reducible refine is_slice ?_); refine wpl_u8 rfl (.tmp 42) rfl c rfl ?_; intro w1 hb B9; replace B := zI B hb; replace HB := bl_add HB hb R.out; replace R := Lib.hid (R.out.below hb); clear hb)
            | (at_builtin; refine wpl_tok rfl (.tmp 41) (.tmp 43) rfl R.out B (by have := HT.out; omega) B9 rfl rfl ?_; intro A1 p1 w2 hr hB hb; replace HB := HB.trans hb; replace R := Lib.hid hr; replace B := hB; clear hr hB hb B9)
            | ((with_reducible refine is_store ?_); refine wpl_store_cell rfl 23 (.tmp 46) (.tmp 44) rfl g 5 rfl (.slice A1 (F.tok.length + 1) p1) rfl _ _ B (show 5 < 16 by decide) one_sb rfl ?_; intro w3 hw; replace HB := HB.trans (R.out.store hw); replace R := Lib.hid (R.out.row (Bes.row (X := fun q => q = g) hw rfl)); replace B := hid_row hw B; simp only [FdC_5] at B; clear hw))
          go_ret2
          exact StV.ok (HS.out.trans HV.out) HB (fdm B (R.out.same rfl rfl rfl rfl)) rfl
set_option maxRecDepth 100000 in
set_option maxHeartbeats 4000000 in
theorem reason_any {base : Bs} {g : Nat} {F : Fs} {nx tk hs bd wh : Value} {L : List Mm} {w : World} {c : UInt8} (h : FdM base g F nx tk hs bd wh L w) (hj : FJ F) (hx : F.next = 4) :
    Calls Tryz.prog 124 #[.pointer (some ⟨g, 0, none⟩), .int .u8 (c.toNat : Int)] w (StV base g F c w) := by
  have HT := Lib.hid hj.tok
  have HS : Hid (stepS F c = reasonS F c) := Lib.hid (by unfold stepS; rw [hx]; rfl)
  clear hj hx
  obtain ⟨A, cp, htk⟩ := bt_slice h.2.rt
  subst htk
  have B := h.1
  have R := Lib.hid h.2
  have HB := Bl.refl base w
  clear h
  have c5 : w.cell? ⟨g, 5, none⟩ = some (.slice A F.tok.length cp) := B.cell 5
  by_cases h1 : c.toNat = 13
  · have HV : Hid (reasonS F c = .ok { F with m := { F.m with reas := txt F.tok }, tok := [], next := 5 }) := Lib.hid (by unfold reasonS; rw [if_pos h1])
    go_enter Tryz.func124, Tryz.ntmps124
    go_wp2_with (first
      | (go_at_call 101; (have hM := fdm (F := F) B R.out); (with_reducible refine (taken_any hM).mono ?_); rintro e w4 ⟨rfl, ⟨tk4, hm⟩, hb⟩; replace B := hm.1; replace R := Lib.hid hm.2; replace HB := HB.trans hb; clear hm hb hM)
      | ((with_reducible refine is_store ?_); refine wpl_store_cell rfl 9 (.tmp 14) (.tmp 11) rfl g 9 rfl (.string (txt F.tok)) rfl _ _ B (show 9 < 16 by decide) one_s rfl ?_; intro w5 hw; replace HB := HB.trans (R.out.store hw); replace R := Lib.hid (R.out.row (Bes.row (X := fun q => q = g) hw rfl)); replace B := hid_row hw B; simp only [FdC_9] at B; clear hw))
    go_ret2
    exact StV.ok (HS.out.trans HV.out) HB (fdm B (R.out.same rfl rfl rfl rfl)) rfl
  · by_cases h2 : c.toNat < 32 ∨ 126 < c.toNat
    · have HV : Hid (reasonS F c = .bad 3) := Lib.hid (by unfold reasonS; rw [if_neg h1, if_pos h2])
      by_cases a0 : c.toNat < 32 <;> by_cases a1 : 126 < c.toNat
      all_goals first
        | (exfalso; omega)
        | skip
      all_goals clear h2
      all_goals
        go_enter Tryz.func124, Tryz.ntmps124
        go_wp2
        go_ret2
        exact StV.bad (HS.out.trans HV.out) HB (fdm B R.out)
    · have HV : Hid (reasonS F c = .ok { F.put c with next := 4 }) := Lib.hid (by unfold reasonS; rw [if_neg h1, if_neg h2])
      by_cases a0 : c.toNat < 32 <;> by_cases a1 : 126 < c.toNat
      all_goals first
        | (exfalso; omega)
        | skip
      all_goals clear h2
      all_goals
        go_enter Tryz.func124, Tryz.ntmps124
        go_wp2_with (first
          | ((with_reducible refine is_slice ?_); refine wpl_u8 rfl (.tmp 27) rfl c rfl ?_; intro w1 hb B9; replace B := zI B hb; replace HB := bl_add HB hb R.out; replace R := Lib.hid (R.out.below hb); clear hb)
          | (at_builtin; refine wpl_tok rfl (.tmp 26) (.tmp 28) rfl R.out B (by have := HT.out; omega) B9 rfl rfl ?_; intro A1 p1 w2 hr hB hb; replace HB := HB.trans hb; replace R := Lib.hid hr; replace B := hB; clear hr hB hb B9)
          | ((with_reducible refine is_store ?_); refine wpl_store_cell rfl 23 (.tmp 31) (.tmp 29) rfl g 5 rfl (.slice A1 (F.tok.length + 1) p1) rfl _ _ B (show 5 < 16 by decide) one_sb rfl ?_; intro w3 hw; replace HB := HB.trans (R.out.store hw); replace R := Lib.hid (R.out.row (Bes.row (X := fun q => q = g) hw rfl)); replace B := hid_row hw B; simp only [FdC_5] at B; clear hw))
        go_ret2
        exact StV.ok (HS.out.trans HV.out) HB (fdm B (R.out.same rfl rfl rfl rfl)) rfl
end Go.Proofs.YtbehakabglegjaaGreatDoor
