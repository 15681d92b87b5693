/- utf.Bad, walked, at a seat without json. Layer 9: a feed's steps: a request's target, an answer's reason. Layer 9: a feed's steps: the protocol's name, the end of a piece. Layer 9: a feed's steps within a body: bytes, a piece's bytes, its end. -/
import Derived.Laws.RangeAny
import Derived.Lib.OthersKept
import Derived.Lib.RuneBytes
import Derived.Shelf.Unicode.DecodeSlow
import Derived.Lib.RuneCountTail
import Derived.Test.YtbehakabglegjaaGreatDoorQ11
import Derived.Test.YtbehakabglegjaaGreatDoorQ08
import Derived.Test.YtbehakabglegjaaGreatDoorQ09
namespace Go.Proofs.YtbehakabglegjaaGreatDoor
open Go.RowKit Go.PlainAid
set_option linter.unusedVariables false
set_option linter.unusedSimpArgs false
theorem dec_bounds (s : ByteArray) (i : Nat) (hi : i < s.size) : 0 < (Utf8.decode s i).2 ∧ i + (Utf8.decode s i).2 ≤ s.size := by
  unfold Utf8.decode
  simp only
  split
  · exact ⟨Nat.succ_pos _, by show i + 1 ≤ s.size; omega⟩
  · split
    · rename_i h
      simp only [Bool.and_eq_true, decide_eq_true_eq] at h
      split
      · exact ⟨Nat.succ_pos _, by show i + 2 ≤ s.size; omega⟩
      · exact ⟨Nat.succ_pos _, by show i + 1 ≤ s.size; omega⟩
    · split
      · rename_i h
        simp only [Bool.and_eq_true, decide_eq_true_eq] at h
        split
        · exact ⟨Nat.succ_pos _, by show i + 3 ≤ s.size; omega⟩
        · exact ⟨Nat.succ_pos _, by show i + 1 ≤ s.size; omega⟩
      · split
        · rename_i h
          simp only [Bool.and_eq_true, decide_eq_true_eq] at h
          split
          · exact ⟨Nat.succ_pos _, by show i + 4 ≤ s.size; omega⟩
          · exact ⟨Nat.succ_pos _, by show i + 1 ≤ s.size; omega⟩
        · exact ⟨Nat.succ_pos _, by show i + 1 ≤ s.size; omega⟩
theorem decodeGo_at (s : ByteArray) (i : Nat) (hi : i < s.size) : Lib.decodeGo (s.extract i s.size) = Utf8.decode s i := by
  unfold Lib.decodeGo
  rw [if_neg (by simp; omega), Lib.tail_decode, Nat.add_zero]
set_option maxRecDepth 100000 in
set_option maxHeartbeats 4000000 in
theorem ubad_any {s : ByteArray} {w : World} (hG : Wh w w.heap.size) (hs : s.size ≤ 140737488355328) : Calls Tryz.prog 74 #[.string s] w fun e w' => e = .returned (.int .i64 (badI s)) ∧ Below w.heap.size w w' := by
  go_enter Tryz.func74, Tryz.ntmps74
  go_wp2
  go_loopw [] (fun wr => ∃ (pos n : Nat), wr.heap[w.heap.size]? = some (.stringIter s pos) ∧ Below w.heap.size w wr ∧ pos ≤ s.size ∧ s.size ≤ pos + n ∧ Hid (badFrom s n pos = badI s)) (fun wr => s.size - wr.iterPos w.heap.size)
  case atStart =>
    refine ⟨0, s.size, ?_, (Below.refl _ w).alloc (Nat.le_refl _) _, Nat.zero_le _, by omega, Lib.hid rfl⟩
    have := World.iter_heap w s 0
    simpa using this
  case round =>
    obtain ⟨pos, n, hit, HB, hps, hpn, HS⟩ := hrel
    have hsz : w.heap.size < wr.heap.size := (Array.getElem?_eq_some_iff.1 hit).1
    have hpos : wr.iterPos w.heap.size = pos := by simp [World.iterPos, hit]
    by_cases hp : pos < s.size
    · have hnx : ∀ ty, (Instr.next (.pointer (some ⟨w.heap.size, 0, none⟩)) true ty).run Tryz.prog wr = _ := fun ty => Lib.run_next_any_at wr w.heap.size s pos ty hit hp
      have hdb := dec_bounds s pos hp
      have hd1 := decode_le s pos
      have hit2 := Lib.iterAt_heap wr w.heap.size s pos (pos + (Utf8.decode s pos).2) hit
      have HB2 := Lib.below_iterAt HB (k := w.heap.size) (Nat.le_refl _) s (pos + (Utf8.decode s pos).2)
      obtain ⟨f, rfl⟩ : ∃ f, n = f + 1 := ⟨n - 1, by omega⟩
      have hA : 0 ≤ (pos : Int) ∧ (pos : Int) ≤ (s.size : Int) := by omega
      have hA1 : (pos : Int) ≤ (s.size : Int) := hA.2
      have HKB : Hid (badU s pos → badI s = pos) := Lib.hid fun hh => HS.out.symm.trans (bf_bad hp hh)
      have HKG : Hid (¬ badU s pos → badFrom s f (pos + (Utf8.decode s pos).2) = badI s) := Lib.hid fun hh => (bf_go hp hh).symm.trans HS.out
      have hgd := decodeGo_at s pos hp
      unfold badU at HKB HKG
      generalize hD1 : (Utf8.decode s pos).1 = D1 at *
      generalize hD2 : (Utf8.decode s pos).2 = D2 at *
      have HD1 := Lib.hid hD1
      have HD2 := Lib.hid hD2
      have HGD := Lib.hid hgd
      have HPO := Lib.hid hpos
      clear hD1 hD2 hgd hpos
      generalize hW2 : wr.iterAt w.heap.size s (pos + D2) = w2 at *
      have hG2 := (hG.at HB2).tabs
      clear hW2
      by_cases h65 : D1 = 65533
      · subst h65
        by_cases hw1 : D2 ≤ 1
        · have HF := Lib.hid (HKB.out ⟨rfl, hw1⟩)
          have hwI : ((D2 : Int) ≤ 1) := by omega
          go_wp2_with (go_at_call 95; (with_reducible refine (Tryz.utf8_DecodeRuneInString _ _ hG2).mono ?_); rw [HGD.out, HD1.out, HD2.out]; rintro e w9 ⟨rfl, hb3⟩)
          go_ret
          exact ⟨ret_int (by rw [HF.out]), HB2.trans (hb3.mono HB2.size)⟩
        · have hwI : ¬ ((D2 : Int) ≤ 1) := by omega
          have HF := Lib.hid (HKG.out (fun e => hw1 e.2))
          go_wp2_with (go_at_call 95; (with_reducible refine (Tryz.utf8_DecodeRuneInString _ _ hG2).mono ?_); rw [HGD.out, HD1.out, HD2.out]; rintro e w9 ⟨rfl, hb3⟩; have hit3 := (hb3.block _ (Array.getElem?_eq_some_iff.1 hit2).1).trans hit2; have HB3 := HB2.trans (hb3.mono HB2.size))
          go_roundw
          case rel => exact ⟨pos + D2, f, hit3, HB3, by omega, by omega, HF⟩
          case measure =>
            simp only [World.iterPos, hit3]
            have := HPO.out
            simp only [World.iterPos] at this
            omega
      · have h65I : ((D1 : Int) == 65533) = false := by simp; omega
        have HF := Lib.hid (HKG.out (fun e => h65 e.1))
        go_wp2
        go_roundw
        case rel => exact ⟨pos + D2, f, hit2, HB2, by omega, by omega, HF⟩
        case measure =>
          simp only [World.iterPos, hit2]
          have := HPO.out
          simp only [World.iterPos] at this
          omega
    · have hnx : ∀ ty, (Instr.next (.pointer (some ⟨w.heap.size, 0, none⟩)) true ty).run Tryz.prog wr = _ := fun ty => Lib.run_next_end_at wr w.heap.size s pos ty hit hp
      have HF := Lib.hid (HS.out.symm.trans (bf_end hp))
      go_wp2
      go_ret
      exact ⟨ret_int (by rw [HF.out]), HB⟩
end Go.Proofs.YtbehakabglegjaaGreatDoor
namespace Go.Proofs.YtbehakabglegjaaGreatDoor
open Go.RowKit Go.PlainAid
set_option linter.unusedVariables false
set_option linter.unusedSimpArgs false
set_option maxRecDepth 100000 in
set_option maxHeartbeats 4000000 in
theorem target_any {base : Bs} {g : Nat} {F : Fs} {nx tk hs bd wh : Value} {L : List Mm} {w : World} {c : UInt8} (h : FdM base g F nx tk hs bd wh L w) (hj : FJ F) (hx : F.next = 1) :
    Calls Tryz.prog 102 #[.pointer (some ⟨g, 0, none⟩), .int .u8 (c.toNat : Int)] w (StV base g F c w) := by
  have HT := Lib.hid hj.tok
  have HS : Hid (stepS F c = targetS F c) := Lib.hid (by unfold stepS; rw [hx]; rfl)
  clear hj hx
  obtain ⟨A, cp, htk⟩ := bt_slice h.2.rt
  subst htk
  have B := h.1
  have R := Lib.hid h.2
  have HB := Bl.refl base w
  clear h
  have c5 : w.cell? ⟨g, 5, none⟩ = some (.slice A F.tok.length cp) := B.cell 5
  by_cases h1 : c.toNat = 32 ∧ 0 < F.tok.length
  · have HV : Hid (targetS F c = .ok { F with m := { F.m with targ := txt F.tok }, tok := [], next := 2 }) := Lib.hid (by unfold targetS; rw [if_pos h1])
    by_cases a0 : c.toNat = 32 <;> by_cases a1 : 0 < F.tok.length
    all_goals first
      | (exfalso; omega)
      | skip
    all_goals clear h1
    all_goals
      go_enter Tryz.func102, Tryz.ntmps102
      go_wp2_with (first
        | (go_at_call 101; (have hM := fdm (F := F) B R.out); (with_reducible refine (taken_any hM).mono ?_); rintro e w4 ⟨rfl, ⟨tk4, hm⟩, hb⟩; replace B := hm.1; replace R := Lib.hid hm.2; replace HB := HB.trans hb; clear hm hb hM)
        | ((with_reducible refine is_store ?_); refine wpl_store_cell rfl 9 (.tmp 22) (.tmp 19) rfl g 7 rfl (.string (txt F.tok)) rfl _ _ B (show 7 < 16 by decide) one_s rfl ?_; intro w5 hw; replace HB := HB.trans (R.out.store hw); replace R := Lib.hid (R.out.row (Bes.row (X := fun q => q = g) hw rfl)); replace B := hid_row hw B; simp only [FdC_7] at B; clear hw))
      go_ret2
      exact StV.ok (HS.out.trans HV.out) HB (fdm B (R.out.same rfl rfl rfl rfl)) rfl
  · by_cases h2 : c.toNat < 33 ∨ 126 < c.toNat
    · have HV : Hid (targetS F c = .bad 3) := Lib.hid (by unfold targetS; rw [if_neg h1, if_pos h2])
      by_cases a0 : c.toNat = 32 <;> by_cases a1 : 0 < F.tok.length <;> by_cases a2 : c.toNat < 33 <;> by_cases a3 : 126 < c.toNat
      all_goals first
        | (exfalso; omega)
        | skip
      all_goals clear h1 h2
      all_goals
        go_enter Tryz.func102, Tryz.ntmps102
        go_wp2
        go_ret2
        exact StV.bad (HS.out.trans HV.out) HB (fdm B R.out)
    · by_cases h3 : F.tok.length = 2048
      · have HV : Hid (targetS F c = .bad 2) := Lib.hid (by unfold targetS; rw [if_neg h1, if_neg h2, if_pos h3])
        by_cases a0 : c.toNat = 32 <;> by_cases a1 : c.toNat < 33 <;> by_cases a2 : 126 < c.toNat <;> by_cases a3 : (F.tok.length : Int) = 2048
        all_goals first
          | (exfalso; omega)
          | skip
        all_goals clear h1 h2
        all_goals
          go_enter Tryz.func102, Tryz.ntmps102
          go_wp2
          go_ret2
          exact StV.bad (HS.out.trans HV.out) HB (fdm B R.out)
      · have HV : Hid (targetS F c = .ok { F.put c with next := 1 }) := Lib.hid (by unfold targetS; rw [if_neg h1, if_neg h2, if_neg h3])
        by_cases a0 : c.toNat = 32 <;> by_cases a1 : c.toNat < 33 <;> by_cases a2 : 126 < c.toNat <;> by_cases a3 : (F.tok.length : Int) = 2048
        all_goals first
          | (exfalso; omega)
          | skip
        all_goals clear h1 h2
        all_goals
          go_enter Tryz.func102, Tryz.ntmps102
          go_wp2_with (first
            | ((with_reducible refine is_slice ?_); refine wpl_u8 rfl (.tmp 42) rfl c rfl ?_; intro w1 hb B9; replace B := IBox.below B hb (IBox.lt B); replace HB := bl_add HB hb R.out; replace R := Lib.hid (R.out.below hb); clear hb)
            | (at_builtin; refine wpl_tok rfl (.tmp 41) (.tmp 43) rfl R.out B (by have := HT.out; omega) B9 rfl rfl ?_; intro A1 p1 w2 hr hB hb; replace HB := HB.trans hb; replace R := Lib.hid hr; replace B := hB; clear hr hB hb B9)
            | ((with_reducible refine is_store ?_); refine wpl_store_cell rfl 23 (.tmp 46) (.tmp 44) rfl g 5 rfl (.slice A1 (F.tok.length + 1) p1) rfl _ _ B (show 5 < 16 by decide) one_sb rfl ?_; intro w3 hw; replace HB := HB.trans (R.out.store hw); replace R := Lib.hid (R.out.row (Bes.row (X := fun q => q = g) hw rfl)); replace B := hid_row hw B; simp only [FdC_5] at B; clear hw))
          go_ret2
          exact StV.ok (HS.out.trans HV.out) HB (fdm B (R.out.same rfl rfl rfl rfl)) rfl
set_option maxRecDepth 100000 in
set_option maxHeartbeats 4000000 in
theorem reason_any {base : Bs} {g : Nat} {F : Fs} {nx tk hs bd wh : Value} {L : List Mm} {w : World} {c : UInt8} (h : FdM base g F nx tk hs bd wh L w) (hj : FJ F) (hx : F.next = 4) :
    Calls Tryz.prog 124 #[.pointer (some ⟨g, 0, none⟩), .int .u8 (c.toNat : Int)] w (StV base g F c w) := by
  have HT := Lib.hid hj.tok
  have HS : Hid (stepS F c = reasonS F c) := Lib.hid (by unfold stepS; rw [hx]; rfl)
  clear hj hx
  obtain ⟨A, cp, htk⟩ := bt_slice h.2.rt
  subst htk
  have B := h.1
  have R := Lib.hid h.2
  have HB := Bl.refl base w
  clear h
  have c5 : w.cell? ⟨g, 5, none⟩ = some (.slice A F.tok.length cp) := B.cell 5
  by_cases h1 : c.toNat = 13
  · have HV : Hid (reasonS F c = .ok { F with m := { F.m with reas := txt F.tok }, tok := [], next := 5 }) := Lib.hid (by unfold reasonS; rw [if_pos h1])
    go_enter Tryz.func124, Tryz.ntmps124
    go_wp2_with (first
      | (go_at_call 101; (have hM := fdm (F := F) B R.out); (with_reducible refine (taken_any hM).mono ?_); rintro e w4 ⟨rfl, ⟨tk4, hm⟩, hb⟩; replace B := hm.1; replace R := Lib.hid hm.2; replace HB := HB.trans hb; clear hm hb hM)
      | ((with_reducible refine is_store ?_); refine wpl_store_cell rfl 9 (.tmp 14) (.tmp 11) rfl g 9 rfl (.string (txt F.tok)) rfl _ _ B (show 9 < 16 by decide) one_s rfl ?_; intro w5 hw; replace HB := HB.trans (R.out.store hw); replace R := Lib.hid (R.out.row (Bes.row (X := fun q => q = g) hw rfl)); replace B := hid_row hw B; simp only [FdC_9] at B; clear hw))
    go_ret2
    exact StV.ok (HS.out.trans HV.out) HB (fdm B (R.out.same rfl rfl rfl rfl)) rfl
  · by_cases h2 : c.toNat < 32 ∨ 126 < c.toNat
    · have HV : Hid (reasonS F c = .bad 3) := Lib.hid (by unfold reasonS; rw [if_neg h1, if_pos h2])
      by_cases a0 : c.toNat < 32 <;> by_cases a1 : 126 < c.toNat
      all_goals first
        | (exfalso; omega)
        | skip
      all_goals clear h2
      all_goals
        go_enter Tryz.func124, Tryz.ntmps124
        go_wp2
        go_ret2
        exact StV.bad (HS.out.trans HV.out) HB (fdm B R.out)
    · have HV : Hid (reasonS F c = .ok { F.put c with next := 4 }) := Lib.hid (by unfold reasonS; rw [if_neg h1, if_neg h2])
      by_cases a0 : c.toNat < 32 <;> by_cases a1 : 126 < c.toNat
      all_goals first
        | (exfalso; omega)
        | skip
      all_goals clear h2
      all_goals
        go_enter Tryz.func124, Tryz.ntmps124
        go_wp2_with (first
          | ((with_reducible refine is_slice ?_); refine wpl_u8 rfl (.tmp 27) rfl c rfl ?_; intro w1 hb B9; replace B := IBox.below B hb (IBox.lt B); replace HB := bl_add HB hb R.out; replace R := Lib.hid (R.out.below hb); clear hb)
          | (at_builtin; refine wpl_tok rfl (.tmp 26) (.tmp 28) rfl R.out B (by have := HT.out; omega) B9 rfl rfl ?_; intro A1 p1 w2 hr hB hb; replace HB := HB.trans hb; replace R := Lib.hid hr; replace B := hB; clear hr hB hb B9)
          | ((with_reducible refine is_store ?_); refine wpl_store_cell rfl 23 (.tmp 31) (.tmp 29) rfl g 5 rfl (.slice A1 (F.tok.length + 1) p1) rfl _ _ B (show 5 < 16 by decide) one_sb rfl ?_; intro w3 hw; replace HB := HB.trans (R.out.store hw); replace R := Lib.hid (R.out.row (Bes.row (X := fun q => q = g) hw rfl)); replace B := hid_row hw B; simp only [FdC_5] at B; clear hw))
        go_ret2
        exact StV.ok (HS.out.trans HV.out) HB (fdm B (R.out.same rfl rfl rfl rfl)) rfl
end Go.Proofs.YtbehakabglegjaaGreatDoor
namespace Go.Proofs.YtbehakabglegjaaGreatDoor
open Go.RowKit Go.PlainAid
set_option linter.unusedVariables false
set_option linter.unusedSimpArgs false
theorem bt_want {a : Bool} {k : Nat} {d : UInt8} (h : (wantL a)[k]? = some d) : bt ⟨(wantL a).toArray⟩ k = (d.toNat : Int) := by
  obtain ⟨hk, e⟩ := List.getElem?_eq_some_iff.1 h
  unfold bt
  rw [dif_pos (show k < (⟨(wantL a).toArray⟩ : ByteArray).size by show k < (wantL a).toArray.size; simpa using hk), ← e]
  rfl
set_option maxRecDepth 100000 in
set_option maxHeartbeats 4000000 in
theorem version_any {base : Bs} {g : Nat} {F : Fs} {nx tk hs bd wh : Value} {L : List Mm} {w : World} {c : UInt8} (h : FdM base g F nx tk hs bd wh L w) (hj : FJ F) (hx : F.next = 2) :
    Calls Tryz.prog 71 #[.pointer (some ⟨g, 0, none⟩), .int .u8 (c.toNat : Int)] w (StV base g F c w) := by
  have HT := Lib.hid hj.tok
  have HS : Hid (stepS F c = versionS F c) := Lib.hid (by unfold stepS; rw [hx]; rfl)
  obtain ⟨A, cp, htk⟩ := bt_slice h.2.rt
  subst htk
  have B := h.1
  have R := Lib.hid h.2
  have HB := Bl.refl base w
  clear h
  have c0 : w.cell? ⟨g, 0, none⟩ = some (.bool F.ans) := B.cell 0
  have c5 : w.cell? ⟨g, 5, none⟩ = some (.slice A F.tok.length cp) := B.cell 5
  have hlt := hj.ver hx
  clear hj hx
  obtain ⟨d, hd⟩ : ∃ d, (wantL F.ans)[F.tok.length]? = some d := ⟨_, List.getElem?_eq_getElem (by show F.tok.length < 9; omega)⟩
  have HVB : Hid (d ≠ c → versionS F c = .bad 31) := Lib.hid (fun hne => by unfold versionS; rw [if_pos (by rw [hd]; intro e; injection e with e; exact hne e)])
  have HVO : Hid (d = c → versionS F c = if F.tok.length + 1 < 9 then .ok { F.put c with next := 2 } else .ok { F with tok := [], next := if F.ans then 3 else 5 }) := Lib.hid (fun he => by unfold versionS; rw [if_neg (by rw [hd, he]; simp)])
  cases ha : F.ans
  · rw [ha] at c0 hd
    have HA := Lib.hid ha
    clear ha
    have hbs := get_bt (⟨#[72, 84, 84, 80, 47, 49, 46, 49, 13]⟩ : ByteArray)
    have hbd : bt (⟨#[72, 84, 84, 80, 47, 49, 46, 49, 13]⟩ : ByteArray) F.tok.length = (d.toNat : Int) := bt_want hd
    clear hd
    by_cases hc : d = c
    · have hv := HVO.out hc
      subst hc
      by_cases h9 : F.tok.length + 1 < 9
      · have HV : Hid (versionS F d = .ok { F.put d with next := 2 }) := Lib.hid (by rw [hv, if_pos h9])
        clear hv
        go_enter Tryz.func71, Tryz.ntmps71
        go_wp2_with (first
          | ((with_reducible refine is_slice ?_); refine wpl_u8 rfl (.tmp 25) rfl d rfl ?_; intro w1 hb B9; replace B := IBox.below B hb (IBox.lt B); replace HB := bl_add HB hb R.out; replace R := Lib.hid (R.out.below hb); clear hb; clear c0; have c0 : w1.cell? ⟨g, 0, none⟩ = some (.bool false) := (by rw [← HA.out]; exact B.cell 0); clear c5; have c5 : w1.cell? ⟨g, 5, none⟩ = some (.slice A F.tok.length cp) := B.cell 5)
          | (at_builtin; refine wpl_tok rfl (.tmp 24) (.tmp 26) rfl R.out B (by have := HT.out; omega) B9 rfl rfl ?_; intro A1 p1 w2 hr hB hb; replace HB := HB.trans hb; replace R := Lib.hid hr; replace B := hB; clear hr hB hb B9; clear c0; have c0 : w2.cell? ⟨g, 0, none⟩ = some (.bool false) := (by rw [← HA.out]; exact B.cell 0))
          | ((with_reducible refine is_store ?_); refine wpl_store_cell rfl 23 (.tmp 29) (.tmp 27) rfl g 5 rfl (.slice A1 (F.tok.length + 1) p1) rfl _ _ B (show 5 < 16 by decide) one_sb rfl ?_; intro w3 hw; replace HB := HB.trans (R.out.store hw); replace R := Lib.hid (R.out.row (Bes.row (X := fun q => q = g) hw rfl)); replace B := hid_row hw B; simp only [FdC_5] at B; clear hw; clear c0; have c0 : w3.cell? ⟨g, 0, none⟩ = some (.bool false) := (by rw [← HA.out]; exact B.cell 0); clear c5; have c5 : w3.cell? ⟨g, 5, none⟩ = some (.slice A1 (F.tok.length + 1) p1) := B.cell 5))
        go_ret2
        exact StV.ok (HS.out.trans HV.out) HB (fdm B (R.out.same rfl rfl rfl rfl)) rfl

      · have HV : Hid (versionS F d = .ok { F with tok := [], next := 5 }) := Lib.hid (by rw [hv, if_neg h9, HA.out]; rfl)
        clear hv
        go_enter Tryz.func71, Tryz.ntmps71
        go_wp2_with (first
          | ((with_reducible refine is_slice ?_); refine wpl_u8 rfl (.tmp 25) rfl d rfl ?_; intro w1 hb B9; replace B := IBox.below B hb (IBox.lt B); replace HB := bl_add HB hb R.out; replace R := Lib.hid (R.out.below hb); clear hb; clear c0; have c0 : w1.cell? ⟨g, 0, none⟩ = some (.bool false) := (by rw [← HA.out]; exact B.cell 0); clear c5; have c5 : w1.cell? ⟨g, 5, none⟩ = some (.slice A F.tok.length cp) := B.cell 5)
          | (at_builtin; refine wpl_tok rfl (.tmp 24) (.tmp 26) rfl R.out B (by have := HT.out; omega) B9 rfl rfl ?_; intro A1 p1 w2 hr hB hb; replace HB := HB.trans hb; replace R := Lib.hid hr; replace B := hB; clear hr hB hb B9; clear c0; have c0 : w2.cell? ⟨g, 0, none⟩ = some (.bool false) := (by rw [← HA.out]; exact B.cell 0))
          | ((with_reducible refine is_store ?_); refine wpl_store_cell rfl 23 (.tmp 29) (.tmp 27) rfl g 5 rfl (.slice A1 (F.tok.length + 1) p1) rfl _ _ B (show 5 < 16 by decide) one_sb rfl ?_; intro w3 hw; replace HB := HB.trans (R.out.store hw); replace R := Lib.hid (R.out.row (Bes.row (X := fun q => q = g) hw rfl)); replace B := hid_row hw B; simp only [FdC_5] at B; clear hw; clear c0; have c0 : w3.cell? ⟨g, 0, none⟩ = some (.bool false) := (by rw [← HA.out]; exact B.cell 0); clear c5; have c5 : w3.cell? ⟨g, 5, none⟩ = some (.slice A1 (F.tok.length + 1) p1) := B.cell 5)
          | (go_at_call 101; (have hM := fdm (F := F.put d) B R.out); (with_reducible refine (taken_any hM).mono ?_); rintro e w4 ⟨rfl, ⟨tk4, hm⟩, hb⟩; replace B := hm.1; replace R := Lib.hid hm.2; replace HB := HB.trans hb; clear hm hb hM; clear c0; have c0 : w4.cell? ⟨g, 0, none⟩ = some (.bool false) := (by rw [← HA.out]; exact B.cell 0)))
        go_ret2
        exact StV.ok (HS.out.trans HV.out) HB (fdm B (R.out.same rfl rfl rfl rfl)) rfl
    · have HV : Hid (versionS F c = .bad 31) := Lib.hid (HVB.out hc)
      have hn : (c.toNat : Int) ≠ (d.toNat : Int) := fun e => hc (UInt8.toNat_inj.1 (by omega)).symm
      clear hc
      go_enter Tryz.func71, Tryz.ntmps71
      go_wp2
      go_ret2
      exact StV.bad (HS.out.trans HV.out) HB (fdm B R.out)
  · rw [ha] at c0 hd
    have HA := Lib.hid ha
    clear ha
    have hbs := get_bt (⟨#[72, 84, 84, 80, 47, 49, 46, 49, 32]⟩ : ByteArray)
    have hbd : bt (⟨#[72, 84, 84, 80, 47, 49, 46, 49, 32]⟩ : ByteArray) F.tok.length = (d.toNat : Int) := bt_want hd
    clear hd
    by_cases hc : d = c
    · have hv := HVO.out hc
      subst hc
      by_cases h9 : F.tok.length + 1 < 9
      · have HV : Hid (versionS F d = .ok { F.put d with next := 2 }) := Lib.hid (by rw [hv, if_pos h9])
        clear hv
        go_enter Tryz.func71, Tryz.ntmps71
        go_wp2_with (first
          | ((with_reducible refine is_slice ?_); refine wpl_u8 rfl (.tmp 25) rfl d rfl ?_; intro w1 hb B9; replace B := IBox.below B hb (IBox.lt B); replace HB := bl_add HB hb R.out; replace R := Lib.hid (R.out.below hb); clear hb; clear c0; have c0 : w1.cell? ⟨g, 0, none⟩ = some (.bool true) := (by rw [← HA.out]; exact B.cell 0); clear c5; have c5 : w1.cell? ⟨g, 5, none⟩ = some (.slice A F.tok.length cp) := B.cell 5)
          | (at_builtin; refine wpl_tok rfl (.tmp 24) (.tmp 26) rfl R.out B (by have := HT.out; omega) B9 rfl rfl ?_; intro A1 p1 w2 hr hB hb; replace HB := HB.trans hb; replace R := Lib.hid hr; replace B := hB; clear hr hB hb B9; clear c0; have c0 : w2.cell? ⟨g, 0, none⟩ = some (.bool true) := (by rw [← HA.out]; exact B.cell 0))
          | ((with_reducible refine is_store ?_); refine wpl_store_cell rfl 23 (.tmp 29) (.tmp 27) rfl g 5 rfl (.slice A1 (F.tok.length + 1) p1) rfl _ _ B (show 5 < 16 by decide) one_sb rfl ?_; intro w3 hw; replace HB := HB.trans (R.out.store hw); replace R := Lib.hid (R.out.row (Bes.row (X := fun q => q = g) hw rfl)); replace B := hid_row hw B; simp only [FdC_5] at B; clear hw; clear c0; have c0 : w3.cell? ⟨g, 0, none⟩ = some (.bool true) := (by rw [← HA.out]; exact B.cell 0); clear c5; have c5 : w3.cell? ⟨g, 5, none⟩ = some (.slice A1 (F.tok.length + 1) p1) := B.cell 5))
        go_ret2
        exact StV.ok (HS.out.trans HV.out) HB (fdm B (R.out.same rfl rfl rfl rfl)) rfl

      · have HV : Hid (versionS F d = .ok { F with tok := [], next := 3 }) := Lib.hid (by rw [hv, if_neg h9, HA.out]; rfl)
        clear hv
        go_enter Tryz.func71, Tryz.ntmps71
        go_wp2_with (first
          | ((with_reducible refine is_slice ?_); refine wpl_u8 rfl (.tmp 25) rfl d rfl ?_; intro w1 hb B9; replace B := IBox.below B hb (IBox.lt B); replace HB := bl_add HB hb R.out; replace R := Lib.hid (R.out.below hb); clear hb; clear c0; have c0 : w1.cell? ⟨g, 0, none⟩ = some (.bool true) := (by rw [← HA.out]; exact B.cell 0); clear c5; have c5 : w1.cell? ⟨g, 5, none⟩ = some (.slice A F.tok.length cp) := B.cell 5)
          | (at_builtin; refine wpl_tok rfl (.tmp 24) (.tmp 26) rfl R.out B (by have := HT.out; omega) B9 rfl rfl ?_; intro A1 p1 w2 hr hB hb; replace HB := HB.trans hb; replace R := Lib.hid hr; replace B := hB; clear hr hB hb B9; clear c0; have c0 : w2.cell? ⟨g, 0, none⟩ = some (.bool true) := (by rw [← HA.out]; exact B.cell 0))
          | ((with_reducible refine is_store ?_); refine wpl_store_cell rfl 23 (.tmp 29) (.tmp 27) rfl g 5 rfl (.slice A1 (F.tok.length + 1) p1) rfl _ _ B (show 5 < 16 by decide) one_sb rfl ?_; intro w3 hw; replace HB := HB.trans (R.out.store hw); replace R := Lib.hid (R.out.row (Bes.row (X := fun q => q = g) hw rfl)); replace B := hid_row hw B; simp only [FdC_5] at B; clear hw; clear c0; have c0 : w3.cell? ⟨g, 0, none⟩ = some (.bool true) := (by rw [← HA.out]; exact B.cell 0); clear c5; have c5 : w3.cell? ⟨g, 5, none⟩ = some (.slice A1 (F.tok.length + 1) p1) := B.cell 5)
          | (go_at_call 101; (have hM := fdm (F := F.put d) B R.out); (with_reducible refine (taken_any hM).mono ?_); rintro e w4 ⟨rfl, ⟨tk4, hm⟩, hb⟩; replace B := hm.1; replace R := Lib.hid hm.2; replace HB := HB.trans hb; clear hm hb hM; clear c0; have c0 : w4.cell? ⟨g, 0, none⟩ = some (.bool true) := (by rw [← HA.out]; exact B.cell 0)))
        go_ret2
        exact StV.ok (HS.out.trans HV.out) HB (fdm B (R.out.same rfl rfl rfl rfl)) rfl
    · have HV : Hid (versionS F c = .bad 31) := Lib.hid (HVB.out hc)
      have hn : (c.toNat : Int) ≠ (d.toNat : Int) := fun e => hc (UInt8.toNat_inj.1 (by omega)).symm
      clear hc
      go_enter Tryz.func71, Tryz.ntmps71
      go_wp2
      go_ret2
      exact StV.bad (HS.out.trans HV.out) HB (fdm B R.out)
set_option maxRecDepth 100000 in
set_option maxHeartbeats 4000000 in
theorem tail_any {base : Bs} {g : Nat} {F : Fs} {nx tk hs bd wh : Value} {L : List Mm} {w : World} {c : UInt8} (h : FdM base g F nx tk hs bd wh L w) (hj : FJ F) (hx : F.next = 12) :
    Calls Tryz.prog 157 #[.pointer (some ⟨g, 0, none⟩), .int .u8 (c.toNat : Int)] w (StV base g F c w) := by
  have HT := Lib.hid hj.tok
  have HS : Hid (stepS F c = tailS F c) := Lib.hid (by unfold stepS; rw [hx]; rfl)
  clear hj hx
  obtain ⟨A, cp, htk⟩ := bt_slice h.2.rt
  subst htk
  have B := h.1
  have R := Lib.hid h.2
  have HB := Bl.refl base w
  clear h
  by_cases h1 : c.toNat = 13
  · have HV : Hid (tailS F c = .ok { F with next := 13 }) := Lib.hid (by unfold tailS; rw [if_neg (by omega)])
    go_enter Tryz.func157, Tryz.ntmps157
    go_wp2
    go_ret2
    exact StV.ok (HS.out.trans HV.out) HB (fdm B (R.out.same rfl rfl rfl rfl)) rfl
  · have HV : Hid (tailS F c = .bad 32) := Lib.hid (by unfold tailS; rw [if_pos h1])
    go_enter Tryz.func157, Tryz.ntmps157
    go_wp2
    go_ret2
    exact StV.bad (HS.out.trans HV.out) HB (fdm B R.out)
end Go.Proofs.YtbehakabglegjaaGreatDoor
namespace Go.Proofs.YtbehakabglegjaaGreatDoor
open Go.RowKit Go.PlainAid
set_option linter.unusedVariables false
set_option linter.unusedSimpArgs false
set_option maxRecDepth 100000 in
set_option maxHeartbeats 4000000 in
theorem hbytes_any {base : Bs} {g : Nat} {F : Fs} {nx tk hs bd wh : Value} {L : List Mm} {w : World} {c : UInt8} (h : FdM base g F nx tk hs bd wh L w) (hj : FJ F) (hx : F.next = 8) (hn : F.whole.length < 1099511627776) :
    Calls Tryz.prog 143 #[.pointer (some ⟨g, 0, none⟩), .int .u8 (c.toNat : Int)] w (StV base g F c w) := by
  have HT := Lib.hid hj.tok
  have HBD := Lib.hid hj.body
  have HHD := Lib.hid hj.heads
  obtain ⟨hw1, hw2⟩ := hj.wide (by rw [hx]; decide)
  have HS : Hid (stepS F c = bytesS F c) := Lib.hid (by unfold stepS; rw [hx]; rfl)
  clear hj hx
  obtain ⟨A, cp, htk⟩ := bt_slice h.2.rt
  subst htk
  have B := h.1
  have R := Lib.hid h.2
  have HB := Bl.refl base w
  clear h
  have c13 : w.cell? ⟨g, 13, none⟩ = some (.int .i64 F.left) := B.cell 13
  obtain ⟨bA, bc, hbv⟩ := bt_slice R.out.rb
  subst hbv
  have c11 : w.cell? ⟨g, 11, none⟩ = some (.slice bA F.m.body.length bc) := B.cell 11
  have h65 : (F.m.body ++ [c]).length ≤ 65536 := by rw [List.length_append, List.length_singleton]; omega
  have H65 := Lib.hid h65
  clear h65
  by_cases h1 : F.left - 1 = 0
  · have HV : Hid (bytesS F c = .ok ({ F with m := { F.m with body := F.m.body ++ [c] }, left := 0 } : Fs).end_) := Lib.hid (by unfold bytesS; rw [if_pos h1, h1])
    go_enter Tryz.func143, Tryz.ntmps143
    go_wp2_with (first
      | ((with_reducible refine is_slice ?_); refine wpl_u8 rfl (.tmp 12) rfl c rfl ?_; intro w1 hb B9; replace B := IBox.below B hb (IBox.lt B); replace HB := bl_add HB hb R.out; replace R := Lib.hid (R.out.below hb); clear hb)
      | (at_builtin; refine wpl_bod rfl (.tmp 11) (.tmp 13) rfl R.out B (by have := HBD.out; omega) B9 rfl rfl ?_; intro A1 p1 w2 hr hB hb; replace HB := HB.trans hb; replace R := Lib.hid hr; replace B := hB; clear hr hB hb B9)
      | ((with_reducible refine is_store ?_); refine wpl_store_cell rfl 23 (.tmp 17) (.tmp 14) rfl g 11 rfl (.slice A1 (F.m.body.length + 1) p1) rfl _ _ B (show 11 < 16 by decide) one_sb rfl ?_; intro w3 hw; replace HB := HB.trans (R.out.store hw); replace R := Lib.hid (R.out.row (Bes.row (X := fun q => q = g) hw rfl)); replace B := hid_row hw B; simp only [FdC_11] at B; clear hw; clear c13; have c13 : w3.cell? ⟨g, 13, none⟩ = some (.int .i64 F.left) := B.cell 13)
      | ((with_reducible refine is_store ?_); refine wpl_store_cell rfl 3 (.tmp 24) (.tmp 22) rfl g 13 rfl (.int .i64 0) rfl _ _ B (show 13 < 16 by decide) one_i rfl ?_; intro w4 hw; replace HB := HB.trans (R.out.store hw); replace R := Lib.hid (R.out.row (Bes.row (X := fun q => q = g) hw rfl)); replace B := hid_row hw B; simp only [FdC_13] at B; clear hw; clear c13; have c13 : w4.cell? ⟨g, 13, none⟩ = some (.int .i64 0) := B.cell 13)
      | (go_at_call 142; (have hM := end_any (F := { F with m := { F.m with body := F.m.body ++ [c] }, left := 0 }) B (R.out.same rfl rfl rfl rfl) HHD.out H65.out hn); (with_reducible refine hM.mono ?_); rintro e w5 ⟨rfl, ⟨_, _, _, _, _, _, hm⟩, hb⟩; replace HB := HB.trans hb))
    go_ret2
    exact StV.ok (HS.out.trans HV.out) HB hm rfl
  · have HV : Hid (bytesS F c = .ok { F with m := { F.m with body := F.m.body ++ [c] }, left := F.left - 1, next := 8 }) := Lib.hid (by unfold bytesS; rw [if_neg h1])
    go_enter Tryz.func143, Tryz.ntmps143
    go_wp2_with (first
      | ((with_reducible refine is_slice ?_); refine wpl_u8 rfl (.tmp 12) rfl c rfl ?_; intro w1 hb B9; replace B := IBox.below B hb (IBox.lt B); replace HB := bl_add HB hb R.out; replace R := Lib.hid (R.out.below hb); clear hb)
      | (at_builtin; refine wpl_bod rfl (.tmp 11) (.tmp 13) rfl R.out B (by have := HBD.out; omega) B9 rfl rfl ?_; intro A1 p1 w2 hr hB hb; replace HB := HB.trans hb; replace R := Lib.hid hr; replace B := hB; clear hr hB hb B9)
      | ((with_reducible refine is_store ?_); refine wpl_store_cell rfl 23 (.tmp 17) (.tmp 14) rfl g 11 rfl (.slice A1 (F.m.body.length + 1) p1) rfl _ _ B (show 11 < 16 by decide) one_sb rfl ?_; intro w3 hw; replace HB := HB.trans (R.out.store hw); replace R := Lib.hid (R.out.row (Bes.row (X := fun q => q = g) hw rfl)); replace B := hid_row hw B; simp only [FdC_11] at B; clear hw; clear c13; have c13 : w3.cell? ⟨g, 13, none⟩ = some (.int .i64 F.left) := B.cell 13)
      | ((with_reducible refine is_store ?_); refine wpl_store_cell rfl 3 (.tmp 24) (.tmp 22) rfl g 13 rfl (.int .i64 (F.left - 1)) rfl _ _ B (show 13 < 16 by decide) one_i rfl ?_; intro w4 hw; replace HB := HB.trans (R.out.store hw); replace R := Lib.hid (R.out.row (Bes.row (X := fun q => q = g) hw rfl)); replace B := hid_row hw B; simp only [FdC_13] at B; clear hw; clear c13; have c13 : w4.cell? ⟨g, 13, none⟩ = some (.int .i64 (F.left - 1)) := B.cell 13))
    go_ret2
    exact StV.ok (HS.out.trans HV.out) HB (fdm B (R.out.same rfl rfl rfl rfl)) rfl
set_option maxRecDepth 100000 in
set_option maxHeartbeats 4000000 in
theorem piece_any {base : Bs} {g : Nat} {F : Fs} {nx tk hs bd wh : Value} {L : List Mm} {w : World} {c : UInt8} (h : FdM base g F nx tk hs bd wh L w) (hj : FJ F) (hx : F.next = 11) :
    Calls Tryz.prog 158 #[.pointer (some ⟨g, 0, none⟩), .int .u8 (c.toNat : Int)] w (StV base g F c w) := by
  have HT := Lib.hid hj.tok
  have HBD := Lib.hid hj.body
  have HHD := Lib.hid hj.heads
  obtain ⟨hw1, hw2⟩ := hj.wide (by rw [hx]; decide)
  have HS : Hid (stepS F c = pieceS F c) := Lib.hid (by unfold stepS; rw [hx]; rfl)
  clear hj hx
  obtain ⟨A, cp, htk⟩ := bt_slice h.2.rt
  subst htk
  have B := h.1
  have R := Lib.hid h.2
  have HB := Bl.refl base w
  clear h
  have c13 : w.cell? ⟨g, 13, none⟩ = some (.int .i64 F.left) := B.cell 13
  obtain ⟨bA, bc, hbv⟩ := bt_slice R.out.rb
  subst hbv
  have c11 : w.cell? ⟨g, 11, none⟩ = some (.slice bA F.m.body.length bc) := B.cell 11
  by_cases h1 : F.left - 1 = 0
  · have HV : Hid (pieceS F c = .ok { F with m := { F.m with body := F.m.body ++ [c] }, left := 0, next := 12 }) := Lib.hid (by unfold pieceS; rw [if_pos h1, h1])
    go_enter Tryz.func158, Tryz.ntmps158
    go_wp2_with (first
      | ((with_reducible refine is_slice ?_); refine wpl_u8 rfl (.tmp 12) rfl c rfl ?_; intro w1 hb B9; replace B := IBox.below B hb (IBox.lt B); replace HB := bl_add HB hb R.out; replace R := Lib.hid (R.out.below hb); clear hb)
      | (at_builtin; refine wpl_bod rfl (.tmp 11) (.tmp 13) rfl R.out B (by have := HBD.out; omega) B9 rfl rfl ?_; intro A1 p1 w2 hr hB hb; replace HB := HB.trans hb; replace R := Lib.hid hr; replace B := hB; clear hr hB hb B9)
      | ((with_reducible refine is_store ?_); refine wpl_store_cell rfl 23 (.tmp 17) (.tmp 14) rfl g 11 rfl (.slice A1 (F.m.body.length + 1) p1) rfl _ _ B (show 11 < 16 by decide) one_sb rfl ?_; intro w3 hw; replace HB := HB.trans (R.out.store hw); replace R := Lib.hid (R.out.row (Bes.row (X := fun q => q = g) hw rfl)); replace B := hid_row hw B; simp only [FdC_11] at B; clear hw; clear c13; have c13 : w3.cell? ⟨g, 13, none⟩ = some (.int .i64 F.left) := B.cell 13)
      | ((with_reducible refine is_store ?_); refine wpl_store_cell rfl 3 (.tmp 24) (.tmp 22) rfl g 13 rfl (.int .i64 0) rfl _ _ B (show 13 < 16 by decide) one_i rfl ?_; intro w4 hw; replace HB := HB.trans (R.out.store hw); replace R := Lib.hid (R.out.row (Bes.row (X := fun q => q = g) hw rfl)); replace B := hid_row hw B; simp only [FdC_13] at B; clear hw; clear c13; have c13 : w4.cell? ⟨g, 13, none⟩ = some (.int .i64 0) := B.cell 13))
    go_ret2
    exact StV.ok (HS.out.trans HV.out) HB (fdm B (R.out.same rfl rfl rfl rfl)) rfl
  · have HV : Hid (pieceS F c = .ok { F with m := { F.m with body := F.m.body ++ [c] }, left := F.left - 1, next := 11 }) := Lib.hid (by unfold pieceS; rw [if_neg h1])
    go_enter Tryz.func158, Tryz.ntmps158
    go_wp2_with (first
      | ((with_reducible refine is_slice ?_); refine wpl_u8 rfl (.tmp 12) rfl c rfl ?_; intro w1 hb B9; replace B := IBox.below B hb (IBox.lt B); replace HB := bl_add HB hb R.out; replace R := Lib.hid (R.out.below hb); clear hb)
      | (at_builtin; refine wpl_bod rfl (.tmp 11) (.tmp 13) rfl R.out B (by have := HBD.out; omega) B9 rfl rfl ?_; intro A1 p1 w2 hr hB hb; replace HB := HB.trans hb; replace R := Lib.hid hr; replace B := hB; clear hr hB hb B9)
      | ((with_reducible refine is_store ?_); refine wpl_store_cell rfl 23 (.tmp 17) (.tmp 14) rfl g 11 rfl (.slice A1 (F.m.body.length + 1) p1) rfl _ _ B (show 11 < 16 by decide) one_sb rfl ?_; intro w3 hw; replace HB := HB.trans (R.out.store hw); replace R := Lib.hid (R.out.row (Bes.row (X := fun q => q = g) hw rfl)); replace B := hid_row hw B; simp only [FdC_11] at B; clear hw; clear c13; have c13 : w3.cell? ⟨g, 13, none⟩ = some (.int .i64 F.left) := B.cell 13)
      | ((with_reducible refine is_store ?_); refine wpl_store_cell rfl 3 (.tmp 24) (.tmp 22) rfl g 13 rfl (.int .i64 (F.left - 1)) rfl _ _ B (show 13 < 16 by decide) one_i rfl ?_; intro w4 hw; replace HB := HB.trans (R.out.store hw); replace R := Lib.hid (R.out.row (Bes.row (X := fun q => q = g) hw rfl)); replace B := hid_row hw B; simp only [FdC_13] at B; clear hw; clear c13; have c13 : w4.cell? ⟨g, 13, none⟩ = some (.int .i64 (F.left - 1)) := B.cell 13))
    go_ret2
    exact StV.ok (HS.out.trans HV.out) HB (fdm B (R.out.same rfl rfl rfl rfl)) rfl
set_option maxRecDepth 100000 in
set_option maxHeartbeats 4000000 in
theorem last_any {base : Bs} {g : Nat} {F : Fs} {nx tk hs bd wh : Value} {L : List Mm} {w : World} {c : UInt8} (h : FdM base g F nx tk hs bd wh L w) (hj : FJ F) (hx : F.next = 13) (hn : F.whole.length < 1099511627776) :
    Calls Tryz.prog 159 #[.pointer (some ⟨g, 0, none⟩), .int .u8 (c.toNat : Int)] w (StV base g F c w) := by
  have HT := Lib.hid hj.tok
  have HBD := Lib.hid hj.body
  have HHD := Lib.hid hj.heads
  have HS : Hid (stepS F c = lastS F c) := Lib.hid (by unfold stepS; rw [hx]; rfl)
  clear hj hx
  obtain ⟨A, cp, htk⟩ := bt_slice h.2.rt
  subst htk
  have B := h.1
  have R := Lib.hid h.2
  have HB := Bl.refl base w
  clear h
  have c14 : w.cell? ⟨g, 14, none⟩ = some (.int .i64 F.size) := B.cell 14
  by_cases h1 : c.toNat = 10
  · by_cases h2 : F.size = 0
    · have HV : Hid (lastS F c = .ok F.end_) := Lib.hid (by unfold lastS; rw [if_neg (by omega), if_pos h2])
      go_enter Tryz.func159, Tryz.ntmps159
      go_wp2_with (first
        | (go_at_call 142; (have hM := end_any (F := F) B R.out HHD.out HBD.out hn); (with_reducible refine hM.mono ?_); rintro e w5 ⟨rfl, ⟨_, _, _, _, _, _, hm⟩, hb⟩; replace HB := HB.trans hb))
      go_ret2
      exact StV.ok (HS.out.trans HV.out) HB hm rfl
    · have HV : Hid (lastS F c = .ok { F with size := 0, next := 9 }) := Lib.hid (by unfold lastS; rw [if_neg (by omega), if_neg h2])
      go_enter Tryz.func159, Tryz.ntmps159
      go_wp2_with (first
        | ((with_reducible refine is_store ?_); refine wpl_store_cell rfl 3 (.tmp 21) _ rfl g 14 rfl (.int .i64 0) rfl _ _ B (show 14 < 16 by decide) one_i rfl ?_; intro w4 hw; replace HB := HB.trans (R.out.store hw); replace R := Lib.hid (R.out.row (Bes.row (X := fun q => q = g) hw rfl)); replace B := hid_row hw B; simp only [FdC_14] at B; clear hw))
      go_ret2
      exact StV.ok (HS.out.trans HV.out) HB (fdm B (R.out.same rfl rfl rfl rfl)) rfl
  · have HV : Hid (lastS F c = .bad 32) := Lib.hid (by unfold lastS; rw [if_pos h1])
    go_enter Tryz.func159, Tryz.ntmps159
    go_wp2
    go_ret2
    exact StV.bad (HS.out.trans HV.out) HB (fdm B R.out)
end Go.Proofs.YtbehakabglegjaaGreatDoor
