/- Layer 9: a feed's steps: the protocol's name, the end of a piece. Layer 9: a feed's steps within a body: bytes, a piece's bytes, its end. -/
import Derived.Test.YtbehakabglegjaaGreatDoorQ11
import Derived.Test.YtbehakabglegjaaGreatDoorQZip
namespace Go.Proofs.YtbehakabglegjaaGreatDoor
open Go.RowKit Go.PlainAid
set_option linter.unusedVariables false
set_option linter.unusedSimpArgs false
theorem bt_want {a : Bool} {k : Nat} {d : UInt8} (h : (wantL a)[k]? = some d) : bt ⟨(wantL a).toArray⟩ k = (d.toNat : Int) := by
  obtain ⟨hk, e⟩ := List.getElem?_eq_some_iff.1 h
  unfold bt
  rw [dif_pos (show k < (⟨(wantL a).toArray⟩ : ByteArray).size by show k < (wantL a).toArray.size; simpa using hk), ← e]
  rfl
set_option maxRecDepth 100000 in
set_option maxHeartbeats 4000000 in
theorem version_any {base : Bs} {g : Nat} {F : Fs} {nx tk hs bd wh : Value} {L : List Mm} {w : World} {c : UInt8} (h : FdM base g F nx tk hs bd wh L w) (hj : FJ F) (hx : F.next = 2) :
    Calls Tryz.prog 71 #[.pointer (some ⟨g, 0, none⟩), .int .u8 (c.toNat : Int)] w (StV base g F c w) := by
  have HT := Lib.hid hj.tok
  have HS : Hid (stepS F c = versionS F c) := Lib.hid (by unfold stepS; rw [hx]; rfl)
  obtain ⟨A, cp, htk⟩ := bt_slice h.2.rt
  subst htk
  have B := h.1
  have R := Lib.hid h.2
  have HB := Bl.refl base w
  clear h
  have c0 : w.cell? ⟨g, 0, none⟩ = some (.bool F.ans) := B.cell 0
  have c5 : w.cell? ⟨g, 5, none⟩ = some (.slice A F.tok.length cp) := B.cell 5
  have hlt := hj.ver hx
  clear hj hx
  obtain ⟨d, hd⟩ : ∃ d, (wantL F.ans)[F.tok.length]? = some d := ⟨_, List.getElem?_eq_getElem (by show F.tok.length < 9; omega)⟩
  have HVB : Hid (d ≠ c → versionS F c = .bad 31) := Lib.hid (fun hne => by unfold versionS; rw [if_pos (by rw [hd]; intro e; injection e with e; exact hne e)])
  have HVO : Hid (d = c → versionS F c = if F.tok.length + 1 < 9 then .ok { F.put c with next := 2 } else .ok { F with tok := [], next := if F.ans then 3 else 5 }) := Lib.hid (fun he => by unfold versionS; rw [if_neg (by rw [hd, he]; simp)])
  cases ha : F.ans
  · rw [ha] at c0 hd
    have HA := Lib.hid ha
    clear ha
    have hbs := get_bt (⟨#[72, 84, 84, 80, 47, 49, 46, 49, 13]⟩ : ByteArray)
    have hbd : bt (⟨#[72, 84, 84, 80, 47, 49, 46, 49, 13]⟩ : ByteArray) F.tok.length = (d.toNat : Int) := bt_want hd
    clear hd
    by_cases hc : d = c
    · have hv := HVO.out hc
      subst hc
      by_cases h9 : F.tok.length + 1 < 9
      · have HV : Hid (versionS F d = .ok { F.put d with next := 2 }) := Lib.hid (by rw [hv, if_pos h9])
        clear hv
        go_enter Tryz.func71, Tryz.ntmps71
        go_wp2_with (first
          | ((with_reducible refine is_slice ?_); refine wpl_u8 rfl (.tmp 25) rfl d rfl ?_; intro w1 hb B9; replace B := zI B hb; replace HB := bl_add HB hb R.out; replace R := Lib.hid (R.out.below hb); clear hb; clear c0; have c0 : w1.cell? ⟨g, 0, none⟩ = some (.bool false) := (by rw [← HA.out]; exact B.cell 0); clear c5; have c5 : w1.cell? ⟨g, 5, none⟩ = some (.slice A F.tok.length cp) := B.cell 5)
          | (at_builtin; refine wpl_tok rfl (.tmp 24) (.tmp 26) rfl R.out B (by have := HT.out; omega) B9 rfl rfl ?_; intro A1 p1 w2 hr hB hb; replace HB := HB.trans hb; replace R := Lib.hid hr; replace B := hB; clear hr hB hb B9; clear c0; have c0 : w2.cell? ⟨g, 0, none⟩ = some (.bool false) := (by rw [← HA.out]; exact B.cell 0))
          | ((with_reducible refine is_store ?_); refine wpl_store_cell rfl 23 (.tmp 29) (.tmp 27) rfl g 5 rfl (.slice A1 (F.tok.length + 1) p1) rfl _ _ B (show 5 < 16 by decide) one_sb rfl ?_; intro w3 hw; replace HB := HB.trans (R.out.store hw); replace R := Lib.hid (R.out.row (Bes.row (X := fun q => q = g) hw rfl)); replace B := hid_row hw B; simp only [FdC_5] at B; clear hw; clear c0; have c0 : w3.cell? ⟨g, 0, none⟩ = some (.bool false) := (by rw [← HA.out]; exact B.cell 0); clear c5; have c5 : w3.cell? ⟨g, 5, none⟩ = some (.slice A1 (F.tok.length + 1) p1) := B.cell 5))
        go_ret2
        exact StV.ok (HS.out.trans HV.out) HB (fdm B (R.out.same rfl rfl rfl rfl)) rfl

      · have HV : Hid (versionS F d = .ok { F with tok := [], next := 5 }) := Lib.hid (by rw [hv, if_neg h9, HA.out]; rfl)
        clear hv
        go_enter Tryz.func71, Tryz.ntmps71
        go_wp2_with (first
          | ((with_reducible refine is_slice ?_); refine wpl_u8 rfl (.tmp 25) rfl d rfl ?_; intro w1 hb B9; replace B := zI B hb; replace HB := bl_add HB hb R.out; replace R := Lib.hid (R.out.below hb); clear hb; clear c0; have c0 : w1.cell? ⟨g, 0, none⟩ = some (.bool false) := (by rw [← HA.out]; exact B.cell 0); clear c5; have c5 : w1.cell? ⟨g, 5, none⟩ = some (.slice A F.tok.length cp) := B.cell 5)
          | (at_builtin; refine wpl_tok rfl (.tmp 24) (.tmp 26) rfl R.out B (by have := HT.out; omega) B9 rfl rfl ?_; intro A1 p1 w2 hr hB hb; replace HB := HB.trans hb; replace R := Lib.hid hr; replace B := hB; clear hr hB hb B9; clear c0; have c0 : w2.cell? ⟨g, 0, none⟩ = some (.bool false) := (by rw [← HA.out]; exact B.cell 0))
          | ((with_reducible refine is_store ?_); refine wpl_store_cell rfl 23 (.tmp 29) (.tmp 27) rfl g 5 rfl (.slice A1 (F.tok.length + 1) p1) rfl _ _ B (show 5 < 16 by decide) one_sb rfl ?_; intro w3 hw; replace HB := HB.trans (R.out.store hw); replace R := Lib.hid (R.out.row (Bes.row (X := fun q => q = g) hw rfl)); replace B := hid_row hw B; simp only [FdC_5] at B; clear hw; clear c0; have c0 : w3.cell? ⟨g, 0, none⟩ = some (.bool false) := (by rw [← HA.out]; exact B.cell 0); clear c5; have c5 : w3.cell? ⟨g, 5, none⟩ = some (.slice A1 (F.tok.length + 1) p1) := B.cell 5)
          | (go_at_call 101; (have hM := fdm (F := F.put d) B R.out); (with_reducible refine (taken_any hM).mono ?_); rintro e w4 ⟨rfl, ⟨tk4, hm⟩, hb⟩; replace B := hm.1; replace R := Lib.hid hm.2; replace HB := HB.trans hb; clear hm hb hM; clear c0; have c0 : w4.cell? ⟨g, 0, none⟩ = some (.bool false) := (by rw [← HA.out]; exact B.cell 0)))
        go_ret2
        exact StV.ok (HS.out.trans HV.out) HB (fdm B (R.out.same rfl rfl rfl rfl)) rfl
    · have HV : Hid (versionS F c = .bad 31) := Lib.hid (HVB.out hc)
      have hn : (c.toNat : Int) ≠ (d.toNat : Int) := fun e => hc (UInt8.toNat_inj.1 (by omega)).symm
      clear hc
      go_enter Tryz.func71, Tryz.ntmps71
      go_wp2
      go_ret2
      exact StV.bad (HS.out.trans HV.out) HB (fdm B R.out)
  · rw [ha] at c0 hd
    have HA := Lib.hid ha
    clear ha
    have hbs := get_bt (⟨#[72, 84, 84, 80, 47, 49, 46, 49, 32]⟩ : ByteArray)
    have hbd : bt (⟨#[72, 84, 84, 80, 47, 49, 46, 49, 32]⟩ : ByteArray) F.tok.length = (d.toNat : Int) := bt_want hd
    clear hd
    by_cases hc : d = c
    · have hv := HVO.out hc
      subst hc
      by_cases h9 : F.tok.length + 1 < 9
      · have HV : Hid (versionS F d = .ok { F.put d with next := 2 }) := Lib.hid (by rw [hv, if_pos h9])
        clear hv
        go_enter Tryz.func71, Tryz.ntmps71
        go_wp2_with (first
          | ((with_reducible refine is_slice ?_); refine wpl_u8 rfl (.tmp 25) rfl d rfl ?_; intro w1 hb B9; replace B := zI B hb; replace HB := bl_add HB hb R.out; replace R := Lib.hid (R.out.below hb); clear hb; clear c0; have c0 : w1.cell? ⟨g, 0, none⟩ = some (.bool true) := (by rw [← HA.out]; exact B.cell 0); clear c5; have c5 : w1.cell? ⟨g, 5, none⟩ = some (.slice A F.tok.length cp) := B.cell 5)
          | (at_builtin; refine wpl_tok rfl (.tmp 24) (.tmp 26) rfl R.out B (by have := HT.out; omega) B9 rfl rfl ?_; intro A1 p1 w2 hr hB hb; replace HB := HB.trans hb; replace R := Lib.hid hr; replace B := hB; clear hr hB hb B9; clear c0; have c0 : w2.cell? ⟨g, 0, none⟩ = some (.bool true) := (by rw [← HA.out]; exact B.cell 0))
          | ((with_reducible refine is_store ?_); refine wpl_store_cell rfl 23 (.tmp 29) (.tmp 27) rfl g 5 rfl (.slice A1 (F.tok.length + 1) p1) rfl _ _ B (show 5 < 16 by decide) one_sb rfl ?_; intro w3 hw; replace HB := HB.trans (R.out.store hw); replace R := Lib.hid (R.out.row (Bes.row (X := fun q => q = g) hw rfl)); replace B := hid_row hw B; simp only [FdC_5] at B; clear hw; clear c0; have c0 : w3.cell? ⟨g, 0, none⟩ = some (.bool true) := (by rw [← HA.out]; exact B.cell 0); clear c5; have c5 : w3.cell? ⟨g, 5, none⟩ = some (.slice A1 (F.tok.length + 1) p1) := B.cell 5))
        go_ret2
        exact StV.ok (HS.out.trans HV.out) HB (fdm B (R.out.same rfl rfl rfl rfl)) rfl

      · have HV : Hid (versionS F d = .ok { F with tok := [], next := 3 }) := Lib.hid (by rw [hv, if_neg h9, HA.out]; rfl)
        clear hv
        go_enter Tryz.func71, Tryz.ntmps71
        go_wp2_with (first
          | ((with_reducible refine is_slice ?_); refine wpl_u8 rfl (.tmp 25) rfl d rfl ?_; intro w1 hb B9; replace B := zI B hb; replace HB := bl_add HB hb R.out; replace R := Lib.hid (R.out.below hb); clear hb; clear c0; have c0 : w1.cell? ⟨g, 0, none⟩ = some (.bool true) := (by rw [← HA.out]; exact B.cell 0); clear c5; have c5 : w1.cell? ⟨g, 5, none⟩ = some (.slice A F.tok.length cp) := B.cell 5)
          | (at_builtin; refine wpl_tok rfl (.tmp 24) (.tmp 26) rfl R.out B (by have := HT.out; omega) B9 rfl rfl ?_; intro A1 p1 w2 hr hB hb; replace HB := HB.trans hb; replace R := Lib.hid hr; replace B := hB; clear hr hB hb B9; clear c0; have c0 : w2.cell? ⟨g, 0, none⟩ = some (.bool true) := (by rw [← HA.out]; exact B.cell 0))
          | ((with_reducible refine is_store ?_); refine wpl_store_cell rfl 23 (.tmp 29) (.tmp 27) rfl g 5 rfl (.slice A1 (F.tok.length + 1) p1) rfl _ _ B (show 5 < 16 by decide) one_sb rfl ?_; intro w3 hw; replace HB := HB.trans (R.out.store hw); replace R := Lib.hid (R.out.row (Bes.row (X := fun q => q = g) hw rfl)); replace B := hid_row hw B; simp only [FdC_5] at B; clear hw; clear c0; have c0 : w3.cell? ⟨g, 0, none⟩ = some (.bool true) := (by rw [← HA.out]; exact B.cell 0); clear c5; have c5 : w3.cell? ⟨g, 5, none⟩ = some (.slice A1 (F.tok.length + 1) p1) := B.cell 5)
          | (go_at_call 101; (have hM := fdm (F := F.put d) B R.out); (with_reducible refine (taken_any hM).mono ?_); rintro e w4 ⟨rfl, ⟨tk4, hm⟩, hb⟩; replace B := hm.1; replace R := Lib.hid hm.2; replace HB := HB.trans hb; clear hm hb hM; clear c0; have c0 : w4.cell? ⟨g, 0, none⟩ = some (.bool true) := (by rw [← HA.out]; exact B.cell 0)))
        go_ret2
        exact StV.ok (HS.out.trans HV.out) HB (fdm B (R.out.same rfl rfl rfl rfl)) rfl
    · have HV : Hid (versionS F c = .bad 31) := Lib.hid (HVB.out hc)
      have hn : (c.toNat : Int) ≠ (d.toNat : Int) := fun e => hc (UInt8.toNat_inj.1 (by omega)).symm
      clear hc
      go_enter Tryz.func71, Tryz.ntmps71
      go_wp2
      go_ret2
      exact StV.bad (HS.out.trans HV.out) HB (fdm B R.out)
set_option maxRecDepth 100000 in
set_option maxHeartbeats 4000000 in
theorem tail_any {base : Bs} {g : Nat} {F : Fs} {nx tk hs bd wh : Value} {L : List Mm} {w : World} {c : UInt8} (h : FdM base g F nx tk hs bd wh L w) (hj : FJ F) (hx : F.next = 12) :
    Calls Tryz.prog 157 #[.pointer (some ⟨g, 0, none⟩), .int .u8 (c.toNat : Int)] w (StV base g F c w) := by
  have HT := Lib.hid hj.tok
  have HS : Hid (stepS F c = tailS F c) := Lib.hid (by unfold stepS; rw [hx]; rfl)
  clear hj hx
  obtain ⟨A, cp, htk⟩ := bt_slice h.2.rt
  subst htk
  have B := h.1
  have R := Lib.hid h.2
  have HB := Bl.refl base w
  clear h
  by_cases h1 : c.toNat = 13
  · have HV : Hid (tailS F c = .ok { F with next := 13 }) := Lib.hid (by unfold tailS; rw [if_neg (by omega)])
    go_enter Tryz.func157, Tryz.ntmps157
    go_wp2
    go_ret2
    exact StV.ok (HS.out.trans HV.out) HB (fdm B (R.out.same rfl rfl rfl rfl)) rfl
  · have HV : Hid (tailS F c = .bad 32) := Lib.hid (by unfold tailS; rw [if_pos h1])
    go_enter Tryz.func157, Tryz.ntmps157
    go_wp2
    go_ret2
    exact StV.bad (HS.out.trans HV.out) HB (fdm B R.out)
end Go.Proofs.YtbehakabglegjaaGreatDoor
namespace Go.Proofs.YtbehakabglegjaaGreatDoor
open Go.RowKit Go.PlainAid
set_option linter.unusedVariables false
set_option linter.unusedSimpArgs false
set_option maxRecDepth 100000 in
set_option maxHeartbeats 4000000 in
theorem hbytes_any {base : Bs} {g : Nat} {F : Fs} {nx tk hs bd wh : Value} {L : List Mm} {w : World} {c : UInt8} (h : FdM base g F nx tk hs bd wh L w) (hj : FJ F) (hx : F.next = 8) (hn : F.whole.length < 1099511627776) :
    Calls Tryz.prog 143 #[.pointer (some ⟨g, 0, none⟩), .int .u8 (c.toNat : Int)] w (StV base g F c w) := by
  have HT := Lib.hid hj.tok
  have HBD := Lib.hid hj.body
  have HHD := Lib.hid hj.heads
  obtain ⟨hw1, hw2⟩ := hj.wide (by rw [hx]; decide)
  have HS : Hid (stepS F c = bytesS F c) := Lib.hid (by unfold stepS; rw [hx]; rfl)
  clear hj hx
  obtain ⟨A, cp, htk⟩ := bt_slice h.2.rt
  subst htk
  have B := h.1
  have R := Lib.hid h.2
  have HB := Bl.refl base w
  clear h
  have c13 : w.cell? ⟨g, 13, none⟩ = some (.int .i64 F.left) := B.cell 13
  obtain ⟨bA, bc, hbv⟩ := bt_slice R.out.rb
  subst hbv
  have c11 : w.cell? ⟨g, 11, none⟩ = some (.slice bA F.m.body.length bc) := B.cell 11
  have h65 : (F.m.body ++ [c]).length ≤ 65536 := by rw [List.length_append, List.length_singleton]; omega
  have H65 := Lib.hid h65
  clear h65
  by_cases h1 : F.left - 1 = 0
  · have HV : Hid (bytesS F c = .ok ({ F with m := { F.m with body := F.m.body ++ [c] }, left := 0 } : Fs).end_) := Lib.hid (by unfold bytesS; rw [if_pos h1, h1])
    go_enter Tryz.func143, Tryz.ntmps143
    go_wp2_with (first
      | ((with_reducible refine is_slice ?_); refine wpl_u8 rfl (.tmp 12) rfl c rfl ?_; intro w1 hb B9; replace B := zI B hb; replace HB := bl_add HB hb R.out; replace R := Lib.hid (R.out.below hb); clear hb)
      | (at_builtin; refine wpl_bod rfl (.tmp 11) (.tmp 13) rfl R.out B (by have := HBD.out; omega) B9 rfl rfl ?_; intro A1 p1 w2 hr hB hb; replace HB := HB.trans hb; replace R := Lib.hid hr; replace B := hB; clear hr hB hb B9)
      | ((with_reducible refine is_store ?_); refine wpl_store_cell rfl 23 (.tmp 17) (.tmp 14) rfl g 11 rfl (.slice A1 (F.m.body.length + 1) p1) rfl _ _ B (show 11 < 16 by decide) one_sb rfl ?_; intro w3 hw; replace HB := HB.trans (R.out.store hw); replace R := Lib.hid (R.out.row (Bes.row (X := fun q => q = g) hw rfl)); replace B := hid_row hw B; simp only [FdC_11] at B; clear hw; clear c13; have c13 : w3.cell? ⟨g, 13, none⟩ = some (.int .i64 F.left) := B.cell 13)
      | ((with_reducible refine is_store ?_); refine wpl_store_cell rfl 3 (.tmp 24) (.tmp 22) rfl g 13 rfl (.int .i64 0) rfl _ _ B (show 13 < 16 by decide) one_i rfl ?_; intro w4 hw; replace HB := HB.trans (R.out.store hw); replace R := Lib.hid (R.out.row (Bes.row (X := fun q => q = g) hw rfl)); replace B := hid_row hw B; simp only [FdC_13] at B; clear hw; clear c13; have c13 : w4.cell? ⟨g, 13, none⟩ = some (.int .i64 0) := B.cell 13)
      | (go_at_call 142; (have hM := end_any (F := { F with m := { F.m with body := F.m.body ++ [c] }, left := 0 }) B (R.out.same rfl rfl rfl rfl) HHD.out H65.out hn); (with_reducible refine hM.mono ?_); rintro e w5 ⟨rfl, ⟨_, _, _, _, _, _, hm⟩, hb⟩; replace HB := HB.trans hb))
    go_ret2
    exact StV.ok (HS.out.trans HV.out) HB hm rfl
  · have HV : Hid (bytesS F c = .ok { F with m := { F.m with body := F.m.body ++ [c] }, left := F.left - 1, next := 8 }) := Lib.hid (by unfold bytesS; rw [if_neg h1])
    go_enter Tryz.func143, Tryz.ntmps143
    go_wp2_with (first
      | ((with_reducible refine is_slice ?_); refine wpl_u8 rfl (.tmp 12) rfl c rfl ?_; intro w1 hb B9; replace B := zI B hb; replace HB := bl_add HB hb R.out; replace R := Lib.hid (R.out.below hb); clear hb)
      | (at_builtin; refine wpl_bod rfl (.tmp 11) (.tmp 13) rfl R.out B (by have := HBD.out; omega) B9 rfl rfl ?_; intro A1 p1 w2 hr hB hb; replace HB := HB.trans hb; replace R := Lib.hid hr; replace B := hB; clear hr hB hb B9)
      | ((with_reducible refine is_store ?_); refine wpl_store_cell rfl 23 (.tmp 17) (.tmp 14) rfl g 11 rfl (.slice A1 (F.m.body.length + 1) p1) rfl _ _ B (show 11 < 16 by decide) one_sb rfl ?_; intro w3 hw; replace HB := HB.trans (R.out.store hw); replace R := Lib.hid (R.out.row (Bes.row (X := fun q => q = g) hw rfl)); replace B := hid_row hw B; simp only [FdC_11] at B; clear hw; clear c13; have c13 : w3.cell? ⟨g, 13, none⟩ = some (.int .i64 F.left) := B.cell 13)
      | ((with_reducible refine is_store ?_); refine wpl_store_cell rfl 3 (.tmp 24) (.tmp 22) rfl g 13 rfl (.int .i64 (F.left - 1)) rfl _ _ B (show 13 < 16 by decide) one_i rfl ?_; intro w4 hw; replace HB := HB.trans (R.out.store hw); replace R := Lib.hid (R.out.row (Bes.row (X := fun q => q = g) hw rfl)); replace B := hid_row hw B; simp only [FdC_13] at B; clear hw; clear c13; have c13 : w4.cell? ⟨g, 13, none⟩ = some (.int .i64 (F.left - 1)) := B.cell 13))
    go_ret2
    exact StV.ok (HS.out.trans HV.out) HB (fdm B (R.out.same rfl rfl rfl rfl)) rfl
set_option maxRecDepth 100000 in
set_option maxHeartbeats 4000000 in
theorem piece_any {base : Bs} {g : Nat} {F : Fs} {nx tk hs bd wh : Value} {L : List Mm} {w : World} {c : UInt8} (h : FdM base g F nx tk hs bd wh L w) (hj : FJ F) (hx : F.next = 11) :
    Calls Tryz.prog 158 #[.pointer (some ⟨g, 0, none⟩), .int .u8 (c.toNat : Int)] w (StV base g F c w) := by
  have HT := Lib.hid hj.tok
  have HBD := Lib.hid hj.body
  have HHD := Lib.hid hj.heads
  obtain ⟨hw1, hw2⟩ := hj.wide (by rw [hx]; decide)
  have HS : Hid (stepS F c = pieceS F c) := Lib.hid (by unfold stepS; rw [hx]; rfl)
  clear hj hx
  obtain ⟨A, cp, htk⟩ := bt_slice h.2.rt
  subst htk
  have B := h.1
  have R := Lib.hid h.2
  have HB := Bl.refl base w
  clear h
  have c13 : w.cell? ⟨g, 13, none⟩ = some (.int .i64 F.left) := B.cell 13
  obtain ⟨bA, bc, hbv⟩ := bt_slice R.out.rb
  subst hbv
  have c11 : w.cell? ⟨g, 11, none⟩ = some (.slice bA F.m.body.length bc) := B.cell 11
  by_cases h1 : F.left - 1 = 0
  · have HV : Hid (pieceS F c = .ok { F with m := { F.m with body := F.m.body ++ [c] }, left := 0, next := 12 }) := Lib.hid (by unfold pieceS; rw [if_pos h1, h1])
    go_enter Tryz.func158, Tryz.ntmps158
    go_wp2_with (first
      | ((with_reducible refine is_slice ?_); refine wpl_u8 rfl (.tmp 12) rfl c rfl ?_; intro w1 hb B9; replace B := zI B hb; replace HB := bl_add HB hb R.out; replace R := Lib.hid (R.out.below hb); clear hb)
      | (at_builtin; refine wpl_bod rfl (.tmp 11) (.tmp 13) rfl R.out B (by have := HBD.out; omega) B9 rfl rfl ?_; intro A1 p1 w2 hr hB hb; replace HB := HB.trans hb; replace R := Lib.hid hr; replace B := hB; clear hr hB hb B9)
      | ((with_reducible refine is_store ?_); refine wpl_store_cell rfl 23 (.tmp 17) (.tmp 14) rfl g 11 rfl (.slice A1 (F.m.body.length + 1) p1) rfl _ _ B (show 11 < 16 by decide) one_sb rfl ?_; intro w3 hw; replace HB := HB.trans (R.out.store hw); replace R := Lib.hid (R.out.row (Bes.row (X := fun q => q = g) hw rfl)); replace B := hid_row hw B; simp only [FdC_11] at B; clear hw; clear c13; have c13 : w3.cell? ⟨g, 13, none⟩ = some (.int .i64 F.left) := B.cell 13)
      | ((with_reducible refine is_store ?_); refine wpl_store_cell rfl 3 (.tmp 24) (.tmp 22) rfl g 13 rfl (.int .i64 0) rfl _ _ B (show 13 < 16 by decide) one_i rfl ?_; intro w4 hw; replace HB := HB.trans (R.out.store hw); replace R := Lib.hid (R.out.row (Bes.row (X := fun q => q = g) hw rfl)); replace B := hid_row hw B; simp only [FdC_13] at B; clear hw; clear c13; have c13 : w4.cell? ⟨g, 13, none⟩ = some (.int .i64 0) := B.cell 13))
    go_ret2
    exact StV.ok (HS.out.trans HV.out) HB (fdm B (R.out.same rfl rfl rfl rfl)) rfl
  · have HV : Hid (pieceS F c = .ok { F with m := { F.m with body := F.m.body ++ [c] }, left := F.left - 1, next := 11 }) := Lib.hid (by unfold pieceS; rw [if_neg h1])
    go_enter Tryz.func158, Tryz.ntmps158
    go_wp2_with (first
      | ((with_reducible refine is_slice ?_); refine wpl_u8 rfl (.tmp 12) rfl c rfl ?_; intro w1 hb B9; replace B := zI B hb; replace HB := bl_add HB hb R.out; replace R := Lib.hid (R.out.below hb); clear hb)
      | (at_builtin; refine wpl_bod rfl (.tmp 11) (.tmp 13) rfl R.out B (by have := HBD.out; omega) B9 rfl rfl ?_; intro A1 p1 w2 hr hB hb; replace HB := HB.trans hb; replace R := Lib.hid hr; replace B := hB; clear hr hB hb B9)
      | ((with_reducible refine is_store ?_); refine wpl_store_cell rfl 23 (.tmp 17) (.tmp 14) rfl g 11 rfl (.slice A1 (F.m.body.length + 1) p1) rfl _ _ B (show 11 < 16 by decide) one_sb rfl ?_; intro w3 hw; replace HB := HB.trans (R.out.store hw); replace R := Lib.hid (R.out.row (Bes.row (X := fun q => q = g) hw rfl)); replace B := hid_row hw B; simp only [FdC_11] at B; clear hw; clear c13; have c13 : w3.cell? ⟨g, 13, none⟩ = some (.int .i64 F.left) := B.cell 13)
      | ((with_reducible refine is_store ?_); refine wpl_store_cell rfl 3 (.tmp 24) (.tmp 22) rfl g 13 rfl (.int .i64 (F.left - 1)) rfl _ _ B (show 13 < 16 by decide) one_i rfl ?_; intro w4 hw; replace HB := HB.trans (R.out.store hw); replace R := Lib.hid (R.out.row (Bes.row (X := fun q => q = g) hw rfl)); replace B := hid_row hw B; simp only [FdC_13] at B; clear hw; clear c13; have c13 : w4.cell? ⟨g, 13, none⟩ = some (.int .i64 (F.left - 1)) := B.cell 13))
    go_ret2
    exact StV.ok (HS.out.trans HV.out) HB (fdm B (R.out.same rfl rfl rfl rfl)) rfl
set_option maxRecDepth 100000 in
set_option maxHeartbeats 4000000 in
theorem last_any {base : Bs} {g : Nat} {F : Fs} {nx tk hs bd wh : Value} {L : List Mm} {w : World} {c : UInt8} (h : FdM base g F nx tk hs bd wh L w) (hj : FJ F) (hx : F.next = 13) (hn : F.whole.length < 1099511627776) :
    Calls Tryz.prog 159 #[.pointer (some ⟨g, 0, none⟩), .int .u8 (c.toNat : Int)] w (StV base g F c w) := by
  have HT := Lib.hid hj.tok
  have HBD := Lib.hid hj.body
  have HHD := Lib.hid hj.heads
  have HS : Hid (stepS F c = lastS F c) := Lib.hid (by unfold stepS; rw [hx]; rfl)
  clear hj hx
  obtain ⟨A, cp, htk⟩ := bt_slice h.2.rt
  subst htk
  have B := h.1
  have R := Lib.hid h.2
  have HB := Bl.refl base w
  clear h
  have c14 : w.cell? ⟨g, 14, none⟩ = some (.int .i64 F.size) := B.cell 14
  by_cases h1 : c.toNat = 10
  · by_cases h2 : F.size = 0
    · have HV : Hid (lastS F c = .ok F.end_) := Lib.hid (by unfold lastS; rw [if_neg (by omega), if_pos h2])
      go_enter Tryz.func159, Tryz.ntmps159
      go_wp2_with (first
        | (go_at_call 142; (have hM := end_any (F := F) B R.out HHD.out HBD.out hn); (with_reducible refine hM.mono ?_); rintro e w5 ⟨rfl, ⟨_, _, _, _, _, _, hm⟩, hb⟩; replace HB := HB.trans hb))
      go_ret2
      exact StV.ok (HS.out.trans HV.out) HB hm rfl
    · have HV : Hid (lastS F c = .ok { F with size := 0, next := 9 }) := Lib.hid (by unfold lastS; rw [if_neg (by omega), if_neg h2])
      go_enter Tryz.func159, Tryz.ntmps159
      go_wp2_with (first
        | ((with_reducible refine is_store ?_); refine wpl_store_cell rfl 3 (.tmp 21) _ rfl g 14 rfl (.int .i64 0) rfl _ _ B (show 14 < 16 by decide) one_i rfl ?_; intro w4 hw; replace HB := HB.trans (R.out.store hw); replace R := Lib.hid (R.out.row (Bes.row (X := fun q => q = g) hw rfl)); replace B := hid_row hw B; simp only [FdC_14] at B; clear hw))
      go_ret2
      exact StV.ok (HS.out.trans HV.out) HB (fdm B (R.out.same rfl rfl rfl rfl)) rfl
  · have HV : Hid (lastS F c = .bad 32) := Lib.hid (by unfold lastS; rw [if_pos h1])
    go_enter Tryz.func159, Tryz.ntmps159
    go_wp2
    go_ret2
    exact StV.bad (HS.out.trans HV.out) HB (fdm B R.out)
end Go.Proofs.YtbehakabglegjaaGreatDoor
