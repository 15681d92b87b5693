/- Layer 9: the document's all: are a text's bytes all of a kind? Layer 9: the document's fits: may a header be written? Layer 9: what a message's headers say of its body's length, by the document. Layer 9: a part of a target, by the document. -/
import Derived.Test.YtbehakabglegjaaGreatDoorQ33
import Derived.Test.YtbehakabglegjaaGreatDoorQ24
import Derived.Test.YtbehakabglegjaaGreatDoorQ30
import Derived.Test.YtbehakabglegjaaGreatDoorQ29
import Derived.Test.YtbehakabglegjaaGreatDoorQ32
import Derived.Test.YtbehakabglegjaaGreatDoorQ22
import Derived.Test.YtbehakabglegjaaGreatDoorQ07
import Derived.Test.YtbehakabglegjaaGreatDoorQZip
namespace Go.Proofs.YtbehakabglegjaaGreatDoor
open Go.RowKit Go.PlainAid
set_option linter.unusedVariables false
set_option linter.unusedSimpArgs false
end Go.Proofs.YtbehakabglegjaaGreatDoor
namespace Go.Proofs.YtbehakabglegjaaGreatDoor
open Go.RowKit Go.PlainAid
set_option linter.unusedVariables false
set_option linter.unusedSimpArgs false
theorem OwnM.bt {w : World} {base : Nat} {v : Value} {l : List UInt8} (h : OwnM w base v l) : BtAt w v l := by
  rcases h with h | ⟨g, cap, cur, fz, rfl, _, hg, _, _, _, hs, ht⟩
  · exact bt_own h
  · refine ⟨_, _, rfl, fun i u hu => ⟨g, 0, rfl, ?_⟩⟩
    rw [Nat.zero_add, Lib.cell_of_heap hg]
    have h1 : (Lib.byteCells l)[i]? = some (.int .u8 (u.toNat : Int)) := by
      unfold Lib.byteCells
      rw [List.getElem?_map, hu]; rfl
    rw [← ht, List.getElem?_take] at h1
    split at h1
    · simpa using h1
    · cases h1
def fitR (pn pv : ByteArray) : Bool := (((((bl pn).all isNameB && (bl pv).all isValueB) && (txt (trimL (bl pv))).toList == pv.toList) && !(txt (lowL (bl pn))).toList.isEmpty) && !((txt (lowL (bl pn))).toList == [116, 114, 97, 110, 115, 102, 101, 114, 45, 101, 110, 99, 111, 100, 105, 110, 103])) && !((txt (lowL (bl pn))).toList == [99, 111, 110, 116, 101, 110, 116, 45, 108, 101, 110, 103, 116, 104])
theorem low_coding : lowL codingL = [116, 114, 97, 110, 115, 102, 101, 114, 45, 101, 110, 99, 111, 100, 105, 110, 103] := by decide +kernel
theorem low_length : lowL lengthL = [99, 111, 110, 116, 101, 110, 116, 45, 108, 101, 110, 103, 116, 104] := by decide +kernel
end Go.Proofs.YtbehakabglegjaaGreatDoor
namespace Go.Proofs.YtbehakabglegjaaGreatDoor
open Go.RowKit Go.PlainAid
set_option linter.unusedVariables false
set_option linter.unusedSimpArgs false
/-- The number so far, beside what the headers say so far. -/
structure LenI (h : Hs) (N : Int) : Prop where
  none_ : h.many = 0 → N = 0 ∧ h.bad = false ∧ h.pieces = false ∧ h.left = 0
  one : h.many = 1 → N = if h.bad = true then -2 else if h.pieces then -1 else h.left
  bad : h.bad = true → 1 ≤ h.many
theorem LenI.start : LenI ⟨0, false, false, 0⟩ 0 := ⟨fun _ => ⟨rfl, rfl, rfl, rfl⟩, (fun h => by cases h), (fun h => by cases h)⟩
theorem LenI.fin {h : Hs} {N : Int} (hI : LenI h N) (hm : h.many ≤ 1) : lenS h = N := by
  unfold lenS
  by_cases h0 : h.many = 0
  · obtain ⟨e1, e2, e3, e4⟩ := hI.none_ h0
    rw [if_neg (by rw [e2]; simp; omega), if_neg (by rw [e3]; simp), e4, e1]
  · have h1 : h.many = 1 := by omega
    rw [hI.one h1]
    by_cases hb : h.bad = true
    · rw [if_pos (.inr hb), if_pos hb]
    · rw [if_neg (fun x => x.elim (fun y => by omega) hb), if_neg hb]
theorem LenI.cod {h : Hs} {N : Int} (hI : LenI h N) (k : Bool) : LenI ⟨h.many + 1, h.bad || !k, true, h.left⟩ (if k = true then -1 else -2) := by
  refine ⟨fun h0 => by simp at h0, fun h1 => ?_, fun _ => by simp⟩
  have h0 : h.many = 0 := by simpa using h1
  rw [(hI.none_ h0).2.1]
  cases k <;> rfl
theorem LenI.num {h : Hs} {N : Int} (hI : LenI h N) (n : Int) : LenI ⟨h.many + 1, h.bad, h.pieces, n⟩ n := by
  refine ⟨fun h0 => by simp at h0, fun h1 => ?_, fun _ => by simp⟩
  have h0 : h.many = 0 := by simpa using h1
  rw [(hI.none_ h0).2.1, (hI.none_ h0).2.2.1]
  rfl
theorem LenI.nix {h : Hs} {N : Int} (hI : LenI h N) : LenI ⟨h.many + 1, true, h.pieces, 0⟩ (-2) := ⟨fun h0 => by simp at h0, fun _ => rfl, fun _ => by simp⟩
theorem bad_on : ∀ (l : List (ByteArray × ByteArray)) (h : Hs), h.bad = true → (l.foldl headS h).bad = true
  | [], h, e => e
  | p :: r, h, e => by
    refine bad_on r _ ?_
    unfold headS
    split
    · show (h.bad || _) = true; rw [e]; rfl
    · split
      · split
        · exact e
        · rfl
      · exact e
theorem len_bad {l : List (ByteArray × ByteArray)} {i : Nat} (h : (headsS (l.take i) 0).bad = true) : lenS (headsS l 0) = -2 := by
  have e : headsS l 0 = (l.drop i).foldl headS (headsS (l.take i) 0) := by
    unfold headsS
    rw [← List.foldl_append, List.take_append_drop]
  unfold lenS
  rw [if_pos (.inr (by rw [e]; exact bad_on _ _ h))]
theorem low_chunked : lowL chunkedL = [99, 104, 117, 110, 107, 101, 100] := by decide +kernel
theorem dec_none {l : List UInt8} (h : ¬ (l ≠ [] ∧ l.length ≤ 10 ∧ l.all isDigB = true)) : decS l = none := by unfold decS; rw [if_neg h]
theorem dec_some {l : List UInt8} (h : l ≠ [] ∧ l.length ≤ 10 ∧ l.all isDigB = true) : decS l = some (decV l) := by unfold decS; rw [if_pos h]
theorem all_more {P : UInt8 → Bool} {l : List UInt8} {k : Nat} {c : UInt8} (hc : l[k]? = some c) (h : (l.take k).all P = true) (hp : P c = true) : (l.take (k + 1)).all P = true := by
  rw [List.take_add_one, hc, List.all_append, h]
  simp [hp]
theorem all_not {P : UInt8 → Bool} {l : List UInt8} {k : Nat} {c : UInt8} (hc : l[k]? = some c) (hp : P c = false) : l.all P ≠ true := fun h => by
  have := List.all_eq_true.1 h c (List.mem_of_getElem? hc)
  rw [hp] at this
  cases this
theorem head_cod {h : Hs} {p : ByteArray × ByteArray} {lo lv : ByteArray} (e1 : lo = txt (lowL (bl p.1))) (e2 : lv = txt (lowL (bl p.2))) (h1 : (lo.toList == [116, 114, 97, 110, 115, 102, 101, 114, 45, 101, 110, 99, 111, 100, 105, 110, 103]) = true) : headS h p = ⟨h.many + 1, h.bad || !(lv.toList == [99, 104, 117, 110, 107, 101, 100]), true, h.left⟩ := by
  have e3 : alikeB p.1.data.toList codingL = true := by unfold alikeB; rw [low_coding]; rw [e1, ba_toList] at h1; exact h1
  have e4 : (lv.toList == [99, 104, 117, 110, 107, 101, 100]) = alikeB p.2.data.toList chunkedL := by unfold alikeB; rw [low_chunked, e2, ba_toList]; rfl
  unfold headS
  rw [if_pos e3, e4]
theorem head_len {h : Hs} {p : ByteArray × ByteArray} {lo : ByteArray} (e1 : lo = txt (lowL (bl p.1))) (h1 : (lo.toList == [116, 114, 97, 110, 115, 102, 101, 114, 45, 101, 110, 99, 111, 100, 105, 110, 103]) = false) (h2 : (lo.toList == [99, 111, 110, 116, 101, 110, 116, 45, 108, 101, 110, 103, 116, 104]) = true) : headS h p = match decS (bl p.2) with | some n => ⟨h.many + 1, h.bad, h.pieces, n⟩ | none => ⟨h.many + 1, true, h.pieces, 0⟩ := by
  have e3 : alikeB p.1.data.toList codingL = false := by unfold alikeB; rw [low_coding]; rw [e1, ba_toList] at h1; exact h1
  have e4 : alikeB p.1.data.toList lengthL = true := by unfold alikeB; rw [low_length]; rw [e1, ba_toList] at h2; exact h2
  unfold headS
  rw [if_neg (by rw [e3]; simp), if_pos e4]
  rfl
theorem head_not {h : Hs} {p : ByteArray × ByteArray} {lo : ByteArray} (e1 : lo = txt (lowL (bl p.1))) (h1 : (lo.toList == [116, 114, 97, 110, 115, 102, 101, 114, 45, 101, 110, 99, 111, 100, 105, 110, 103]) = false) (h2 : (lo.toList == [99, 111, 110, 116, 101, 110, 116, 45, 108, 101, 110, 103, 116, 104]) = false) : headS h p = h := by
  have e3 : alikeB p.1.data.toList codingL = false := by unfold alikeB; rw [low_coding]; rw [e1, ba_toList] at h1; exact h1
  have e4 : alikeB p.1.data.toList lengthL = false := by unfold alikeB; rw [low_length]; rw [e1, ba_toList] at h2; exact h2
  unfold headS
  rw [if_neg (by rw [e3]; simp), if_neg (by rw [e4]; simp)]
set_option maxRecDepth 100000 in
set_option maxHeartbeats 16000000 in
theorem rlength_any {hv : Value} {l : List (ByteArray × ByteArray)} {w : World} (hd : HdAt w hv l) (hl : l.length ≤ 1048576) (hz : ∀ p ∈ l, p.1.size ≤ 8192 ∧ p.2.size ≤ 8192) :
    Calls Tryz.prog 85 #[hv] w fun e w' => e = .returned (.int .i64 (lenS (headsS l 0))) ∧ Below w.heap.size w w' := by
  obtain ⟨A, hc, rfl, hcells⟩ := id hd
  have HD := Lib.hid hd
  have HL := Lib.hid hl
  have HZ := Lib.hid hz
  clear hd hl hz hcells
  go_enter Tryz.func85, Tryz.ntmps85
  go_wp2
  go_loopw [3, 4, 5] (fun mv nv iv wr => ∃ (i : Nat) (N : Int) (h : Hs), iv = .int .i64 (i : Int) ∧ nv = .int .i64 N ∧ mv = .int .i64 (h.many : Int) ∧ i ≤ l.length ∧ h.many ≤ i ∧ Hid (headsS (l.take i) 0 = h) ∧ Hid (LenI h N) ∧ Below w.heap.size w wr) (fun _ _ iv _ => match iv with | .int _ i => l.length - i.toNat | _ => 0)
  case atStart => exact ⟨0, 0, ⟨0, false, false, 0⟩, rfl, rfl, rfl, Nat.zero_le _, Nat.le_refl _, Lib.hid rfl, Lib.hid LenI.start, Below.refl _ _⟩
  case round =>
    obtain ⟨i, N, h, rfl, rfl, rfl, hi, hmi, HH, HI, HB⟩ := hrel
    have hl := HL.out
    by_cases hlt : i < l.length
    · obtain ⟨p, hp⟩ : ∃ p, l[i]? = some p := ⟨_, List.getElem?_eq_getElem hlt⟩
      have hpz := HZ.out p (List.mem_of_getElem? hp)
      obtain ⟨A2, c2, hv2, hcells⟩ := HD.out.below HB
      obtain ⟨gh, off, hA2, e1, e2⟩ := hcells i p hp
      injection hv2 with v1 v2 v3
      subst v1
      subst hA2
      clear v2 v3 hcells
      have HNX : Hid (headsS (l.take (i + 1)) 0 = headS h p) := Lib.hid (by rw [heads_next hp, HH.out])
      have HLO : Hid (∀ wx, Calls Tryz.prog 43 #[.string p.1] wx fun e w' => e = .returned (.string (txt (lowL (bl p.1)))) ∧ Below wx.heap.size wx w') := Lib.hid fun wx => rlower_any p.1 wx (by omega)
      have HLV : Hid (∀ wx, Calls Tryz.prog 43 #[.string p.2] wx fun e w' => e = .returned (.string (txt (lowL (bl p.2)))) ∧ Below wx.heap.size wx w') := Lib.hid fun wx => rlower_any p.2 wx (by omega)
      obtain ⟨lo, hlo⟩ : ∃ lo, lo = txt (lowL (bl p.1)) := ⟨_, rfl⟩
      obtain ⟨lv, hlv⟩ : ∃ lv, lv = txt (lowL (bl p.2)) := ⟨_, rfl⟩
      rw [← hlo] at HLO
      rw [← hlv] at HLV
      have HE1 := Lib.hid hlo
      have HE2 := Lib.hid hlv
      have HPZ := Lib.hid hpz
      clear hlo hlv hp hpz
      obtain ⟨pn, pv⟩ := p
      have e1 : wr.cell? ⟨gh, off + i * 2, none⟩ = some (.string pn) := e1
      have e2 : wr.cell? ⟨gh, off + i * 2 + 1, none⟩ = some (.string pv) := e2
      generalize hq1 : (lo.toList == [116, 114, 97, 110, 115, 102, 101, 114, 45, 101, 110, 99, 111, 100, 105, 110, 103]) = b1
      cases b1
      · generalize hq2 : (lo.toList == [99, 111, 110, 116, 101, 110, 116, 45, 108, 101, 110, 103, 116, 104]) = b2
        cases b2
        · have HHN : Hid (headS h (pn, pv) = h) := Lib.hid (head_not HE1.out hq1 hq2)
          go_wp2_with (first
            | (go_at_call 43; (with_reducible refine (HLO.out _).mono ?_); rintro e w5 ⟨rfl, hb⟩; replace HB := zT HB hb; replace e1 := cell_later hb e1; replace e2 := cell_later hb e2; clear hb))
          go_roundw
          case rel => exact ⟨i + 1, N, h, rfl, rfl, rfl, by omega, by omega, Lib.hid (by rw [HNX.out, HHN.out]), HI, HB⟩
          case measure => (simp only; omega)
        · have HHN := Lib.hid (head_len (h := h) HE1.out hq1 hq2)
          go_wp2_with (first
            | (go_at_call 43; (with_reducible refine (HLO.out _).mono ?_); rintro e w5 ⟨rfl, hb⟩; replace HB := zT HB hb; replace e1 := cell_later hb e1; replace e2 := cell_later hb e2; clear hb))
          clear e1 e2
          go_loopw [4, 7] (fun nv kv wx => ∃ k : Nat, kv = .int .i64 (k : Int) ∧ k ≤ pv.size ∧ k ≤ 10 ∧ nv = .int .i64 (decV ((bl pv).take k) : Int) ∧ Hid (((bl pv).take k).all isDigB = true ∧ decV ((bl pv).take k) + 1 ≤ 10 ^ k) ∧ wx = w5) (fun _ kv _ => match kv with | .int _ k => pv.size - k.toNat | _ => 0)
          case atStart => exact ⟨0, rfl, Nat.zero_le _, Nat.zero_le _, rfl, Lib.hid ⟨rfl, Nat.le_refl _⟩, rfl⟩
          case round =>
            obtain ⟨k, rfl, hk, hk10, rfl, HDG, rfl⟩ := hrel
            have hpz := HPZ.out.2
            have hpw : (10 : Nat) ^ k ≤ 10000000000 := (Nat.pow_le_pow_right (by omega) hk10 : (10 : Nat) ^ k ≤ 10 ^ 10)
            obtain ⟨D, hD⟩ : ∃ D, decV ((bl pv).take k) = D := ⟨_, rfl⟩
            have hdv := HDG.out.2
            rw [hD] at hdv
            have hD10 : (D : Int) ≤ 10000000000 := by omega
            have HDE := Lib.hid hD
            have HDV := Lib.hid hdv
            rw [hD]
            clear hD hdv hpw
            have hbs := get_bt pv
            by_cases hkt : k < pv.size
            · obtain ⟨c, hc⟩ : ∃ c, (bl pv)[k]? = some c := ⟨_, List.getElem?_eq_getElem (show k < (bl pv).length from hkt)⟩
              have hcb := bt_at hc
              have HC := Lib.hid hc
              clear hc
              by_cases a1 : c.toNat < 48
              · have b1 : (c.toNat : Int) < 48 := by omega
                have HF := Lib.hid (len_bad (l := l) (i := i + 1) (by rw [HNX.out, HHN.out]; rw [show decS (bl (pn, pv).2) = none from dec_none (fun x => all_not HC.out (Bool.eq_false_iff.2 (fun hq => by have := (dig_is c).1 hq; omega)) x.2.2)]))
                go_wp2
                go_ret
                exact ⟨by rw [HF.out]; rfl, HB⟩
              · have b1 : ¬ (c.toNat : Int) < 48 := by omega
                by_cases a2 : 57 < c.toNat
                · have b2 : 57 < (c.toNat : Int) := by omega
                  have HF := Lib.hid (len_bad (l := l) (i := i + 1) (by rw [HNX.out, HHN.out]; rw [show decS (bl (pn, pv).2) = none from dec_none (fun x => all_not HC.out (Bool.eq_false_iff.2 (fun hq => by have := (dig_is c).1 hq; omega)) x.2.2)]))
                  go_wp2
                  go_ret
                  exact ⟨by rw [HF.out]; rfl, HB⟩
                · have b2 : ¬ 57 < (c.toNat : Int) := by omega
                  by_cases a3 : 9 < k
                  · have b3 : 9 < (k : Int) := by omega
                    have HF := Lib.hid (len_bad (l := l) (i := i + 1) (by rw [HNX.out, HHN.out]; rw [show decS (bl (pn, pv).2) = none from dec_none (fun x => by have h5 : pv.size ≤ 10 := x.2.1; omega)]))
                    go_wp2
                    go_ret
                    exact ⟨by rw [HF.out]; rfl, HB⟩
                  · have b3 : ¬ 9 < (k : Int) := by omega
                    have hw1 : IntKind.u8.wrap ((c.toNat : Int) - 48) = ((c.toNat - 48 : Nat) : Int) := by rw [IntKind.wrap_u8]; omega
                    obtain ⟨dg, hdg⟩ : ∃ dg, c.toNat - 48 = dg := ⟨_, rfl⟩
                    rw [hdg] at hw1
                    have hd9 : (dg : Int) ≤ 9 := by omega
                    have HDD := Lib.hid hdg
                    have HTK : Hid ((bl pv).take (k + 1) = (bl pv).take k ++ [c]) := Lib.hid (by rw [List.take_add_one, HC.out]; rfl)
                    have HAL : Hid (((bl pv).take (k + 1)).all isDigB = true) := Lib.hid (all_more HC.out HDG.out.1 ((dig_is c).2 (by omega)))
                    clear hdg
                    go_wp2
                    go_roundw
                    case rel =>
                      refine ⟨k + 1, rfl, by omega, by omega, ?_, Lib.hid ⟨HAL.out, ?_⟩, trivial⟩
                      · rw [HTK.out, decV_snoc, HDE.out, HDD.out]
                        congr 1
                      · rw [HTK.out, decV_snoc, HDE.out, HDD.out, Nat.pow_succ]
                        have := HDV.out
                        omega
                    case measure => (simp only; omega)
            · obtain rfl : k = pv.size := by omega
              have hall : (bl pv).all isDigB = true := by
                have h5 := HDG.out.1
                rw [show pv.size = (bl pv).length from rfl, List.take_length] at h5
                exact h5
              by_cases h0 : pv.size = 0
              · have hem : pv.toList.isEmpty = true := by
                  rw [ba_toList, List.isEmpty_iff]
                  exact List.eq_nil_of_length_eq_zero h0
                have HIN : Hid (headsS (l.take (i + 1)) 0 = ⟨h.many + 1, true, h.pieces, 0⟩) := Lib.hid (by rw [HNX.out, HHN.out]; rw [show decS (bl (pn, pv).2) = none from dec_none (fun x => x.1 (List.eq_nil_of_length_eq_zero h0))])
                clear hall
                go_wp2
                go_roundw
                case rel => exact ⟨i + 1, -2, _, rfl, rfl, rfl, by omega, (by show h.many + 1 ≤ i + 1; omega), HIN, Lib.hid HI.out.nix, HB⟩
                case measure => (simp only; omega)
              · have hem : pv.toList.isEmpty = false := by
                  rw [ba_toList, List.isEmpty_eq_false_iff]
                  intro x
                  exact h0 (by show pv.data.toList.length = 0; rw [x]; rfl)
                have HIN : Hid (headsS (l.take (i + 1)) 0 = ⟨h.many + 1, h.bad, h.pieces, (D : Int)⟩) := Lib.hid (by
                  rw [HNX.out, HHN.out]
                  have h5 := HDE.out
                  rw [show pv.size = (bl pv).length from rfl, List.take_length] at h5
                  rw [show decS (bl (pn, pv).2) = some (decV (bl pv)) from dec_some ⟨fun x => h0 (by show (bl pv).length = 0; rw [show bl pv = [] from x]; rfl), hk10, hall⟩, h5])
                clear hall
                go_wp2
                go_roundw
                case rel => exact ⟨i + 1, (D : Int), _, rfl, rfl, rfl, by omega, (by show h.many + 1 ≤ i + 1; omega), HIN, Lib.hid (HI.out.num _), HB⟩
                case measure => (simp only; omega)
      · generalize hq3 : (lv.toList == [99, 104, 117, 110, 107, 101, 100]) = b3
        have hq4 : (lv.toList != [99, 104, 117, 110, 107, 101, 100]) = !b3 := by rw [← hq3]; rfl
        have HHN := Lib.hid (head_cod (h := h) HE1.out HE2.out hq1)
        have HQ3 := Lib.hid hq3
        have HIN := Lib.hid (HI.out.cod b3)
        cases b3
        all_goals
          go_wp2_with (first
            | (go_at_call 43; (with_reducible refine (HLO.out _).mono ?_); rintro e w5 ⟨rfl, hb⟩; replace HB := zT HB hb; replace e1 := cell_later hb e1; replace e2 := cell_later hb e2; clear hb)
            | (go_at_call 43; (with_reducible refine (HLV.out _).mono ?_); rintro e w6 ⟨rfl, hb⟩; replace HB := zT HB hb; replace e1 := cell_later hb e1; replace e2 := cell_later hb e2; clear hb))
          go_roundw
          case rel => exact ⟨i + 1, _, ⟨h.many + 1, h.bad || !(lv.toList == [99, 104, 117, 110, 107, 101, 100]), true, h.left⟩, rfl, rfl, rfl, by omega, by (show h.many + 1 ≤ i + 1; omega), Lib.hid (by rw [HNX.out, HHN.out]), Lib.hid (by rw [HQ3.out]; exact HIN.out), HB⟩
          case measure => (simp only; omega)
    · obtain rfl : i = l.length := by omega
      have HE : Hid (headsS l 0 = h) := Lib.hid (by have := HH.out; rw [List.take_length] at this; exact this)
      by_cases hm : h.many ≤ 1
      · have hm1 : ¬ 1 < (h.many : Int) := by omega
        have HF : Hid (lenS (headsS l 0) = N) := Lib.hid (by rw [HE.out]; exact HI.out.fin hm)
        go_wp2
        go_ret
        exact ⟨by rw [HF.out]; rfl, HB⟩
      · have hm1 : 1 < (h.many : Int) := by omega
        have HF : Hid (lenS (headsS l 0) = -2) := Lib.hid (by rw [HE.out]; unfold lenS; rw [if_pos (.inl (by omega))])
        go_wp2
        go_ret
        exact ⟨by rw [HF.out]; rfl, HB⟩
end Go.Proofs.YtbehakabglegjaaGreatDoor
namespace Go.Proofs.YtbehakabglegjaaGreatDoor
open Go.RowKit Go.PlainAid
set_option linter.unusedVariables false
set_option linter.unusedSimpArgs false
set_option maxRecDepth 100000 in
set_option maxHeartbeats 4000000 in
theorem rhex_any (c : UInt8) (w : World) : Calls Tryz.prog 90 #[.int .u8 (c.toNat : Int)] w fun e w' => e = .returned (.int .i64 (hexB c)) ∧ w = w' := by
  have HV : Hid (hexB c = if 48 ≤ c.toNat ∧ c.toNat ≤ 57 then (c.toNat : Int) - 48 else if 97 ≤ c.toNat ∧ c.toNat ≤ 102 then (c.toNat : Int) - 87 else if 65 ≤ c.toNat ∧ c.toNat ≤ 70 then (c.toNat : Int) - 55 else -1) := Lib.hid rfl
  have hc := c.toNat_lt
  go_enter Tryz.func90, Tryz.ntmps90
  by_cases a1 : 48 ≤ c.toNat <;> by_cases a2 : c.toNat ≤ 57 <;> by_cases a3 : 97 ≤ c.toNat <;> by_cases a4 : c.toNat ≤ 102 <;> by_cases a5 : 65 ≤ c.toNat <;> by_cases a6 : c.toNat ≤ 70
  all_goals first
    | (exfalso; omega)
    | skip
  all_goals
    go_wp2
    go_ret
    refine ⟨?_, rfl⟩
    rw [HV.out]
    simp only [a1, a2, a3, a4, a5, a6, and_self, and_true, and_false, true_and, false_and, if_true, if_false]
    first | rfl | (refine (show Ending.returned (Value.int IntKind.i64 ((c.toNat : Int) - 97 + 10)) = _ from ?_); congr 2; omega) | (refine (show Ending.returned (Value.int IntKind.i64 ((c.toNat : Int) - 65 + 10)) = _ from ?_); congr 2; omega)
/-- What piece gives. -/
def RpV (r : (Int × Nat) ⊕ (ByteArray × Nat)) : Value := match r with
  | .inr (t, k) => .tuple #[.string t, .int .i64 (k : Int), .int .i64 0, .int .i64 0]
  | .inl (c, p) => .tuple #[.string ⟨#[]⟩, .int .i64 0, .int .i64 c, .int .i64 (p : Int)]
end Go.Proofs.YtbehakabglegjaaGreatDoor
