/- Layer 9: a feed's body begins: what its headers say of it. -/
import Derived.Test.YtbehakabglegjaaGreatDoorQ11
import Derived.Test.YtbehakabglegjaaGreatDoorQ08
import Derived.Test.YtbehakabglegjaaGreatDoorQ12
import Derived.Test.YtbehakabglegjaaGreatDoorQ13
import Derived.Test.YtbehakabglegjaaGreatDoorQZip
namespace Go.Proofs.YtbehakabglegjaaGreatDoor
open Go.RowKit Go.PlainAid
set_option linter.unusedVariables false
set_option linter.unusedSimpArgs false
/-- What the walks ask of the library's variables. -/
def EV (W : World) (g : Nat) : Prop := ∃ ev, W.cell? ⟨g, 0, none⟩ = some ev ∧ (ev = .nilIface ∨ ∃ te pe, ev = .iface te pe)
structure WhC (W : World) : Prop where
  syn : EV W 7
  rng : EV W 8
  tabs : Lib.Utf8Tabs 2 3 W
  t10 : Lib.TabIs Tryz.prog W "internal/strconv.uint64pow10" .u64 Lib.pow10Tab
def Wh (w : World) (r : Nat) : Prop := ∀ W, Below r w W → WhC W
theorem Wh.below {w w' : World} {r : Nat} (h : Wh w r) (hb : Below r w w') : Wh w' r := fun W hW => h W (hb.trans hW)
theorem Wh.at {w W : World} {r : Nat} (h : Wh w r) (hb : Below r w W) : WhC W := h W hb
theorem pu_below {s : ByteArray} {w w' : World} (h : w' = w ∨ w' = Lib.bytesWorld w 5 s) : Below w.heap.size w w' := by
  rcases h with rfl | rfl
  · exact Below.refl _ _
  · exact Lib.bytesWorld_below _ _ _
theorem pu_good (s : ByteArray) (hs : s.size ≤ 8192) (u : Nat) (h : Lib.parseUintB 64 s.data.toList = .ok u) (w : World) : Calls Tryz.prog 140 #[.string s, .int .i64 10, .int .i64 64] w fun e w' => e = .returned (.tuple #[.int .u64 (u : Int), .nilIface]) ∧ Below w.heap.size w w' :=
  (Tryz.strconv_ParseUint_10_at64_ok s (by omega) u h w).mono fun e w' hh => ⟨hh.1, pu_below hh.2⟩
theorem pu_fault (s : ByteArray) (hs : s.size ≤ 8192) (h : ∀ u, Lib.parseUintB 64 s.data.toList ≠ .ok u) (w : World) (hw : WhC w) : Calls Tryz.prog 140 #[.string s, .int .i64 10, .int .i64 64] w fun e w' => ∃ (u : Int) (N : Nat), e = .returned (.tuple #[.int .u64 u, .iface 198 (.pointer (some ⟨N, 0, none⟩))]) ∧ (0 ≤ u ∧ u ≤ 18446744073709551615) ∧ Below w.heap.size w w' := by
  obtain ⟨v1, c1, k1⟩ := hw.syn
  obtain ⟨v2, c2, k2⟩ := hw.rng
  cases hq : Lib.parseUintB 64 s.data.toList with
  | ok u => exact absurd hq (h u)
  | range => exact (Tryz.strconv_ParseUint_10_at64_range s (by omega) hq v2 w c2 k2).mono fun e w' ⟨N, h1, _, _, h4⟩ => ⟨_, N, h1, by decide, h4⟩
  | _ => exact (Any.strconv_ParseUint_10_at64_syntax Tryz.laysPu14 s (by omega) hq v1 w c1 k1).mono fun e w' ⟨N, h1, _, _, h4⟩ => ⟨_, N, h1, by decide, h4⟩
theorem zeroHd (w : World) : (zeroValue 51).run Tryz.prog w = .ok (.agg (hdA ⟨#[]⟩ ⟨#[]⟩)) w := by kernel_rfl
theorem info_hd2 : (Tryz.prog.info? 51).map (·.size) = some 2 := by kernel_rfl
theorem heads_next {l : List (ByteArray × ByteArray)} {i : Nat} {p : ByteArray × ByteArray} (h : l[i]? = some p) (left : Int) : headsS (l.take (i + 1)) left = headS (headsS (l.take i) left) p := by
  unfold headsS
  have e : l.take (i + 1) = l.take i ++ [p] := by rw [List.take_add_one, h]; rfl
  rw [e, List.foldl_append]
  rfl
/-- What body gives. -/
def BdV (base : Bs) (g : Nat) (F : Fs) (w : World) (e : Ending) (w' : World) : Prop := Bl base w w' ∧ match bodyS F with
  | .bad k => e = .returned (.tuple #[.nilFunc, .int .i64 k]) ∧ ∃ G nx tk hs bd wh L, FdM base g G nx tk hs bd wh L w' ∧ G.pos = F.pos ∧ G.whole = F.whole ∧ G.shut = F.shut
  | .ok G => e = .returned (.tuple #[stepV G.next, .int .i64 0]) ∧ ∃ nx tk hs bd wh L, FdM base g G nx tk hs bd wh L w'
theorem BdV.bad {base : Bs} {g : Nat} {F G : Fs} {w w' : World} {k : Int} (h : bodyS F = .bad k) (hb : Bl base w w') {nx tk hs bd wh : Value} {L : List Mm} (hm : FdM base g G nx tk hs bd wh L w') (h1 : G.pos = F.pos) (h2 : G.whole = F.whole) (h3 : G.shut = F.shut) : BdV base g F w (.returned (.tuple #[.nilFunc, .int .i64 k])) w' := ⟨hb, by rw [h]; exact ⟨rfl, G, _, _, _, _, _, _, hm, h1, h2, h3⟩⟩
theorem BdV.ok {base : Bs} {g : Nat} {F G : Fs} {w w' : World} {v : Value} (h : bodyS F = .ok G) (hb : Bl base w w') {nx tk hs bd wh : Value} {L : List Mm} (hm : FdM base g G nx tk hs bd wh L w') (hv : v = stepV G.next) : BdV base g F w (.returned (.tuple #[v, .int .i64 0])) w' := ⟨hb, by rw [h]; exact ⟨by rw [hv], _, _, _, _, _, _, hm⟩⟩
theorem low_many (h : Hs) (p : ByteArray × ByteArray) : (headS h p).many ≤ h.many + 1 := by
  unfold headS
  split
  · exact Nat.le_refl _
  · split
    · split <;> exact Nat.le_refl _
    · omega
set_option maxRecDepth 100000 in
set_option maxHeartbeats 4000000 in
theorem body_any {base : Bs} {g : Nat} {F : Fs} {nx tk hs bd wh : Value} {L : List Mm} {w : World} (h : FdM base g F nx tk hs bd wh L w) (hj : FJ F) (hz : HZ F) (hw : Wh w base.n) (hn : F.whole.length < 1099511627776) :
    Calls Tryz.prog 126 #[.pointer (some ⟨g, 0, none⟩)] w (BdV base g F w) := by
  obtain ⟨hA, hc, rfl, _⟩ := own_slice h.2.rh
  have B := h.1
  have R := h.2
  have HB := Bl.refl base w
  have HHD := Lib.hid hj.heads
  have HBD := Lib.hid hj.body
  have HW := Lib.hid hw
  have HN := Lib.hid hn
  have HZZ := Lib.hid hz
  clear h hj hz hw hn
  have c10 : w.cell? ⟨g, 10, none⟩ = some (.slice hA F.m.heads.length hc) := B.cell 10
  go_enter Tryz.func126, Tryz.ntmps126
  go_wp2_with ((with_reducible refine is_store ?_); refine wpl_store_cell rfl 3 (.tmp 13) _ rfl g 3 rfl (.int .i64 (-1)) rfl _ _ B (show 3 < 16 by decide) one_i rfl ?_; intro w1 hw; replace HB := HB.trans (R.store hw); replace R := R.row (Bes.row (X := fun q => q = g) hw rfl); replace B := hid_row hw B; simp only [FdC_3] at B; clear hw; clear c10; have c10 : w1.cell? ⟨g, 10, none⟩ = some (.slice hA F.m.heads.length hc) := B.cell 10)
  go_loopw [20, 4, 5, 6] (fun iv mv bv pv wr => ∃ (i : Nat) (lf : Int), iv = .int .i64 (i : Int) ∧ mv = .int .i64 ((headsS (F.m.heads.take i) F.left).many : Int) ∧ bv = .bool (headsS (F.m.heads.take i) F.left).bad ∧ pv = .bool (headsS (F.m.heads.take i) F.left).pieces ∧ i ≤ F.m.heads.length ∧ (headsS (F.m.heads.take i) F.left).many ≤ i ∧ ((headsS (F.m.heads.take i) F.left).bad = false → lf = (headsS (F.m.heads.take i) F.left).left)
    ∧ IBox wr g 81 (FdC { F with head := -1, left := lf } nx tk (.slice hA F.m.heads.length hc) bd wh) ∧ FdR base g F tk (.slice hA F.m.heads.length hc) bd wh L wr ∧ Bl base w wr) (fun iv _ _ _ _ => match iv with | .int _ i => (F.m.heads.length - i.toNat) | _ => 0)
  case atStart => exact ⟨0, F.left, rfl, rfl, rfl, rfl, Nat.zero_le _, Nat.le_refl _, fun _ => rfl, B, R, HB⟩
  case round =>
    clear B R HB c10
    obtain ⟨i, lf, rfl, rfl, rfl, rfl, hi, hmi, hlf, B, R, HB⟩ := hrel
    by_cases hlt : i < F.m.heads.length
    · obtain ⟨p, hp⟩ : ∃ p, F.m.heads[i]? = some p := ⟨_, List.getElem?_eq_getElem hlt⟩
      have hnx := heads_next hp F.left
      have hlm := low_many (headsS (F.m.heads.take i) F.left) p
      have hpz := HZZ.out p (List.mem_of_getElem? hp)
      obtain ⟨gh, hgh, e1, e2⟩ : ∃ gh, hA = some ⟨gh, 0, none⟩ ∧ wr.cell? ⟨gh, i * 2, none⟩ = some (.string p.1) ∧ wr.cell? ⟨gh, i * 2 + 1, none⟩ = some (.string p.2) := by
        obtain ⟨A2, c2, hv, hcells⟩ := own_slice R.rh
        obtain ⟨q1, q2⟩ := hdsL_get hp
        obtain ⟨b1, hb1, hc1⟩ := hcells _ _ q1
        obtain ⟨b2, hb2, hc2⟩ := hcells _ _ q2
        injection hv with v1 v2 v3
        subst v1
        obtain rfl : b1 = b2 := by rw [hb1] at hb2; injection hb2 with e; injection e
        exact ⟨b1, hb1, hc1, hc2⟩
      subst hgh
      obtain ⟨pn, pv⟩ := p
      obtain ⟨z1, z2⟩ : pn.size ≤ 8192 ∧ pv.size ≤ 8192 := hpz
      have hrow : wr.rangeAt gh (i * 2) (hdA pn pv).toList := fun j v hv => by
        have hj : j = 0 ∨ j = 1 := by
          have := (List.getElem?_eq_some_iff.1 hv).1
          have e : (hdA pn pv).toList.length = 2 := rfl
          omega
        rcases hj with rfl | rfl
        · have : v = .string pn := (Option.some.inj hv).symm
          rw [this]; exact e1
        · have : v = .string pv := (Option.some.inj hv).symm
          rw [this]; exact e2
      generalize headsS (F.m.heads.take i) F.left = H at *
      obtain ⟨many, bad, pieces, lft⟩ := H
      simp only at hmi hlf hnx hlm
      have h64 := HHD.out
      have hwr : wrap64 ((many : Int) + 1) = ((many + 1 : Nat) : Int) := by unfold wrap64; omega
      have HNX := Lib.hid hnx
      have HLF := Lib.hid hlf
      clear hnx hlf
      by_cases hA1 : alikeB pn.data.toList codingL = true
      · have HC1 : Hid (∀ w, Calls Tryz.prog 36 #[.string pn, .string ⟨#[84, 114, 97, 110, 115, 102, 101, 114, 45, 69, 110, 99, 111, 100, 105, 110, 103]⟩] w fun e w' => e = .returned (.bool true) ∧ Below w.heap.size w w') := Lib.hid fun w => by
          have h := alike_any pn ⟨#[84, 114, 97, 110, 115, 102, 101, 114, 45, 69, 110, 99, 111, 100, 105, 110, 103]⟩ w (by omega) (by decide)
          rw [show alikeB pn.data.toList (⟨#[84, 114, 97, 110, 115, 102, 101, 114, 45, 69, 110, 99, 111, 100, 105, 110, 103]⟩ : ByteArray).data.toList = true from hA1] at h
          exact h
        have HA1 := Lib.hid hA1
        clear hA1
        cases bad
        · by_cases hA2 : alikeB pv.data.toList chunkedL = true
          · have HC2 : Hid (∀ w, Calls Tryz.prog 36 #[.string pv, .string ⟨#[99, 104, 117, 110, 107, 101, 100]⟩] w fun e w' => e = .returned (.bool true) ∧ Below w.heap.size w w') := Lib.hid fun w => by
              have h := alike_any pv ⟨#[99, 104, 117, 110, 107, 101, 100]⟩ w (by omega) (by decide)
              rw [show alikeB pv.data.toList (⟨#[99, 104, 117, 110, 107, 101, 100]⟩ : ByteArray).data.toList = true from hA2] at h
              exact h
            have HA2 := Lib.hid hA2
            clear hA2
            have HX : Hid (headsS (F.m.heads.take (i + 1)) F.left = ⟨many + 1, false, true, lft⟩) := Lib.hid (by rw [HNX.out]; unfold headS; rw [if_pos HA1.out, HA2.out]; rfl)
            clear HNX
            go_wp2_with (first
              | ((with_reducible refine is_load ?_); refine wpl_load_arr rfl 51 (.tmp 22) rfl gh (i * 2) rfl (hdA pn pv) _ hrow Tryz.underlying51 rfl info_hd2 ?_)
              | (refine wpl_newbox 8 rfl rfl 51 rfl rfl (.tmp 23) rfl _ zeroHd (hdA pn pv) rfl rfl info_hd2 rfl (hd_one _ _) ?_; intro w5 hw; have hb := hid_grow hw; have B8 := (hid_alloc hw).1; replace B := zI B hb; replace HB := bl_add HB hb R; replace R := R.below hb; clear hb hw e1 e2; have c80 : w5.cell? ⟨wr.heap.size, 0, none⟩ = some (.string pn) := B8.cell 0; have c81 : w5.cell? ⟨wr.heap.size, 1, none⟩ = some (.string pv) := B8.cell 1)
              | (go_at_call 36; (with_reducible refine (HC1.out _).mono ?_); rintro e w6 ⟨rfl, hb⟩; replace B := zI B hb; replace B8 := zI B8 hb; replace HB := bl_add HB hb R; replace R := R.below hb; clear hb; clear c80 c81; have c80 : w6.cell? ⟨wr.heap.size, 0, none⟩ = some (.string pn) := B8.cell 0; have c81 : w6.cell? ⟨wr.heap.size, 1, none⟩ = some (.string pv) := B8.cell 1)
              | (go_at_call 36; (with_reducible refine (HC2.out _).mono ?_); rintro e w7 ⟨rfl, hb⟩; replace B := zI B hb; replace B8 := zI B8 hb; replace HB := bl_add HB hb R; replace R := R.below hb; clear hb; clear c80 c81; have c80 : w7.cell? ⟨wr.heap.size, 0, none⟩ = some (.string pn) := B8.cell 0; have c81 : w7.cell? ⟨wr.heap.size, 1, none⟩ = some (.string pv) := B8.cell 1))
            go_roundw
            case rel => exact ⟨i + 1, lf, rfl, by rw [HX.out]; first | done | rfl, by rw [HX.out]; first | done | rfl | (show Value.bool _ = Value.bool false; congr 1; exact decide_eq_false (by omega)) | (show Value.bool _ = Value.bool true; congr 1; exact decide_eq_true (by omega)), by rw [HX.out]; first | done | rfl, by omega, by rw [HX.out]; show many + 1 ≤ i + 1; omega, (by rw [HX.out]; first | exact HLF.out | exact fun _ => HLF.out trivial | exact fun _ => HLF.out rfl), B, R, HB⟩
            case measure => (simp only; omega)
          · have hA3 : alikeB pv.data.toList chunkedL = false := by simpa using hA2
            have HC2 : Hid (∀ w, Calls Tryz.prog 36 #[.string pv, .string ⟨#[99, 104, 117, 110, 107, 101, 100]⟩] w fun e w' => e = .returned (.bool false) ∧ Below w.heap.size w w') := Lib.hid fun w => by
              have h := alike_any pv ⟨#[99, 104, 117, 110, 107, 101, 100]⟩ w (by omega) (by decide)
              rw [show alikeB pv.data.toList (⟨#[99, 104, 117, 110, 107, 101, 100]⟩ : ByteArray).data.toList = false from hA3] at h
              exact h
            have HA2 := Lib.hid hA3
            clear hA2 hA3
            have HX : Hid (headsS (F.m.heads.take (i + 1)) F.left = ⟨many + 1, true, true, lft⟩) := Lib.hid (by rw [HNX.out]; unfold headS; rw [if_pos HA1.out, HA2.out]; rfl)
            clear HNX
            go_wp2_with (first
              | ((with_reducible refine is_load ?_); refine wpl_load_arr rfl 51 (.tmp 22) rfl gh (i * 2) rfl (hdA pn pv) _ hrow Tryz.underlying51 rfl info_hd2 ?_)
              | (refine wpl_newbox 8 rfl rfl 51 rfl rfl (.tmp 23) rfl _ zeroHd (hdA pn pv) rfl rfl info_hd2 rfl (hd_one _ _) ?_; intro w5 hw; have hb := hid_grow hw; have B8 := (hid_alloc hw).1; replace B := zI B hb; replace HB := bl_add HB hb R; replace R := R.below hb; clear hb hw e1 e2; have c80 : w5.cell? ⟨wr.heap.size, 0, none⟩ = some (.string pn) := B8.cell 0; have c81 : w5.cell? ⟨wr.heap.size, 1, none⟩ = some (.string pv) := B8.cell 1)
              | (go_at_call 36; (with_reducible refine (HC1.out _).mono ?_); rintro e w6 ⟨rfl, hb⟩; replace B := zI B hb; replace B8 := zI B8 hb; replace HB := bl_add HB hb R; replace R := R.below hb; clear hb; clear c80 c81; have c80 : w6.cell? ⟨wr.heap.size, 0, none⟩ = some (.string pn) := B8.cell 0; have c81 : w6.cell? ⟨wr.heap.size, 1, none⟩ = some (.string pv) := B8.cell 1)
              | (go_at_call 36; (with_reducible refine (HC2.out _).mono ?_); rintro e w7 ⟨rfl, hb⟩; replace B := zI B hb; replace B8 := zI B8 hb; replace HB := bl_add HB hb R; replace R := R.below hb; clear hb; clear c80 c81; have c80 : w7.cell? ⟨wr.heap.size, 0, none⟩ = some (.string pn) := B8.cell 0; have c81 : w7.cell? ⟨wr.heap.size, 1, none⟩ = some (.string pv) := B8.cell 1))
            go_roundw
            case rel => exact ⟨i + 1, lf, rfl, by rw [HX.out]; first | done | rfl, by rw [HX.out]; first | done | rfl | (show Value.bool _ = Value.bool false; congr 1; exact decide_eq_false (by omega)) | (show Value.bool _ = Value.bool true; congr 1; exact decide_eq_true (by omega)), by rw [HX.out]; first | done | rfl, by omega, by rw [HX.out]; show many + 1 ≤ i + 1; omega, (by rw [HX.out]; intro h; cases h), B, R, HB⟩
            case measure => (simp only; omega)
        · have HX : Hid (headsS (F.m.heads.take (i + 1)) F.left = ⟨many + 1, true, true, lft⟩) := Lib.hid (by rw [HNX.out]; unfold headS; rw [if_pos HA1.out]; rfl)
          clear HNX
          go_wp2_with (first
            | ((with_reducible refine is_load ?_); refine wpl_load_arr rfl 51 (.tmp 22) rfl gh (i * 2) rfl (hdA pn pv) _ hrow Tryz.underlying51 rfl info_hd2 ?_)
            | (refine wpl_newbox 8 rfl rfl 51 rfl rfl (.tmp 23) rfl _ zeroHd (hdA pn pv) rfl rfl info_hd2 rfl (hd_one _ _) ?_; intro w5 hw; have hb := hid_grow hw; have B8 := (hid_alloc hw).1; replace B := zI B hb; replace HB := bl_add HB hb R; replace R := R.below hb; clear hb hw e1 e2; have c80 : w5.cell? ⟨wr.heap.size, 0, none⟩ = some (.string pn) := B8.cell 0; have c81 : w5.cell? ⟨wr.heap.size, 1, none⟩ = some (.string pv) := B8.cell 1)
            | (go_at_call 36; (with_reducible refine (HC1.out _).mono ?_); rintro e w6 ⟨rfl, hb⟩; replace B := zI B hb; replace B8 := zI B8 hb; replace HB := bl_add HB hb R; replace R := R.below hb; clear hb; clear c80 c81; have c80 : w6.cell? ⟨wr.heap.size, 0, none⟩ = some (.string pn) := B8.cell 0; have c81 : w6.cell? ⟨wr.heap.size, 1, none⟩ = some (.string pv) := B8.cell 1))
          go_roundw
          case rel => exact ⟨i + 1, lf, rfl, by rw [HX.out]; first | done | rfl, by rw [HX.out]; first | done | rfl | (show Value.bool _ = Value.bool false; congr 1; exact decide_eq_false (by omega)) | (show Value.bool _ = Value.bool true; congr 1; exact decide_eq_true (by omega)), by rw [HX.out]; first | done | rfl, by omega, by rw [HX.out]; show many + 1 ≤ i + 1; omega, (by rw [HX.out]; intro h; cases h), B, R, HB⟩
          case measure => (simp only; omega)
      have hA1f : alikeB pn.data.toList codingL = false := by simpa using hA1
      have HC1 : Hid (∀ w, Calls Tryz.prog 36 #[.string pn, .string ⟨#[84, 114, 97, 110, 115, 102, 101, 114, 45, 69, 110, 99, 111, 100, 105, 110, 103]⟩] w fun e w' => e = .returned (.bool false) ∧ Below w.heap.size w w') := Lib.hid fun w => by
        have h := alike_any pn ⟨#[84, 114, 97, 110, 115, 102, 101, 114, 45, 69, 110, 99, 111, 100, 105, 110, 103]⟩ w (by omega) (by decide)
        rw [show alikeB pn.data.toList (⟨#[84, 114, 97, 110, 115, 102, 101, 114, 45, 69, 110, 99, 111, 100, 105, 110, 103]⟩ : ByteArray).data.toList = false from hA1f] at h
        exact h
      by_cases hA3 : alikeB pn.data.toList lengthL = true
      · have HC3 : Hid (∀ w, Calls Tryz.prog 36 #[.string pn, .string ⟨#[67, 111, 110, 116, 101, 110, 116, 45, 76, 101, 110, 103, 116, 104]⟩] w fun e w' => e = .returned (.bool true) ∧ Below w.heap.size w w') := Lib.hid fun w => by
          have h := alike_any pn ⟨#[67, 111, 110, 116, 101, 110, 116, 45, 76, 101, 110, 103, 116, 104]⟩ w (by omega) (by decide)
          rw [show alikeB pn.data.toList (⟨#[67, 111, 110, 116, 101, 110, 116, 45, 76, 101, 110, 103, 116, 104]⟩ : ByteArray).data.toList = true from hA3] at h
          exact h
        have HA1 := Lib.hid hA1
        have HA3 := Lib.hid hA3
        clear hA1 hA1f hA3
        cases hd : decS pv.data.toList with
        | some n =>
          obtain ⟨q1, q2, q3⟩ := pu_some hd
          have q4 : pv.size ≤ 10 := q2
          have HPU := Lib.hid (fun w' => pu_good pv z2 n q1 w')
          have HD := Lib.hid hd
          clear hd q1 q2
          have hwn : IntKind.i64.wrap (n : Int) = (n : Int) := by rw [IntKind.wrap_i64]; omega
          cases bad
          all_goals
            have HX : Hid (headsS (F.m.heads.take (i + 1)) F.left = ⟨many + 1, _, pieces, n⟩) := Lib.hid (by rw [HNX.out]; unfold headS; rw [if_neg HA1.out, if_pos HA3.out, HD.out])
            clear HNX
            go_wp2_with (first
              | ((with_reducible refine is_load ?_); refine wpl_load_arr rfl 51 (.tmp 22) rfl gh (i * 2) rfl (hdA pn pv) _ hrow Tryz.underlying51 rfl info_hd2 ?_)
              | (refine wpl_newbox 8 rfl rfl 51 rfl rfl (.tmp 23) rfl _ zeroHd (hdA pn pv) rfl rfl info_hd2 rfl (hd_one _ _) ?_; intro w5 hw; have hb := hid_grow hw; have B8 := (hid_alloc hw).1; replace B := zI B hb; replace HB := bl_add HB hb R; replace R := R.below hb; clear hb hw e1 e2; have c80 : w5.cell? ⟨wr.heap.size, 0, none⟩ = some (.string pn) := B8.cell 0; have c81 : w5.cell? ⟨wr.heap.size, 1, none⟩ = some (.string pv) := B8.cell 1)
              | (go_at_call 36; (with_reducible refine (HC1.out _).mono ?_); rintro e w6 ⟨rfl, hb⟩; replace B := zI B hb; replace B8 := zI B8 hb; replace HB := bl_add HB hb R; replace R := R.below hb; clear hb; clear c80 c81; have c80 : w6.cell? ⟨wr.heap.size, 0, none⟩ = some (.string pn) := B8.cell 0; have c81 : w6.cell? ⟨wr.heap.size, 1, none⟩ = some (.string pv) := B8.cell 1)
              | (go_at_call 36; (with_reducible refine (HC3.out _).mono ?_); rintro e w7 ⟨rfl, hb⟩; replace B := zI B hb; replace B8 := zI B8 hb; replace HB := bl_add HB hb R; replace R := R.below hb; clear hb; clear c80 c81; have c80 : w7.cell? ⟨wr.heap.size, 0, none⟩ = some (.string pn) := B8.cell 0; have c81 : w7.cell? ⟨wr.heap.size, 1, none⟩ = some (.string pv) := B8.cell 1)
              | (go_at_call 140; (with_reducible refine (HPU.out _).mono ?_); rintro e w8 ⟨rfl, hb⟩; replace B := zI B hb; replace B8 := zI B8 hb; replace HB := bl_add HB hb R; replace R := R.below hb; clear hb; clear c80 c81; have c80 : w8.cell? ⟨wr.heap.size, 0, none⟩ = some (.string pn) := B8.cell 0; have c81 : w8.cell? ⟨wr.heap.size, 1, none⟩ = some (.string pv) := B8.cell 1)
              | ((with_reducible refine is_store ?_); refine wpl_store_cell rfl 3 (.tmp 64) (.tmp 62) rfl g 13 rfl (.int .i64 (n : Int)) rfl _ _ B (show 13 < 16 by decide) one_i rfl ?_; intro w9 hw; replace HB := HB.trans (R.store hw); replace R := R.row (Bes.row (X := fun q => q = g) hw rfl); replace B := hid_row hw B; simp only [FdC_13] at B; clear hw))
            go_roundw
            case rel => exact ⟨i + 1, (n : Int), rfl, by rw [HX.out]; first | done | rfl, by rw [HX.out]; first | done | rfl | (show Value.bool _ = Value.bool false; congr 1; exact decide_eq_false (by omega)) | (show Value.bool _ = Value.bool true; congr 1; exact decide_eq_true (by omega)), by rw [HX.out]; first | done | rfl, by omega, by rw [HX.out]; show many + 1 ≤ i + 1; omega, (by rw [HX.out]; intro _; rfl), B, R, HB⟩
            case measure => (simp only; omega)
        | none =>
          have HD := Lib.hid hd
          by_cases hq : ∃ u, Lib.parseUintB 64 pv.data.toList = .ok u
          · obtain ⟨u, hu⟩ := hq
            obtain ⟨q1, q2⟩ := pu_none hd hu
            have q4 : 10 < pv.size := q1
            have HPU := Lib.hid (fun w' => pu_good pv z2 u hu w')
            clear hd hu q1
            cases bad
            all_goals
              have HX : Hid (headsS (F.m.heads.take (i + 1)) F.left = ⟨many + 1, true, pieces, 0⟩) := Lib.hid (by rw [HNX.out]; unfold headS; rw [if_neg HA1.out, if_pos HA3.out, HD.out])
              clear HNX
              go_wp2_with (first
                | ((with_reducible refine is_load ?_); refine wpl_load_arr rfl 51 (.tmp 22) rfl gh (i * 2) rfl (hdA pn pv) _ hrow Tryz.underlying51 rfl info_hd2 ?_)
                | (refine wpl_newbox 8 rfl rfl 51 rfl rfl (.tmp 23) rfl _ zeroHd (hdA pn pv) rfl rfl info_hd2 rfl (hd_one _ _) ?_; intro w5 hw; have hb := hid_grow hw; have B8 := (hid_alloc hw).1; replace B := zI B hb; replace HB := bl_add HB hb R; replace R := R.below hb; clear hb hw e1 e2; have c80 : w5.cell? ⟨wr.heap.size, 0, none⟩ = some (.string pn) := B8.cell 0; have c81 : w5.cell? ⟨wr.heap.size, 1, none⟩ = some (.string pv) := B8.cell 1)
                | (go_at_call 36; (with_reducible refine (HC1.out _).mono ?_); rintro e w6 ⟨rfl, hb⟩; replace B := zI B hb; replace B8 := zI B8 hb; replace HB := bl_add HB hb R; replace R := R.below hb; clear hb; clear c80 c81; have c80 : w6.cell? ⟨wr.heap.size, 0, none⟩ = some (.string pn) := B8.cell 0; have c81 : w6.cell? ⟨wr.heap.size, 1, none⟩ = some (.string pv) := B8.cell 1)
                | (go_at_call 36; (with_reducible refine (HC3.out _).mono ?_); rintro e w7 ⟨rfl, hb⟩; replace B := zI B hb; replace B8 := zI B8 hb; replace HB := bl_add HB hb R; replace R := R.below hb; clear hb; clear c80 c81; have c80 : w7.cell? ⟨wr.heap.size, 0, none⟩ = some (.string pn) := B8.cell 0; have c81 : w7.cell? ⟨wr.heap.size, 1, none⟩ = some (.string pv) := B8.cell 1)
                | (go_at_call 140; (with_reducible refine (HPU.out _).mono ?_); rintro e w8 ⟨rfl, hb⟩; replace B := zI B hb; replace B8 := zI B8 hb; replace HB := bl_add HB hb R; replace R := R.below hb; clear hb; clear c80 c81; have c80 : w8.cell? ⟨wr.heap.size, 0, none⟩ = some (.string pn) := B8.cell 0; have c81 : w8.cell? ⟨wr.heap.size, 1, none⟩ = some (.string pv) := B8.cell 1)
                | ((with_reducible refine is_store ?_); refine wpl_store_cell rfl 3 (.tmp 64) (.tmp 62) rfl g 13 rfl (.int .i64 (wrap64 (u : Int))) rfl _ _ B (show 13 < 16 by decide) one_i rfl ?_; intro w9 hw; replace HB := HB.trans (R.store hw); replace R := R.row (Bes.row (X := fun q => q = g) hw rfl); replace B := hid_row hw B; simp only [FdC_13] at B; clear hw))
              go_roundw
              case rel => exact ⟨i + 1, (wrap64 (u : Int)), rfl, by rw [HX.out]; first | done | rfl, by rw [HX.out]; first | done | rfl | (show Value.bool _ = Value.bool false; congr 1; exact decide_eq_false (by omega)) | (show Value.bool _ = Value.bool true; congr 1; exact decide_eq_true (by omega)), by rw [HX.out]; first | done | rfl, by omega, by rw [HX.out]; show many + 1 ≤ i + 1; omega, (by rw [HX.out]; intro h; cases h), B, R, HB⟩
              case measure => (simp only; omega)
          · have hq2 : ∀ u, Lib.parseUintB 64 pv.data.toList ≠ .ok u := fun u e => hq ⟨u, e⟩
            have HPU := Lib.hid (fun w' hw' => pu_fault pv z2 hq2 w' hw')
            clear hd hq hq2
            cases bad
            all_goals
              have HX : Hid (headsS (F.m.heads.take (i + 1)) F.left = ⟨many + 1, true, pieces, 0⟩) := Lib.hid (by rw [HNX.out]; unfold headS; rw [if_neg HA1.out, if_pos HA3.out, HD.out])
              clear HNX
              go_wp2_with (first
                | ((with_reducible refine is_load ?_); refine wpl_load_arr rfl 51 (.tmp 22) rfl gh (i * 2) rfl (hdA pn pv) _ hrow Tryz.underlying51 rfl info_hd2 ?_)
                | (refine wpl_newbox 8 rfl rfl 51 rfl rfl (.tmp 23) rfl _ zeroHd (hdA pn pv) rfl rfl info_hd2 rfl (hd_one _ _) ?_; intro w5 hw; have hb := hid_grow hw; have B8 := (hid_alloc hw).1; replace B := zI B hb; replace HB := bl_add HB hb R; replace R := R.below hb; clear hb hw e1 e2; have c80 : w5.cell? ⟨wr.heap.size, 0, none⟩ = some (.string pn) := B8.cell 0; have c81 : w5.cell? ⟨wr.heap.size, 1, none⟩ = some (.string pv) := B8.cell 1)
                | (go_at_call 36; (with_reducible refine (HC1.out _).mono ?_); rintro e w6 ⟨rfl, hb⟩; replace B := zI B hb; replace B8 := zI B8 hb; replace HB := bl_add HB hb R; replace R := R.below hb; clear hb; clear c80 c81; have c80 : w6.cell? ⟨wr.heap.size, 0, none⟩ = some (.string pn) := B8.cell 0; have c81 : w6.cell? ⟨wr.heap.size, 1, none⟩ = some (.string pv) := B8.cell 1)
                | (go_at_call 36; (with_reducible refine (HC3.out _).mono ?_); rintro e w7 ⟨rfl, hb⟩; replace B := zI B hb; replace B8 := zI B8 hb; replace HB := bl_add HB hb R; replace R := R.below hb; clear hb; clear c80 c81; have c80 : w7.cell? ⟨wr.heap.size, 0, none⟩ = some (.string pn) := B8.cell 0; have c81 : w7.cell? ⟨wr.heap.size, 1, none⟩ = some (.string pv) := B8.cell 1)
                | (go_at_call 140; (with_reducible refine (HPU.out _ (HW.out.at HB.b)).mono ?_); rintro e w8 ⟨u, N, rfl, ⟨u1, u2⟩, hb⟩; replace B := zI B hb; replace B8 := zI B8 hb; replace HB := bl_add HB hb R; replace R := R.below hb; clear hb; clear c80 c81; have c80 : w8.cell? ⟨wr.heap.size, 0, none⟩ = some (.string pn) := B8.cell 0; have c81 : w8.cell? ⟨wr.heap.size, 1, none⟩ = some (.string pv) := B8.cell 1)
                | ((with_reducible refine is_store ?_); refine wpl_store_cell rfl 3 (.tmp 64) (.tmp 62) rfl g 13 rfl (.int .i64 (wrap64 u)) rfl _ _ B (show 13 < 16 by decide) one_i rfl ?_; intro w9 hw; replace HB := HB.trans (R.store hw); replace R := R.row (Bes.row (X := fun q => q = g) hw rfl); replace B := hid_row hw B; simp only [FdC_13] at B; clear hw))
              go_roundw
              case rel => exact ⟨i + 1, (wrap64 u), rfl, by rw [HX.out]; first | done | rfl, by rw [HX.out]; first | done | rfl | (show Value.bool _ = Value.bool false; congr 1; exact decide_eq_false (by omega)) | (show Value.bool _ = Value.bool true; congr 1; exact decide_eq_true (by omega)), by rw [HX.out]; first | done | rfl, by omega, by rw [HX.out]; show many + 1 ≤ i + 1; omega, (by rw [HX.out]; intro h; cases h), B, R, HB⟩
              case measure => (simp only; omega)
      · have hA3f : alikeB pn.data.toList lengthL = false := by simpa using hA3
        have HC3 : Hid (∀ w, Calls Tryz.prog 36 #[.string pn, .string ⟨#[67, 111, 110, 116, 101, 110, 116, 45, 76, 101, 110, 103, 116, 104]⟩] w fun e w' => e = .returned (.bool false) ∧ Below w.heap.size w w') := Lib.hid fun w => by
          have h := alike_any pn ⟨#[67, 111, 110, 116, 101, 110, 116, 45, 76, 101, 110, 103, 116, 104]⟩ w (by omega) (by decide)
          rw [show alikeB pn.data.toList (⟨#[67, 111, 110, 116, 101, 110, 116, 45, 76, 101, 110, 103, 116, 104]⟩ : ByteArray).data.toList = false from hA3f] at h
          exact h
        have HA1 := Lib.hid hA1
        have HA3 := Lib.hid hA3
        clear hA1 hA1f hA3 hA3f
        have HX : Hid (headsS (F.m.heads.take (i + 1)) F.left = ⟨many, bad, pieces, lft⟩) := Lib.hid (by rw [HNX.out]; unfold headS; rw [if_neg HA1.out, if_neg HA3.out])
        clear HNX
        go_wp2_with (first
          | ((with_reducible refine is_load ?_); refine wpl_load_arr rfl 51 (.tmp 22) rfl gh (i * 2) rfl (hdA pn pv) _ hrow Tryz.underlying51 rfl info_hd2 ?_)
          | (refine wpl_newbox 8 rfl rfl 51 rfl rfl (.tmp 23) rfl _ zeroHd (hdA pn pv) rfl rfl info_hd2 rfl (hd_one _ _) ?_; intro w5 hw; have hb := hid_grow hw; have B8 := (hid_alloc hw).1; replace B := zI B hb; replace HB := bl_add HB hb R; replace R := R.below hb; clear hb hw e1 e2; have c80 : w5.cell? ⟨wr.heap.size, 0, none⟩ = some (.string pn) := B8.cell 0; have c81 : w5.cell? ⟨wr.heap.size, 1, none⟩ = some (.string pv) := B8.cell 1)
          | (go_at_call 36; (with_reducible refine (HC1.out _).mono ?_); rintro e w6 ⟨rfl, hb⟩; replace B := zI B hb; replace B8 := zI B8 hb; replace HB := bl_add HB hb R; replace R := R.below hb; clear hb; clear c80 c81; have c80 : w6.cell? ⟨wr.heap.size, 0, none⟩ = some (.string pn) := B8.cell 0; have c81 : w6.cell? ⟨wr.heap.size, 1, none⟩ = some (.string pv) := B8.cell 1)
          | (go_at_call 36; (with_reducible refine (HC3.out _).mono ?_); rintro e w7 ⟨rfl, hb⟩; replace B := zI B hb; replace B8 := zI B8 hb; replace HB := bl_add HB hb R; replace R := R.below hb; clear hb; clear c80 c81; have c80 : w7.cell? ⟨wr.heap.size, 0, none⟩ = some (.string pn) := B8.cell 0; have c81 : w7.cell? ⟨wr.heap.size, 1, none⟩ = some (.string pv) := B8.cell 1))
        go_roundw
        case rel => exact ⟨i + 1, lf, rfl, by rw [HX.out]; first | done | rfl, by rw [HX.out]; first | done | rfl | (show Value.bool _ = Value.bool false; congr 1; exact decide_eq_false (by omega)) | (show Value.bool _ = Value.bool true; congr 1; exact decide_eq_true (by omega)), by rw [HX.out]; first | done | rfl, by omega, by rw [HX.out]; show many ≤ i + 1; omega, (by rw [HX.out]; first | exact HLF.out | exact fun _ => HLF.out trivial | exact fun _ => HLF.out rfl), B, R, HB⟩
        case measure => (simp only; omega)
    · obtain rfl : i = F.m.heads.length := by omega
      rw [List.take_length] at *
      have hbs : bodyS F = (if 1 < (headsS F.m.heads F.left).many ∨ (headsS F.m.heads F.left).bad = true then .bad 32 else if (headsS F.m.heads F.left).pieces then .ok { F with head := -1, left := (headsS F.m.heads F.left).left, next := 9 } else if 65536 < (headsS F.m.heads F.left).left then .bad 2 else if (headsS F.m.heads F.left).left = 0 then .ok ({ F with head := -1, left := (headsS F.m.heads F.left).left } : Fs).end_ else .ok { F with head := -1, left := (headsS F.m.heads F.left).left, next := 8 }) := rfl
      generalize headsS F.m.heads F.left = H at *
      obtain ⟨many, bad, pieces, lft⟩ := H
      simp only at hmi hlf hbs
      have HHH := HHD
      by_cases h1 : 1 < many ∨ bad = true
      · rw [if_pos h1] at hbs
        have HV := Lib.hid hbs
        clear hbs hlf hmi
        cases bad
        all_goals
          by_cases a1 : 1 < many
          all_goals first
            | (exfalso; simp at h1; omega)
            | skip
          all_goals
            clear h1
            go_wp2
            go_ret2
            exact BdV.bad HV.out HB (fdm B (R.same rfl rfl rfl rfl)) rfl rfl rfl
      · rw [if_neg h1] at hbs
        obtain ⟨a1, hb0⟩ := not_or.1 h1
        obtain rfl : bad = false := by simpa using hb0
        obtain rfl : lf = lft := by first | exact hlf rfl | exact hlf trivial
        clear h1 hb0 hlf
        cases pieces
        · rw [if_neg (by decide)] at hbs
          by_cases h2 : 65536 < lf
          · rw [if_pos h2] at hbs
            have HV := Lib.hid hbs
            clear hbs hmi
            have c13 : wr.cell? ⟨g, 13, none⟩ = some (.int .i64 lf) := B.cell 13
            go_wp2
            go_ret2
            exact BdV.bad HV.out HB (fdm B (R.same rfl rfl rfl rfl)) rfl rfl rfl
          · rw [if_neg h2] at hbs
            have c13 : wr.cell? ⟨g, 13, none⟩ = some (.int .i64 lf) := B.cell 13
            by_cases h3 : lf = 0
            · rw [if_pos h3] at hbs
              subst h3
              have HV := Lib.hid hbs
              clear hbs hmi
              have hM := end_any (F := { F with head := -1, left := 0 }) B (R.same rfl rfl rfl rfl) HHD.out HBD.out HN.out
              go_wp2_with (go_at_call 142; (with_reducible refine hM.mono ?_); rintro e w5 ⟨rfl, ⟨_, _, _, _, _, _, hm⟩, hb⟩; replace HB := HB.trans hb)
              go_ret2
              exact BdV.ok HV.out HB hm rfl
            · rw [if_neg h3] at hbs
              have HV := Lib.hid hbs
              clear hbs hmi
              go_wp2
              go_ret2
              exact BdV.ok HV.out HB (fdm B (R.same rfl rfl rfl rfl)) rfl
        · rw [if_pos (by rfl)] at hbs
          have HV := Lib.hid hbs
          clear hbs hmi
          go_wp2
          go_ret2
          exact BdV.ok HV.out HB (fdm B (R.same rfl rfl rfl rfl)) rfl
end Go.Proofs.YtbehakabglegjaaGreatDoor
