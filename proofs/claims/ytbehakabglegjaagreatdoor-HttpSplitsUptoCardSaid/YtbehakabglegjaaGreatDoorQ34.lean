/- Layer 9: the law HttpPieces, walked. -/
import Derived.Test.YtbehakabglegjaaGreatDoorQ31
import Derived.Test.YtbehakabglegjaaGreatDoorQ32
import Derived.Test.YtbehakabglegjaaGreatDoorQ33
namespace Go.Proofs.YtbehakabglegjaaGreatDoor
open Go.RowKit Go.PlainAid
set_option linter.unusedVariables false
set_option linter.unusedSimpArgs false
theorem Wh.upto {w : World} {r r2 : Nat} (h : Wh w r) (hr : r ≤ r2) : Wh w r2 := fun W hW => h W (hW.mono hr)
/-- A feed that has no rows yet, beside another's doings. -/
theorem FdM.other {n n1 g2 : Nat} {P : Nat → Prop} {F : Fs} {nx : Value} {w w' : World} (h : FdM ⟨n, P⟩ g2 F nx (.slice none 0 0) (.slice none 0 0) (.slice none 0 0) (.slice none 0 0) [] w) (hb : Bl ⟨n1, (· = g2)⟩ w w') : FdM ⟨n, P⟩ g2 F nx (.slice none 0 0) (.slice none 0 0) (.slice none 0 0) (.slice none 0 0) [] w' :=
  FdM.bes h (X := fun q => q ≠ g2) (hb.as_bes (fun q _ h => Classical.byContradiction h)) (fun q x y => by
    rcases y with y | y | y | y | y
    · exact x y
    · cases y
    · cases y
    · cases y
    · cases y) (fun x hx => by cases hx)
theorem is_invoke {P : Program} {ops : Array Oper} {rest : List Oper} {a : Act} {w : World} {Q : Exit → Act → World → Prop} {d : Option Tmp} {x : Operand} {nm : String} {tt : TypeId} {ps : String} {af : Array Edge} {gd : Option (Nat × Bool)} (h : wpList P ops Q (⟨d, .call { callee := .invoke x nm, args := #[], argTypes := #[] }, tt, ps, af, gd⟩ :: rest) a w) : wpList P ops Q (⟨d, .call { callee := .invoke x nm, args := #[], argTypes := #[] }, tt, ps, af, gd⟩ :: rest) a w := h
/-- How long the next piece is. -/
inductive Cut (cs : List Int) (i n : Nat) : Nat → Prop where
  | none (h : cs.length ≤ i) : Cut cs i n n
  | low (c : Int) (h : cs[i]? = some c) (h2 : c ≤ 0) : Cut cs i n n
  | big (c : Int) (h : cs[i]? = some c) (h1 : 0 < c) (h2 : (n : Int) ≤ c) : Cut cs i n n
  | cut (m : Nat) (h : cs[i]? = some (m : Int)) (h1 : 0 < m) (h2 : m < n) : Cut cs i n m
theorem cut_of (cs : List Int) (i n : Nat) : ∃ m, Cut cs i n m := by
  by_cases h : i < cs.length
  · obtain ⟨c, hc⟩ : ∃ c, cs[i]? = some c := ⟨_, List.getElem?_eq_getElem h⟩
    by_cases h1 : 0 < c
    · by_cases h2 : c < (n : Int)
      · obtain ⟨m, rfl⟩ : ∃ m : Nat, c = (m : Int) := ⟨c.toNat, by omega⟩
        exact ⟨m, .cut m hc (by omega) (by omega)⟩
      · exact ⟨n, .big c hc h1 (by omega)⟩
    · exact ⟨n, .low c hc (by omega)⟩
  · exact ⟨n, .none (by omega)⟩
theorem Cut.bounds {cs : List Int} {i n m : Nat} (h : Cut cs i n m) (hn : 0 < n) : 0 < m ∧ m ≤ n := by
  cases h <;> omega
theorem bl_cell {w w' : World} {a : Addr} {v : Value} (hb : Below w.heap.size w w') (h : w.cell? a = some v) : w'.cell? a = some v := cell_later hb h
set_option maxRecDepth 100000 in
set_option maxHeartbeats 16000000 in
theorem pieces_any {bv cv : Value} {l : List UInt8} {cs : List Int} {ans : Bool} {w : World} (hb0 : BtC w bv l) (hc0 : InAt w cv cs) (hci : ∀ n ∈ cs, I64 n) (hl : l.length ≤ 1048576) (hcl : cs.length ≤ 1048576) (hw : Wh w w.heap.size) :
    Calls Tryz.prog 4 #[bv, cv, .bool ans] w fun e w' => e = .returned (.bool true) ∧ Below w.heap.size w w' := by
  obtain ⟨hb0, bA, bn, bc, rfl, hcap⟩ := hb0
  obtain ⟨bA2, bc2, hbe, hbcells⟩ := id hb0
  injection hbe with e1 e2 e3
  subst e1
  subst e2
  subst e3
  obtain ⟨cA, cc, rfl, hccells⟩ := id hc0
  have HBT := Lib.hid hb0
  have HIN := Lib.hid hc0
  have HCI := Lib.hid hci
  have HW := Lib.hid hw
  have HLL := Lib.hid hl
  have HCL := Lib.hid hcl
  have HCAP := Lib.hid hcap
  have HBC := Lib.hid hbcells
  have HCC := Lib.hid hccells
  obtain ⟨ie, hie1, hie2, hie3, hie4⟩ := u8_info
  clear hb0 hc0 hci hw hbcells hccells hcap hl hcl
  go_enter Tryz.func4, Tryz.ntmps4
  go_wp2_with (first
    | (go_at_call 9; (refine (shown_any HW.out).mono ?_); rintro e w1 ⟨rfl, hb⟩; have HB := hb; clear hb)
    | (go_at_call 13; (with_reducible refine (new_any ans w1).mono ?_); rintro e w2 ⟨rfl, hM, hb⟩; have HM1 := Lib.hid hM; have HB2 := HB.trans (hb.mono HB.size); clear hM hb)
    | (go_at_call 13; (with_reducible refine (new_any ans w2).mono ?_); rintro e w3 ⟨rfl, hM, hb⟩; have HM2 := Lib.hid hM; replace HM1 := Lib.hid (HM1.out.new hb (Nat.le_refl _) hM.2.gl.2); have HB3 := HB2.trans (hb.mono HB2.size); clear hM hb)
    | (go_at_call 14; (refine (feed_any (l := l) HM1.out rfl (FI.new ans) (newS_HZ ans) ((HW.out.below HB3).upto HB.size) (by have := HLL.out; omega) (by have := HLL.out; have e : (newS ans).pos = 0 := (by cases ans <;> rfl); omega) (fun w' hbl => bt_below HBT.out (HB3.trans (hbl.b.mono HB.size)))).mono ?_); rintro e w4 hq; obtain ⟨G1, nx1, tk1, hs1, bd1, wh1, L1, ev1, rfl, hbl, hF1, hd1⟩ := fed_of hq; have HF1 := Lib.hid hF1; have HD1 := Lib.hid hd1; replace HM2 := Lib.hid (HM2.out.other hbl); have HB4 := HB3.trans (hbl.b.mono HB.size); clear hq hF1 hd1 hbl HM1))
  have hg2 : w.heap.size ≤ w2.heap.size := HB2.size
  have HG2 := Lib.hid hg2
  have H4 : Hid (w.heap.size ≤ w4.heap.size) := Lib.hid HB4.size
  have HBOX := Lib.hid HM2.out.1
  have hpi : PcI ans l w2.heap.size w4 (.slice none 0 0) .nilIface 0 w4 := PcI.start HM2.out rfl
  have HPI := Lib.hid hpi
  replace HB := HB4
  clear hpi hg2 HB2 HB3 HB4 HM2
  generalize w2.heap.size = g2 at *
  generalize w1.heap.size = g1 at *
  go_loopw [14, 15, 12, 13, 16, 17, 18] (fun kv iv mv hv _ _ _ wr => ∃ k i : Nat, kv = .int .i64 (k : Int) ∧ iv = .int .i64 (i : Int) ∧ i ≤ k ∧ k ≤ l.length ∧ Hid (PcI ans l g2 w4 mv hv k wr) ∧ Below w.heap.size w wr) (fun kv _ _ _ _ _ _ _ => match kv with | .int _ k => l.length - k.toNat | _ => 0)
  case atStart => exact ⟨0, 0, rfl, rfl, Nat.le_refl _, Nat.zero_le _, HPI, HB⟩
  case round =>
    clear HB HPI
    obtain ⟨k, i, rfl, rfl, hik, hkl, HPI, HB⟩ := hrel
    have hl := HLL.out
    have hcl := HCL.out
    have hcap := HCAP.out
    rcases HPI.out.hv with rfl | ⟨N2, rfl⟩
    · by_cases hlt : k < l.length
      · obtain ⟨b0, off, hA, _⟩ := HBC.out k _ (List.getElem?_eq_getElem hlt)
        subst hA
        obtain ⟨m, hcut⟩ := cut_of cs i (l.length - k)
        obtain ⟨hm0, hm1⟩ := hcut.bounds (by omega)
        obtain ⟨E, hE⟩ : ∃ E, E = k + m := ⟨_, rfl⟩
        have HEl : Hid (E ≤ l.length) := Lib.hid (by omega)
        obtain ⟨p, hp⟩ : ∃ p, p = (l.take E).drop k := ⟨_, rfl⟩
        have hpl : p.length = m := by rw [hp, List.length_drop, List.length_take, Nat.min_eq_left HEl.out]; omega
        have HPL : Hid (p.length = m) := Lib.hid hpl
        have HTK : Hid (l.take (k + p.length) = l.take k ++ p) := Lib.hid (by
          rw [hpl, ← hE, hp]
          have := List.take_append_drop k (l.take E)
          rw [List.take_take, Nat.min_eq_left (by omega)] at this
          exact this.symm)
        have hadd : (k : Int) + (m : Int) = (E : Int) := by omega
        obtain ⟨G, nx, tk, hs, bd, wh, L, av, hF, hnx, hI, hZ, hpos, hstep⟩ := HPI.out.fed hkl
        have HFG := Lib.hid hF
        have HNX := Lib.hid hnx
        have HI := Lib.hid hI
        have HZ2 := Lib.hid hZ
        have HPOS := Lib.hid hpos
        have HSTEP := Lib.hid hstep
        have HBV : Hid (∀ w', Bl ⟨g2, av⟩ wr w' → BtAt w' (.slice (some ⟨b0, off + k, none⟩) (E - k) (bc - k)) p) := Lib.hid (fun w' hbl => by
          have h1 := bt_below HBT.out (HB.trans (hbl.b.mono HG2.out))
          have h2 := bt_sub h1 (show k ≤ E by omega) HEl.out (bc - k) _ _ rfl
          rw [← hp] at h2
          exact h2)
        have HE : Hid (E = k + m) := Lib.hid hE
        have hkE : k ≤ E := by omega
        have hEc : E ≤ bc := by have := HEl.out; omega
        have hE0 : (E : Int) ≤ 1048576 := by have := HEl.out; omega
        clear hp hpl hF hnx hI hZ hpos hstep hE HPI
        have hcs : (m = l.length - k ∧ (cs.length ≤ i ∨ (∃ c, cs[i]? = some c ∧ c ≤ 0) ∨ ∃ c, cs[i]? = some c ∧ 0 < c ∧ ((l.length - k : Nat) : Int) ≤ c)) ∨ (cs[i]? = some (m : Int) ∧ m < l.length - k) := by
          cases hcut with
          | none h => exact .inl ⟨rfl, .inl h⟩
          | low c h h2 => exact .inl ⟨rfl, .inr (.inl ⟨c, h, h2⟩)⟩
          | big c h h1 h2 => exact .inl ⟨rfl, .inr (.inr ⟨c, h, h1, h2⟩)⟩
          | cut m h h1 h2 => exact .inr ⟨h, h2⟩
        clear hcut
        rcases hcs with ⟨hm, h | ⟨c, h, h2⟩ | ⟨c, h, h1, h2⟩⟩ | ⟨h, h2⟩
        · have hni : ¬ (i : Int) < (cs.length : Int) := by omega
          have hsub : (l.length : Int) - (k : Int) = (m : Int) := by omega
          clear h hm
          go_wp2_with (first
            | (go_at_call 14; (refine (feed_any (l := p) HFG.out HNX.out HI.out HZ2.out ((HW.out.below HB).upto HG2.out) (by have := HPL.out; omega) (by have := HPL.out; have := HPOS.out; omega) HBV.out).mono ?_); rintro e w5 hq; obtain ⟨u5, ev5, rfl, hj, hb5⟩ := HSTEP.out _ _ _ HTK.out (fed_of hq); have HJ := Lib.hid hj; replace HB := HB.trans (hb5.mono HG2.out); clear hq hj hb5 HFG HNX HI HZ2 HSTEP HBV)
            | ((with_reducible refine is_app (.tmp 89) (.tmp 90) ?_); obtain ⟨M6, K6, n6, ho, hu, hsl, hcnt, hsz, hput⟩ := HJ.out.put; refine wpl_app_mms rfl (.tmp 89) (.tmp 90) 39 rfl Tryz.underlying39 rfl ho rfl hu hsl (by have := HPL.out; omega) hsz ?_; intro v6 w6 k1 k2 k3; obtain ⟨hpi, hb6⟩ := hput v6 w6 k1 k2 k3; have HPI := Lib.hid hpi; replace HB := HB.trans (hb6.mono H4.out); clear ho hu hsl hcnt hsz hput k1 k2 k3 hpi hb6 HJ))
          go_roundw
          case rel => exact ⟨E, i + 1, rfl, rfl, (by have := HE.out; omega), HEl.out, (by have h := HPI.out; rw [HPL.out, ← HE.out] at h; exact Lib.hid h), HB⟩
          case measure => (simp only; omega)
        · have hq1 : ¬ 0 < c := by omega
          obtain ⟨cb, co, hcA, hcell⟩ := HCC.out i _ h
          subst hcA
          have hcx := bl_cell HB hcell
          have hil : i < cs.length := (List.getElem?_eq_some_iff.1 h).1
          clear hcell h
          have hsub : (l.length : Int) - (k : Int) = (m : Int) := by omega
          clear h2 hm
          go_wp2_with (first
            | (go_at_call 14; (refine (feed_any (l := p) HFG.out HNX.out HI.out HZ2.out ((HW.out.below HB).upto HG2.out) (by have := HPL.out; omega) (by have := HPL.out; have := HPOS.out; omega) HBV.out).mono ?_); rintro e w5 hq; obtain ⟨u5, ev5, rfl, hj, hb5⟩ := HSTEP.out _ _ _ HTK.out (fed_of hq); have HJ := Lib.hid hj; replace HB := HB.trans (hb5.mono HG2.out); clear hq hj hb5 HFG HNX HI HZ2 HSTEP HBV)
            | ((with_reducible refine is_app (.tmp 89) (.tmp 90) ?_); obtain ⟨M6, K6, n6, ho, hu, hsl, hcnt, hsz, hput⟩ := HJ.out.put; refine wpl_app_mms rfl (.tmp 89) (.tmp 90) 39 rfl Tryz.underlying39 rfl ho rfl hu hsl (by have := HPL.out; omega) hsz ?_; intro v6 w6 k1 k2 k3; obtain ⟨hpi, hb6⟩ := hput v6 w6 k1 k2 k3; have HPI := Lib.hid hpi; replace HB := HB.trans (hb6.mono H4.out); clear ho hu hsl hcnt hsz hput k1 k2 k3 hpi hb6 HJ))
          go_roundw
          case rel => exact ⟨E, i + 1, rfl, rfl, (by have := HE.out; omega), HEl.out, (by have h := HPI.out; rw [HPL.out, ← HE.out] at h; exact Lib.hid h), HB⟩
          case measure => (simp only; omega)
        · have hq2 : ¬ c < (m : Int) := by omega
          obtain ⟨cb, co, hcA, hcell⟩ := HCC.out i _ h
          subst hcA
          have hcx := bl_cell HB hcell
          have hil : i < cs.length := (List.getElem?_eq_some_iff.1 h).1
          clear hcell h
          have hsub : (l.length : Int) - (k : Int) = (m : Int) := by omega
          clear h2 hm
          go_wp2_with (first
            | (go_at_call 14; (refine (feed_any (l := p) HFG.out HNX.out HI.out HZ2.out ((HW.out.below HB).upto HG2.out) (by have := HPL.out; omega) (by have := HPL.out; have := HPOS.out; omega) HBV.out).mono ?_); rintro e w5 hq; obtain ⟨u5, ev5, rfl, hj, hb5⟩ := HSTEP.out _ _ _ HTK.out (fed_of hq); have HJ := Lib.hid hj; replace HB := HB.trans (hb5.mono HG2.out); clear hq hj hb5 HFG HNX HI HZ2 HSTEP HBV)
            | ((with_reducible refine is_app (.tmp 89) (.tmp 90) ?_); obtain ⟨M6, K6, n6, ho, hu, hsl, hcnt, hsz, hput⟩ := HJ.out.put; refine wpl_app_mms rfl (.tmp 89) (.tmp 90) 39 rfl Tryz.underlying39 rfl ho rfl hu hsl (by have := HPL.out; omega) hsz ?_; intro v6 w6 k1 k2 k3; obtain ⟨hpi, hb6⟩ := hput v6 w6 k1 k2 k3; have HPI := Lib.hid hpi; replace HB := HB.trans (hb6.mono H4.out); clear ho hu hsl hcnt hsz hput k1 k2 k3 hpi hb6 HJ))
          go_roundw
          case rel => exact ⟨E, i + 1, rfl, rfl, (by have := HE.out; omega), HEl.out, (by have h := HPI.out; rw [HPL.out, ← HE.out] at h; exact Lib.hid h), HB⟩
          case measure => (simp only; omega)
        · have hq1 : 0 < (m : Int) := by omega
          obtain ⟨r, hr⟩ : ∃ r : Nat, r = l.length - k := ⟨_, rfl⟩
          have hq2 : (m : Int) < (r : Int) := by omega
          have hsub : (l.length : Int) - (k : Int) = (r : Int) := by omega
          obtain ⟨cb, co, hcA, hcell⟩ := HCC.out i _ h
          subst hcA
          have hcx := bl_cell HB hcell
          have hil : i < cs.length := (List.getElem?_eq_some_iff.1 h).1
          clear hcell h
          clear h2 hr
          go_wp2_with (first
            | (go_at_call 14; (refine (feed_any (l := p) HFG.out HNX.out HI.out HZ2.out ((HW.out.below HB).upto HG2.out) (by have := HPL.out; omega) (by have := HPL.out; have := HPOS.out; omega) HBV.out).mono ?_); rintro e w5 hq; obtain ⟨u5, ev5, rfl, hj, hb5⟩ := HSTEP.out _ _ _ HTK.out (fed_of hq); have HJ := Lib.hid hj; replace HB := HB.trans (hb5.mono HG2.out); clear hq hj hb5 HFG HNX HI HZ2 HSTEP HBV)
            | ((with_reducible refine is_app (.tmp 89) (.tmp 90) ?_); obtain ⟨M6, K6, n6, ho, hu, hsl, hcnt, hsz, hput⟩ := HJ.out.put; refine wpl_app_mms rfl (.tmp 89) (.tmp 90) 39 rfl Tryz.underlying39 rfl ho rfl hu hsl (by have := HPL.out; omega) hsz ?_; intro v6 w6 k1 k2 k3; obtain ⟨hpi, hb6⟩ := hput v6 w6 k1 k2 k3; have HPI := Lib.hid hpi; replace HB := HB.trans (hb6.mono H4.out); clear ho hu hsl hcnt hsz hput k1 k2 k3 hpi hb6 HJ))
          go_roundw
          case rel => exact ⟨E, i + 1, rfl, rfl, (by have := HE.out; omega), HEl.out, (by have h := HPI.out; rw [HPL.out, ← HE.out] at h; exact Lib.hid h), HB⟩
          case measure => (simp only; omega)
      · obtain rfl : k = l.length := by omega
        have hend : (Value.nilIface = .nilIface → l.length = l.length) := fun _ => rfl
        obtain ⟨G1, G2, n1x, t1, h1, b1, n2x, t2, h2, b2, v2, L1, M, L2, P1, P2, hF1, hF2, hU, hV, hEq, hLn, hd⟩ := HPI.out.ends (by have := HLL.out; omega) HF1.out HBOX.out HD1.out hend
        rcases hd with ⟨rfl, _, hop⟩ | ⟨c, p, N1, N2, _, e2, _⟩
        rotate_left
        · cases e2
        have HOP := Lib.hid hop
        clear hop
        replace HF1 := Lib.hid hF1
        have HF2 := Lib.hid hF2
        have HU := Lib.hid hU
        have HV := Lib.hid hV
        have HEQ := Lib.hid hEq
        have HLN := Lib.hid hLn
        clear hF1 hF2 hU hV hEq hLn HPI HD1 HBOX hend
        go_wp2_with (first
          | (go_at_call 15; go_must ((refine (alike_yes HU.out HV.out HEQ.out HLN.out).mono ?_); rintro e w8 ⟨rfl, hb⟩; replace HF1 := Lib.hid (HF1.out.later hb); replace HF2 := Lib.hid (HF2.out.later hb); replace HB := HB.trans (hb.mono HB.size); clear hb HU HV HEQ HLN)))
        refine wp_region_S (S := fun _ => True) (by kernel_rfl) (fun w9 hh => trivial) (fun w9 hh hbb HS0 => ?_)
        have hb := hbb w8.heap.size (Nat.le_refl _)
        replace HF1 := Lib.hid (HF1.out.later hb)
        replace HF2 := Lib.hid (HF2.out.later hb)
        replace HB := HB.trans (hb.mono HB.size)
        clear hh hbb hb
        refine TKC 0 99 rfl ?_
        try simp only [Act.put, zA, zB, zC]
        refine TKC 1 100 rfl ?_
        try simp only [Act.put, zA, zB, zC]
        refine TKC 2 101 rfl ?_
        try simp only [Act.put, zA, zB, zC]
        refine TKC 3 102 rfl ?_
        try simp only [Act.put, zA, zB, zC]
        refine TKC 4 103 rfl ?_
        try simp only [Act.put, zA, zB, zC]
        refine TKC 5 104 rfl ?_
        try simp only [Act.put, zA, zB, zC]
        refine TKC 6 105 rfl ?_
        try simp only [Act.put, zA, zB, zC]
        refine TKC 7 106 rfl ?_
        try simp only [Act.put, zA, zB, zC]
        refine TKC 8 107 rfl ?_
        try simp only [Act.put, zA, zB, zC]
        refine wpAnyH_done (by kernel_rfl) ?_ _
        clear HS0
        go_wp2_with (first
          | (go_at_call 16; (with_reducible refine (open_any HF1.out).mono ?_); rintro e wo1 ⟨rfl, rfl⟩; rw [HOP.out])
          | (go_at_call 16; (with_reducible refine (open_any HF2.out).mono ?_); rintro e wo2 ⟨rfl, rfl⟩))
        go_ret
        exact ⟨by simp, HB⟩
    · by_cases hlt : k < l.length
      · have hend : (Value.iface 83 (.pointer (some ⟨N2, 0, none⟩)) = .nilIface → k = l.length) := fun e => by cases e
        obtain ⟨G1, G2, n1x, t1, h1, b1, n2x, t2, h2, b2, v2, L1, M, L2, P1, P2, hF1, hF2, hU, hV, hEq, hLn, hd⟩ := HPI.out.ends (by have := HLL.out; omega) HF1.out HBOX.out HD1.out hend
        rcases hd with ⟨_, e2, _⟩ | ⟨c, p, N1, N3, rfl, e2, bn1, bn2, hs1, hs2, hcb, hpb⟩
        · cases e2
        injection e2 with _ e2
        injection e2 with e2
        injection e2 with e2
        injection e2 with e2
        subst e2
        have BN1 := Lib.hid bn1
        have BN2 := Lib.hid bn2
        have HS1 := Lib.hid hs1
        have HS2 := Lib.hid hs2
        have HCB : Hid (-9223372036854775808 ≤ c ∧ c ≤ 9223372036854775807) := Lib.hid (by omega)
        have HPB := Lib.hid hpb
        have HOP : Hid (openB G1 = false) := Lib.hid (by unfold openB; rw [hs1]; rfl)
        have heq := eql_code
        clear bn1 bn2 hs1 hs2 hcb hpb
        replace HF1 := Lib.hid hF1
        have HF2 := Lib.hid hF2
        have HU := Lib.hid hU
        have HV := Lib.hid hV
        have HEQ := Lib.hid hEq
        have HLN := Lib.hid hLn
        clear hF1 hF2 hU hV hEq hLn HPI HD1 HBOX hend
        go_wp2_with (first
          | (go_at_call 15; go_must ((refine (alike_yes HU.out HV.out HEQ.out HLN.out).mono ?_); rintro e w8 ⟨rfl, hb⟩; replace HF1 := Lib.hid (HF1.out.later hb); replace HF2 := Lib.hid (HF2.out.later hb); replace HB := HB.trans (hb.mono HB.size); replace BN1 := Lib.hid (IBox.below BN1.out hb (IBox.lt BN1.out)); replace BN2 := Lib.hid (IBox.below BN2.out hb (IBox.lt BN2.out)); clear hb HU HV HEQ HLN)))
        refine wp_region_S (S := fun _ => True) (by kernel_rfl) (fun w9 hh => trivial) (fun w9 hh hbb HS0 => ?_)
        have hb := hbb w8.heap.size (Nat.le_refl _)
        replace HF1 := Lib.hid (HF1.out.later hb)
        replace HF2 := Lib.hid (HF2.out.later hb)
        replace HB := HB.trans (hb.mono HB.size)
        replace BN1 := Lib.hid (IBox.below BN1.out hb (IBox.lt BN1.out))
        replace BN2 := Lib.hid (IBox.below BN2.out hb (IBox.lt BN2.out))
        clear hh hbb hb
        refine TKC 0 99 rfl ?_
        try simp only [Act.put, zA, zB, zC]
        refine TKC 1 100 rfl ?_
        try simp only [Act.put, zA, zB, zC]
        refine TKC 2 101 rfl ?_
        try simp only [Act.put, zA, zB, zC]
        refine TKC 3 102 rfl ?_
        try simp only [Act.put, zA, zB, zC]
        refine TKC 4 103 rfl ?_
        try simp only [Act.put, zA, zB, zC]
        refine TKC 5 104 rfl ?_
        try simp only [Act.put, zA, zB, zC]
        refine TKC 6 105 rfl ?_
        try simp only [Act.put, zA, zB, zC]
        refine TKC 7 106 rfl ?_
        try simp only [Act.put, zA, zB, zC]
        refine TKC 8 107 rfl ?_
        try simp only [Act.put, zA, zB, zC]
        refine wpAnyH_done (by kernel_rfl) ?_ _
        clear HS0
        go_wp2_with (first
          | (go_at_call 14; (with_reducible refine (feed_shut HF1.out HS1.out).mono ?_); rintro e wx1 ⟨rfl, rfl⟩)
          | ((with_reducible refine is_slice ?_); refine wpl_slice_at 18 [(0, .int .u8 71), (1, .int .u8 69), (2, .int .u8 84), (3, .int .u8 32), (4, .int .u8 47), (5, .int .u8 32), (6, .int .u8 72), (7, .int .u8 84), (8, .int .u8 84), (9, .int .u8 80), (10, .int .u8 47), (11, .int .u8 49), (12, .int .u8 46), (13, .int .u8 49), (14, .int .u8 13), (15, .int .u8 10), (16, .int .u8 13), (17, .int .u8 10)] #[.int .u8 71, .int .u8 69, .int .u8 84, .int .u8 32, .int .u8 47, .int .u8 32, .int .u8 72, .int .u8 84, .int .u8 84, .int .u8 80, .int .u8 47, .int .u8 49, .int .u8 46, .int .u8 49, .int .u8 13, .int .u8 10, .int .u8 13, .int .u8 10] ie _ (by rw [hie3]; kernel_rfl) rfl 23 5 _ rfl rfl Tryz.underlying23 hie1 hie2 (by rw [hie3]; decide) (by rw [hie3]; decide) ?_; intro w12 hw; have hb := hid_grow hw; have B9 := (hid_alloc hw).1; have hbS := hb; clear hw hb)
          | ((with_reducible refine is_convert ?_); refine wpl_conv_row rfl (.tmp 125) rfl B9 rfl ?_; intro w13 hr hbC; have hb := hbS.trans hbC; clear B9 hbS hbC hr; replace HF1 := Lib.hid (HF1.out.later hb); replace HF2 := Lib.hid (HF2.out.later hb); replace HB := HB.trans (hb.mono HB.size); replace BN1 := Lib.hid (IBox.below BN1.out hb (IBox.lt BN1.out)); replace BN2 := Lib.hid (IBox.below BN2.out hb (IBox.lt BN2.out)); clear hb)
          | (go_at_call 14; (with_reducible refine (feed_shut HF2.out HS2.out).mono ?_); rintro e wx2 ⟨rfl, rfl⟩)
          | ((with_reducible refine is_invoke ?_); refine BigFrame.wpList_want (by kernel_rfl) fun K hK => ?_; refine op_invoke (.tmp 132) "Error" rfl (T := 83) (v := .pointer (some ⟨N1, 0, none⟩)) rfl _ (inv_fault _ _) (fault_text HCB.out HPB.out BN1.out ((HW.out.below HB).up HB.size)) (fun w14 hb => ?_); refine hK _ _ ?_; clear hK K; replace HF1 := Lib.hid (HF1.out.later hb); replace HF2 := Lib.hid (HF2.out.later hb); replace HB := HB.trans (hb.mono HB.size); replace BN1 := Lib.hid (IBox.below BN1.out hb (IBox.lt BN1.out)); replace BN2 := Lib.hid (IBox.below BN2.out hb (IBox.lt BN2.out)); clear hb)
          | ((with_reducible refine is_invoke ?_); refine BigFrame.wpList_want (by kernel_rfl) fun K hK => ?_; refine op_invoke (.tmp 134) "Error" rfl (T := 83) (v := .pointer (some ⟨N2, 0, none⟩)) rfl _ (inv_fault _ _) (fault_text HCB.out HPB.out BN2.out ((HW.out.below HB).up HB.size)) (fun w15 hb => ?_); refine hK _ _ ?_; clear hK K; replace HF1 := Lib.hid (HF1.out.later hb); replace HF2 := Lib.hid (HF2.out.later hb); replace HB := HB.trans (hb.mono HB.size); replace BN1 := Lib.hid (IBox.below BN1.out hb (IBox.lt BN1.out)); replace BN2 := Lib.hid (IBox.below BN2.out hb (IBox.lt BN2.out)); clear hb)
          | (go_at_call 16; (with_reducible refine (open_any HF1.out).mono ?_); rintro e wo1 ⟨rfl, rfl⟩; rw [HOP.out]))
        go_ret
        exact ⟨by simp, HB⟩
      · have hend : (Value.iface 83 (.pointer (some ⟨N2, 0, none⟩)) = .nilIface → k = l.length) := fun e => by cases e
        obtain ⟨G1, G2, n1x, t1, h1, b1, n2x, t2, h2, b2, v2, L1, M, L2, P1, P2, hF1, hF2, hU, hV, hEq, hLn, hd⟩ := HPI.out.ends (by have := HLL.out; omega) HF1.out HBOX.out HD1.out hend
        rcases hd with ⟨_, e2, _⟩ | ⟨c, p, N1, N3, rfl, e2, bn1, bn2, hs1, hs2, hcb, hpb⟩
        · cases e2
        injection e2 with _ e2
        injection e2 with e2
        injection e2 with e2
        injection e2 with e2
        subst e2
        have BN1 := Lib.hid bn1
        have BN2 := Lib.hid bn2
        have HS1 := Lib.hid hs1
        have HS2 := Lib.hid hs2
        have HCB : Hid (-9223372036854775808 ≤ c ∧ c ≤ 9223372036854775807) := Lib.hid (by omega)
        have HPB := Lib.hid hpb
        have HOP : Hid (openB G1 = false) := Lib.hid (by unfold openB; rw [hs1]; rfl)
        have heq := eql_code
        clear bn1 bn2 hs1 hs2 hcb hpb
        replace HF1 := Lib.hid hF1
        have HF2 := Lib.hid hF2
        have HU := Lib.hid hU
        have HV := Lib.hid hV
        have HEQ := Lib.hid hEq
        have HLN := Lib.hid hLn
        clear hF1 hF2 hU hV hEq hLn HPI HD1 HBOX hend
        go_wp2_with (first
          | (go_at_call 15; go_must ((refine (alike_yes HU.out HV.out HEQ.out HLN.out).mono ?_); rintro e w8 ⟨rfl, hb⟩; replace HF1 := Lib.hid (HF1.out.later hb); replace HF2 := Lib.hid (HF2.out.later hb); replace HB := HB.trans (hb.mono HB.size); replace BN1 := Lib.hid (IBox.below BN1.out hb (IBox.lt BN1.out)); replace BN2 := Lib.hid (IBox.below BN2.out hb (IBox.lt BN2.out)); clear hb HU HV HEQ HLN)))
        refine wp_region_S (S := fun _ => True) (by kernel_rfl) (fun w9 hh => trivial) (fun w9 hh hbb HS0 => ?_)
        have hb := hbb w8.heap.size (Nat.le_refl _)
        replace HF1 := Lib.hid (HF1.out.later hb)
        replace HF2 := Lib.hid (HF2.out.later hb)
        replace HB := HB.trans (hb.mono HB.size)
        replace BN1 := Lib.hid (IBox.below BN1.out hb (IBox.lt BN1.out))
        replace BN2 := Lib.hid (IBox.below BN2.out hb (IBox.lt BN2.out))
        clear hh hbb hb
        refine TKC 0 99 rfl ?_
        try simp only [Act.put, zA, zB, zC]
        refine TKC 1 100 rfl ?_
        try simp only [Act.put, zA, zB, zC]
        refine TKC 2 101 rfl ?_
        try simp only [Act.put, zA, zB, zC]
        refine TKC 3 102 rfl ?_
        try simp only [Act.put, zA, zB, zC]
        refine TKC 4 103 rfl ?_
        try simp only [Act.put, zA, zB, zC]
        refine TKC 5 104 rfl ?_
        try simp only [Act.put, zA, zB, zC]
        refine TKC 6 105 rfl ?_
        try simp only [Act.put, zA, zB, zC]
        refine TKC 7 106 rfl ?_
        try simp only [Act.put, zA, zB, zC]
        refine TKC 8 107 rfl ?_
        try simp only [Act.put, zA, zB, zC]
        refine wpAnyH_done (by kernel_rfl) ?_ _
        clear HS0
        go_wp2_with (first
          | (go_at_call 14; (with_reducible refine (feed_shut HF1.out HS1.out).mono ?_); rintro e wx1 ⟨rfl, rfl⟩)
          | ((with_reducible refine is_slice ?_); refine wpl_slice_at 18 [(0, .int .u8 71), (1, .int .u8 69), (2, .int .u8 84), (3, .int .u8 32), (4, .int .u8 47), (5, .int .u8 32), (6, .int .u8 72), (7, .int .u8 84), (8, .int .u8 84), (9, .int .u8 80), (10, .int .u8 47), (11, .int .u8 49), (12, .int .u8 46), (13, .int .u8 49), (14, .int .u8 13), (15, .int .u8 10), (16, .int .u8 13), (17, .int .u8 10)] #[.int .u8 71, .int .u8 69, .int .u8 84, .int .u8 32, .int .u8 47, .int .u8 32, .int .u8 72, .int .u8 84, .int .u8 84, .int .u8 80, .int .u8 47, .int .u8 49, .int .u8 46, .int .u8 49, .int .u8 13, .int .u8 10, .int .u8 13, .int .u8 10] ie _ (by rw [hie3]; kernel_rfl) rfl 23 5 _ rfl rfl Tryz.underlying23 hie1 hie2 (by rw [hie3]; decide) (by rw [hie3]; decide) ?_; intro w12 hw; have hb := hid_grow hw; have B9 := (hid_alloc hw).1; have hbS := hb; clear hw hb)
          | ((with_reducible refine is_convert ?_); refine wpl_conv_row rfl (.tmp 125) rfl B9 rfl ?_; intro w13 hr hbC; have hb := hbS.trans hbC; clear B9 hbS hbC hr; replace HF1 := Lib.hid (HF1.out.later hb); replace HF2 := Lib.hid (HF2.out.later hb); replace HB := HB.trans (hb.mono HB.size); replace BN1 := Lib.hid (IBox.below BN1.out hb (IBox.lt BN1.out)); replace BN2 := Lib.hid (IBox.below BN2.out hb (IBox.lt BN2.out)); clear hb)
          | (go_at_call 14; (with_reducible refine (feed_shut HF2.out HS2.out).mono ?_); rintro e wx2 ⟨rfl, rfl⟩)
          | ((with_reducible refine is_invoke ?_); refine BigFrame.wpList_want (by kernel_rfl) fun K hK => ?_; refine op_invoke (.tmp 132) "Error" rfl (T := 83) (v := .pointer (some ⟨N1, 0, none⟩)) rfl _ (inv_fault _ _) (fault_text HCB.out HPB.out BN1.out ((HW.out.below HB).up HB.size)) (fun w14 hb => ?_); refine hK _ _ ?_; clear hK K; replace HF1 := Lib.hid (HF1.out.later hb); replace HF2 := Lib.hid (HF2.out.later hb); replace HB := HB.trans (hb.mono HB.size); replace BN1 := Lib.hid (IBox.below BN1.out hb (IBox.lt BN1.out)); replace BN2 := Lib.hid (IBox.below BN2.out hb (IBox.lt BN2.out)); clear hb)
          | ((with_reducible refine is_invoke ?_); refine BigFrame.wpList_want (by kernel_rfl) fun K hK => ?_; refine op_invoke (.tmp 134) "Error" rfl (T := 83) (v := .pointer (some ⟨N2, 0, none⟩)) rfl _ (inv_fault _ _) (fault_text HCB.out HPB.out BN2.out ((HW.out.below HB).up HB.size)) (fun w15 hb => ?_); refine hK _ _ ?_; clear hK K; replace HF1 := Lib.hid (HF1.out.later hb); replace HF2 := Lib.hid (HF2.out.later hb); replace HB := HB.trans (hb.mono HB.size); replace BN1 := Lib.hid (IBox.below BN1.out hb (IBox.lt BN1.out)); replace BN2 := Lib.hid (IBox.below BN2.out hb (IBox.lt BN2.out)); clear hb)
          | (go_at_call 16; (with_reducible refine (open_any HF1.out).mono ?_); rintro e wo1 ⟨rfl, rfl⟩; rw [HOP.out]))
        go_ret
        exact ⟨by simp, HB⟩
end Go.Proofs.YtbehakabglegjaaGreatDoor
