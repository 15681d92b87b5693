/- Layer 9: messages that are alike are told to be so. Layer 9: a feed under changes elsewhere; messages put one behind the other; a fault's text. -/
import Derived.Test.YtbehakabglegjaaGreatDoorQ28
import Derived.Test.YtbehakabglegjaaGreatDoorQ01
import Derived.Test.YtbehakabglegjaaGreatDoorQ26
namespace Go.Proofs.YtbehakabglegjaaGreatDoor
open Go.RowKit Go.PlainAid
set_option linter.unusedVariables false
set_option linter.unusedSimpArgs false
theorem bt_text {w : World} {v : Value} {l : List UInt8} (h : BtAt w v l) : (convert 23 9 v).run Tryz.prog w = .ok (.string (txt l)) w := by
  obtain ⟨A, c, rfl, hc⟩ := h
  cases A with
  | none =>
    have : l = [] := by
      cases l with
      | nil => rfl
      | cons u r =>
        obtain ⟨b, off, e, _⟩ := hc 0 u rfl
        cases e
    subst this
    exact (run_convert_bytes_nil w 23 5 Tryz.underlying23 Tryz.underlying5 0 c 9 Tryz.underlying9).trans (by rfl)
  | some ad =>
    refine run_convert_bytes_back w 23 9 5 ad c l Tryz.underlying23 Tryz.underlying5 Tryz.underlying9 fun j hj => ?_
    obtain ⟨b, off, e, h1⟩ := hc j _ (List.getElem?_eq_getElem hj)
    obtain rfl : ad = ⟨b, off, none⟩ := Option.some.inj e
    have hadd : (⟨b, off, none⟩ : Addr).add j = ⟨b, off + j, none⟩ := by unfold Addr.add; split <;> simp_all
    rw [hadd]
    exact h1
/-- A message's rows can be read. -/
structure MgB (w : World) (x : Mm) : Prop where
  hd : HdAt w x.hs x.m.heads
  bt : BtAt w x.bd x.m.body
  hl : x.m.heads.length ≤ 140737488355328
theorem MgB.below {w w' : World} {x : Mm} (h : MgB w x) (hb : Below w.heap.size w w') : MgB w' x := ⟨h.hd.below hb, h.bt.bes (X := fun _ => False) (Bes.of_below hb) (fun _ _ z => z), h.hl⟩
theorem MgAt.b {w : World} {x : Mm} (h : MgAt w x) : MgB w x := ⟨h.hd, h.bt, h.hl⟩
theorem mm_b {w : World} {x : Mm} (h : IsMm w x) : MgB w x := ⟨h.1, h.2.1, Nat.le_trans h.2.2.2.1 (by decide)⟩
/-- Messages that can be read. -/
def MmsAt (w : World) (v : Value) (L : List Mm) : Prop := ∃ A c, v = .slice A L.length c ∧ ∀ (i : Nat) (x : Mm), L[i]? = some x → ∃ b off, A = some ⟨b, off, none⟩ ∧ w.rangeAt b (off + i * 6) x.cells.toList ∧ MgB w x
theorem range_later {w w' : World} {b o : Nat} {l : List Value} (hb : Below w.heap.size w w') (h : w.rangeAt b o l) : w'.rangeAt b o l := fun j v hv => cell_later hb (h j v hv)
theorem MmsAt.below {w w' : World} {v : Value} {L : List Mm} (h : MmsAt w v L) (hb : Below w.heap.size w w') : MmsAt w' v L := by
  obtain ⟨A, c, hv, hc⟩ := h
  refine ⟨A, c, hv, fun i x hx => ?_⟩
  obtain ⟨b, off, hA, h1, h2⟩ := hc i x hx
  exact ⟨b, off, hA, range_later hb h1, h2.below hb⟩
def ivN (v : Value) : Nat := match v with
  | .int _ i => i.toNat
  | _ => 0
theorem eqHd (a b c d : ByteArray) (w : World) : (Op.equalIn 10000 51 (.agg (hdA a b)) (.agg (hdA c d))).run Tryz.prog w = .ok (a.toList == c.toList && b.toList == d.toList) w := by
  have u3 := Tryz.underlying9
  have hS : Tryz.prog.underlying 51 = some (.struct (Tryz.prog.fieldsOf 51)) := by kernel_rfl
  unfold hdA
  rw [show (10000 : Nat) = 9999 + 1 from rfl, run_equalIn_agg w 9999 51 _ _ hS (by kernel_rfl)]
  simp only [Program.fieldsOf, Tryz.underlying51]
  go_simp
  by_cases h1 : a.toList = c.toList <;> by_cases h2 : b.toList = d.toList <;> simp [h1, h2]
theorem guardHd : Tryz.prog.eqGuardType Tryz.prog.depth 51 = false := by kernel_rfl
theorem hd_neq_same (x : ByteArray × ByteArray) (w : World) : (binOp .neq 51 (.agg (hdA x.1 x.2)) (.agg (hdA x.1 x.2))).run Tryz.prog w = .ok (.bool false) w := by
  rw [run_neq_struct, eqHd]
  simp [Result.andThen]
set_option maxRecDepth 100000 in
set_option maxHeartbeats 4000000 in
theorem same_yes {x y : Mm} {w : World} (hx : MgB w x) (hy : MgB w y) (hxy : x.m = y.m) :
    Calls Tryz.prog 19 #[.agg x.cells, .agg y.cells] w fun e w' => e = .returned (.bool true) ∧ Below w.heap.size w w' := by
  obtain ⟨⟨me, ta, sn, re, hd, bo⟩, hs, bd⟩ := x
  obtain ⟨m2, hs2, bd2⟩ := y
  simp only at hxy
  subst hxy
  obtain ⟨xA, xc, hxs, _⟩ := id hx.hd
  obtain ⟨yA, yc, hys, _⟩ := id hy.hd
  obtain ⟨bA, bc, hxb, _⟩ := id hx.bt
  obtain ⟨dA, dc, hyb, _⟩ := id hy.bt
  dsimp only at hxs hys hxb hyb
  subst hxs hys hxb hyb
  have HX := Lib.hid hx
  have HY := Lib.hid hy
  have HL : Hid (hd.length ≤ 140737488355328) := Lib.hid hx.hl
  have hc1 : Mm.cells ⟨⟨me, ta, sn, re, hd, bo⟩, .slice xA hd.length xc, .slice bA bo.length bc⟩ = #[.string me, .string ta, .int .i64 sn, .string re, .slice xA hd.length xc, .slice bA bo.length bc] := rfl
  have hc2 : Mm.cells ⟨⟨me, ta, sn, re, hd, bo⟩, .slice yA hd.length yc, .slice dA bo.length dc⟩ = #[.string me, .string ta, .int .i64 sn, .string re, .slice yA hd.length yc, .slice dA bo.length dc] := rfl
  rw [hc1, hc2]
  clear hx hy hc1 hc2
  go_enter Tryz.func19, Tryz.ntmps19
  go_wp2_with (first
    | (refine wpl_box_at rfl 25 (.tmp 0) rfl _ rfl ?_; intro w1 hw; have B1 := hid_alloc0 hw; have HB := hid_grow hw; have HZ : Hid (w1.heap.size = w.heap.size + 1) := Lib.hid (hid_alloc hw).2.1; clear hw)
    | (refine wpl_box_at rfl 25 (.tmp 1) rfl _ rfl ?_; intro w2 hw; have B2 := hid_alloc0 hw; rw [HZ.out] at B2 ⊢; have hb := hid_grow hw; replace B1 := IBox.below B1 hb (IBox.lt B1); replace HB := HB.trans (hb.mono HB.size); clear hw hb; have k1 := bt_text (HX.out.below HB).bt; have k2 := bt_text (HY.out.below HB).bt; dsimp only at k1 k2; have c0 : w2.cell? ⟨w.heap.size, 0, none⟩ = some (.string me) := B1.cell 0; have d0 : w2.cell? ⟨w.heap.size + 1, 0, none⟩ = some (.string me) := B2.cell 0; have c1 : w2.cell? ⟨w.heap.size, 1, none⟩ = some (.string ta) := B1.cell 1; have d1 : w2.cell? ⟨w.heap.size + 1, 1, none⟩ = some (.string ta) := B2.cell 1; have c2 : w2.cell? ⟨w.heap.size, 2, none⟩ = some (.int .i64 sn) := B1.cell 2; have d2 : w2.cell? ⟨w.heap.size + 1, 2, none⟩ = some (.int .i64 sn) := B2.cell 2; have c3 : w2.cell? ⟨w.heap.size, 3, none⟩ = some (.string re) := B1.cell 3; have d3 : w2.cell? ⟨w.heap.size + 1, 3, none⟩ = some (.string re) := B2.cell 3; have c4 : w2.cell? ⟨w.heap.size, 4, none⟩ = some (.slice xA hd.length xc) := B1.cell 4; have d4 : w2.cell? ⟨w.heap.size + 1, 4, none⟩ = some (.slice yA hd.length yc) := B2.cell 4; have c5 : w2.cell? ⟨w.heap.size, 5, none⟩ = some (.slice bA bo.length bc) := B1.cell 5; have d5 : w2.cell? ⟨w.heap.size + 1, 5, none⟩ = some (.slice dA bo.length dc) := B2.cell 5))
  clear k1 k2 c0 d0 c1 d1 c2 d2 c3 d3 c4 d4 c5 d5
  go_loopw [5] (fun iv wr => ∃ i : Nat, iv = .int .i64 (i : Int) ∧ i ≤ hd.length ∧ IBox wr w.heap.size 25 #[.string me, .string ta, .int .i64 sn, .string re, .slice xA hd.length xc, .slice bA bo.length bc] ∧ IBox wr (w.heap.size + 1) 25 #[.string me, .string ta, .int .i64 sn, .string re, .slice yA hd.length yc, .slice dA bo.length dc] ∧ Below w.heap.size w wr) (fun iv _ => match iv with | .int _ i => (hd.length - i.toNat) | _ => 0)
  case atStart => exact ⟨0, rfl, Nat.zero_le _, B1, B2, HB⟩
  case round =>
    clear HB B1 B2
    obtain ⟨i, rfl, hi, B1, B2, HB⟩ := hrel
    have hl1 := HL.out
    have c4 : wr.cell? ⟨w.heap.size, 4, none⟩ = some (.slice xA hd.length xc) := B1.cell 4
    by_cases hlt : i < hd.length
    · obtain ⟨p, hp⟩ : ∃ p, hd[i]? = some p := ⟨_, List.getElem?_eq_getElem hlt⟩
      obtain ⟨A2, c2, hv2, hcu⟩ := HX.out.hd.below HB
      obtain ⟨gu, ou, hA2, e1, e2⟩ := hcu i p hp
      injection hv2 with v1 v2 v3
      clear v2 v3
      subst v1
      subst hA2
      obtain ⟨A3, c3, hv3, hcv⟩ := HY.out.hd.below HB
      obtain ⟨gv, ov, hA3, e3, e4⟩ := hcv i p hp
      injection hv3 with v1 v2 v3
      clear v2 v3
      subst v1
      subst hA3
      clear hcu hcv
      have r1 : wr.rangeAt gu (ou + i * 2) (hdA p.1 p.2).toList := row_two e1 e2
      have r2 : wr.rangeAt gv (ov + i * 2) (hdA p.1 p.2).toList := row_two e3 e4
      clear e1 e2 e3 e4 hp
      have HEQV : Hid (∀ w, (binOp .neq 51 (.agg (hdA p.1 p.2)) (.agg (hdA p.1 p.2))).run Tryz.prog w = .ok (.bool false) w) := Lib.hid (hd_neq_same p)
      go_wp2
      refine wp_region_S (S := fun w' => w'.cell? ⟨w.heap.size, 4, none⟩ = some (.slice (some ⟨gu, ou, none⟩) hd.length xc) ∧ w'.cell? ⟨w.heap.size + 1, 4, none⟩ = some (.slice (some ⟨gv, ov, none⟩) hd.length yc) ∧ w'.rangeAt gu (ou + i * 2) (hdA p.1 p.2).toList ∧ w'.rangeAt gv (ov + i * 2) (hdA p.1 p.2).toList) (by kernel_rfl) (fun w2 hh => ⟨(box_heap hh B1).cell 4, (box_heap hh B2).cell 4, rangeAt_heap hh r1, rangeAt_heap hh r2⟩) (fun w2 hh hbb HS0 => ?_)
      replace HB := HB.trans ((hbb _ (Nat.le_refl _)).mono HB.size)
      replace B1 := box_heap hh B1
      replace B2 := box_heap hh B2
      clear hh hbb r1 r2 c4
      refine TKC 0 57 rfl ?_
      try simp only [Act.put, zA, zB, zC]
      refine TKC 1 58 rfl ?_ (by (intro w hSw; (try dsimp only at hSw); have q1 := hSw.1; go_simp; try with_reducible rfl))
      try simp only [Act.put, zA, zB, zC]
      refine TKC 2 59 rfl ?_
      try simp only [Act.put, zA, zB, zC]
      refine TKC 3 60 rfl ?_
      try simp only [Act.put, zA, zB, zC]
      refine TKY 4 61 rfl (yields_rowS (by kernel_rfl) 51 (.tmp 60) rfl gu (ou + i * 2) rfl (hdA p.1 p.2) _ (fun w' hS => hS.2.2.1) Tryz.underlying51 rfl info_hd2) ?_
      try simp only [Act.put, zA, zB, zC]
      refine TKC 5 62 rfl ?_
      try simp only [Act.put, zA, zB, zC]
      refine TKC 6 63 rfl ?_ (by (intro w hSw; (try dsimp only at hSw); have q1 := hSw.2.1; go_simp; try with_reducible rfl))
      try simp only [Act.put, zA, zB, zC]
      refine TKC 7 64 rfl ?_
      try simp only [Act.put, zA, zB, zC]
      refine TKC 8 65 rfl ?_
      try simp only [Act.put, zA, zB, zC]
      refine TKY 9 66 rfl (yields_rowS (by kernel_rfl) 51 (.tmp 65) rfl gv (ov + i * 2) rfl (hdA p.1 p.2) _ (fun w' hS => hS.2.2.2) Tryz.underlying51 rfl info_hd2) ?_
      try simp only [Act.put, zA, zB, zC]
      refine TKC 10 67 (v := .bool false) rfl ?_ (by (intro w hSw; (try dsimp only at hSw); have q1 := HEQV.out; have q2 := guardHd; go_simp; try with_reducible rfl))
      try simp only [Act.put, zA, zB, zC]
      refine wpAnyH_done (by kernel_rfl) ?_ _
      clear HS0
      go_wp2
      go_roundw
      case rel => first | exact ⟨i + 1, rfl, by omega, B1, B2, HB⟩ | ((repeat apply Exists.intro); exact ⟨⟨i + 1, rfl, by omega, B1, B2, HB⟩, rfl⟩)
      case measure => (simp only; omega)
    · obtain rfl : i = hd.length := by omega
      clear hlt hi
      go_wp2
      go_ret
      exact ⟨rfl, HB⟩
set_option maxRecDepth 100000 in
set_option maxHeartbeats 4000000 in
theorem alike_yes {u v : Value} {L M : List Mm} {w : World} (hu : MmsAt w u L) (hv : MmsAt w v M) (he : L.map (·.m) = M.map (·.m)) (hl : L.length ≤ 140737488355328) :
    Calls Tryz.prog 15 #[u, v] w fun e w' => e = .returned (.bool true) ∧ Below w.heap.size w w' := by
  obtain ⟨uA, uc, rfl, _⟩ := id hu
  obtain ⟨vA, vc, rfl, _⟩ := id hv
  have HU := Lib.hid hu
  have HV := Lib.hid hv
  have HL := Lib.hid hl
  have hlen : L.length = M.length := by have := congrArg List.length he; simpa using this
  have HE : Hid (∀ (i : Nat) (x y : Mm), L[i]? = some x → M[i]? = some y → x.m = y.m) := Lib.hid (fun i x y h1 h2 => by
    have h := congrArg (fun l => l[i]?) he
    simp only [List.getElem?_map, h1, h2, Option.map_some] at h
    exact Option.some.inj h)
  have HB := Below.refl w.heap.size w
  have hll : ((L.length : Int) != (M.length : Int)) = false := by rw [bne_eq_false_iff_eq]; omega
  have HLE := Lib.hid hlen
  clear hu hv hl he hlen
  go_enter Tryz.func15, Tryz.ntmps15
  go_wp2
  go_loopw [5] (fun iv wr => ∃ i : Nat, iv = .int .i64 (i : Int) ∧ i ≤ L.length ∧ Below w.heap.size w wr) (fun iv _ => L.length - ivN iv)
  case atStart => exact ⟨0, rfl, Nat.zero_le _, HB⟩
  case round =>
    clear HB
    obtain ⟨i, rfl, hi, HB⟩ := hrel
    have hl1 := HL.out
    by_cases hlt : i < L.length
    · obtain ⟨x, hx⟩ : ∃ x, L[i]? = some x := ⟨_, List.getElem?_eq_getElem hlt⟩
      have hltm : i < M.length := by have := HLE.out; omega
      obtain ⟨y, hy⟩ : ∃ y, M[i]? = some y := ⟨_, List.getElem?_eq_getElem hltm⟩
      obtain ⟨A2, c2, hv2, hcu⟩ := HU.out.below HB
      obtain ⟨gu, ou, hA2, r1, m1⟩ := hcu i x hx
      injection hv2 with v1 v2 v3
      clear v2 v3
      subst v1
      subst hA2
      obtain ⟨A3, c3, hv3, hcv⟩ := HV.out.below HB
      obtain ⟨gv, ov, hA3, r2, m2⟩ := hcv i y hy
      injection hv3 with v1 v2 v3
      clear v2 v3
      subst v1
      subst hA3
      have hiI : (i : Int) < (L.length : Int) := by omega
      have hiJ : (i : Int) < (M.length : Int) := by omega
      have HSM : Hid (∀ wx, Below wr.heap.size wr wx → Calls Tryz.prog 19 #[.agg x.cells, .agg y.cells] wx fun e w' => e = .returned (.bool true) ∧ Below wx.heap.size wx w') := Lib.hid (fun wx hb => same_yes (m1.below hb) (m2.below hb) (HE.out i x y hx hy))
      have hs1 : (Tryz.prog.info? 25).map (·.size) = some x.cells.size := info_msg
      have hs2 : (Tryz.prog.info? 25).map (·.size) = some y.cells.size := info_msg
      generalize x.cells = xs at r1 HSM hs1
      generalize y.cells = ys at r2 HSM hs2
      clear hcu hcv hx hy m1 m2
      go_wp2
      refine wp_region_S (S := fun w' => w'.rangeAt gu (ou + i * 6) xs.toList ∧ w'.rangeAt gv (ov + i * 6) ys.toList) (by kernel_rfl) (fun w2 hh => ⟨rangeAt_heap hh r1, rangeAt_heap hh r2⟩) (fun w2 hh hbb HS0 => ?_)
      have HBR := hbb _ (Nat.le_refl _)
      replace HB := HB.trans (HBR.mono HB.size)
      clear hh hbb r1 r2
      refine TKC 0 18 rfl ?_
      try simp only [Act.put, zA, zB, zC]
      refine TKC 1 19 rfl ?_
      try simp only [Act.put, zA, zB, zC]
      refine TKC 2 20 rfl ?_
      try simp only [Act.put, zA, zB, zC]
      refine TKY 3 21 rfl (yields_rowS (by kernel_rfl) 25 (.tmp 20) rfl gu (ou + i * 6) rfl xs _ (fun w' hS => hS.1) Tryz.underlying25 rfl hs1) ?_
      try simp only [Act.put, zA, zB, zC]
      refine TKC 4 22 rfl ?_
      try simp only [Act.put, zA, zB, zC]
      refine TKC 5 23 rfl ?_
      try simp only [Act.put, zA, zB, zC]
      refine TKC 6 24 rfl ?_
      try simp only [Act.put, zA, zB, zC]
      refine TKY 7 25 rfl (yields_rowS (by kernel_rfl) 25 (.tmp 24) rfl gv (ov + i * 6) rfl ys _ (fun w' hS => hS.2) Tryz.underlying25 rfl hs2) ?_
      try simp only [Act.put, zA, zB, zC]
      refine wpAnyH_ready (rs := [8]) (by kernel_rfl) (by simp) ?_
      refine AllReadyH.cons (o := ⟨some 26, _, _, _, _, _⟩) rfl (fun K hK => ?_) AllReadyH.nil
      go_simp
      (go_at_call 19; (with_reducible refine (HSM.out _ HBR).mono ?_); rintro e w3 ⟨rfl, hb⟩)
      replace HB := HB.trans (hb.mono HB.size)
      replace HS0 : w3.rangeAt gu (ou + i * 6) xs.toList ∧ w3.rangeAt gv (ov + i * 6) ys.toList := ⟨range_later hb HS0.1, range_later hb HS0.2⟩
      refine hK.out _ _ HS0 (fun hS2 => ?_)
      clear hK K hS2
      try simp only [Act.put, zA, zB, zC]
      refine TKC 9 6 rfl ?_
      try simp only [Act.put, zA, zB, zC]
      refine wpAnyH_done (by kernel_rfl) ?_ _
      clear HS0
      go_wp2
      go_roundw
      case rel => first | exact ⟨i + 1, rfl, by omega, HB⟩ | ((repeat apply Exists.intro); refine ⟨?_, rfl⟩; exact ⟨i + 1, rfl, by omega, HB⟩)
      case measure => (show L.length - ((i : Int) + 1).toNat < L.length - (i : Int).toNat; omega)
    · obtain rfl : i = L.length := by omega
      clear hlt hi
      go_wp2
      go_ret
      exact ⟨rfl, HB⟩
end Go.Proofs.YtbehakabglegjaaGreatDoor
namespace Go.Proofs.YtbehakabglegjaaGreatDoor
open Go.RowKit Go.PlainAid
set_option linter.unusedVariables false
set_option linter.unusedSimpArgs false
section
variable {base : Bs} {g : Nat} {F : Fs} {nx tk hs bd wh : Value} {L : List Mm} {w w' : World}
theorem FdM.bes {X : Nat → Prop} (h : FdM base g F nx tk hs bd wh L w) (hb : Bes X w w') (hX : ∀ q, X q → ¬ Live g tk hs bd wh q) (hm : ∀ x ∈ L, MOff X x) : FdM base g F nx tk hs bd wh L w' :=
  ⟨Bes.box hb h.1 (fun x => hX g x (.inl rfl)), ⟨⟨h.2.gl.1, Nat.lt_of_lt_of_le h.2.gl.2 hb.size⟩, Bes.own hb h.2.rt (fun k e x => hX k x (.inr (.inl e))), Bes.own hb h.2.rh (fun k e x => hX k x (.inr (.inr (.inl e)))), Bes.own hb h.2.rb (fun k e x => hX k x (.inr (.inr (.inr (.inl e))))), Bes.own hb h.2.rw_ (fun k e x => hX k x (.inr (.inr (.inr (.inr e))))), h.2.wl, h.2.ap,
    fun x hx => ⟨(h.2.ms x hx).1.bes hb (hm x hx), (h.2.ms x hx).2⟩, h.2.off, fun q e => Nat.lt_of_lt_of_le (h.2.avl q e) hb.size⟩⟩
/-- With other blocks that are to be let be. -/
theorem FdM.lets {n : Nat} {P av : Nat → Prop} (h : FdM ⟨n, P⟩ g F nx tk hs bd wh L w) (hav : ∀ q, av q → q < w.heap.size ∧ ¬ Live g tk hs bd wh q) : FdM ⟨n, av⟩ g F nx tk hs bd wh L w :=
  ⟨h.1, h.2.gl, h.2.rt, h.2.rh, h.2.rb, h.2.rw_, h.2.wl, h.2.ap, h.2.ms, fun q hl ha => (hav q ha).2 hl, fun q ha => (hav q ha).1⟩
theorem Bl.as_bes {X : Nat → Prop} {n : Nat} {av : Nat → Prop} (h : Bl ⟨n, av⟩ w w') (hX : ∀ q, q < w.heap.size → ¬ X q → av q) : Bes X w w' :=
  ⟨h.b.os, h.b.tape, h.b.output, h.b.size, fun k hk hn => h.k k (hX k hk hn)⟩
theorem mmsL_get : ∀ {L : List Mm} {i : Nat} {x : Mm}, L[i]? = some x → ∀ j v, x.cells.toList[j]? = some v → (mmsL L)[i * 6 + j]? = some v
  | [], i, x, h, _, _, _ => by simp at h
  | y :: r, 0, x, h, j, v, hv => by
    obtain rfl : y = x := by simpa using h
    have e : mmsL (y :: r) = y.cells.toList ++ mmsL r := rfl
    have hj : j < y.cells.toList.length := (List.getElem?_eq_some_iff.1 hv).1
    rw [e, Nat.zero_mul, Nat.zero_add, List.getElem?_append_left hj]
    exact hv
  | y :: r, i + 1, x, h, j, v, hv => by
    have h2 : r[i]? = some x := by simpa using h
    have e : mmsL (y :: r) = y.cells.toList ++ mmsL r := rfl
    have hl : y.cells.toList.length = 6 := rfl
    rw [e, List.getElem?_append_right (by rw [hl]; omega), hl, show (i + 1) * 6 + j - 6 = i * 6 + j by omega]
    exact mmsL_get h2 j v hv
theorem mms_row {n : Nat} {v : Value} (h : w.ownsRow n 25 6 v L.length (mmsL L)) (hm : ∀ x ∈ L, MgB w x) : MmsAt w v L := by
  obtain ⟨A, c, hv, hc⟩ := own_slice h
  refine ⟨A, c, hv, fun i x hx => ?_⟩
  obtain ⟨b, hA, _⟩ := hc (i * 6 + 0) (.string x.m.meth) (mmsL_get hx 0 _ rfl)
  refine ⟨b, 0, hA, fun j u hu => ?_, hm x (List.mem_of_getElem? hx)⟩
  obtain ⟨b2, hA2, hw⟩ := hc (i * 6 + j) u (mmsL_get hx j u hu)
  obtain rfl : b = b2 := by rw [hA] at hA2; injection hA2 with e; injection e
  rw [Nat.zero_add]
  exact hw
theorem FdM.mms (h : FdM base g F nx tk hs bd wh L w) : MmsAt w wh L := mms_row h.2.rw_ (fun x hx => mm_b (h.2.ms x hx).1)
theorem ty_off {v : Value} {T T2 : TypeId} {q : Nat} {arr : Array Value} {fz : Nat × Nat} (h : TyB w v T) (hq : w.heap[q]? = some (.cells arr T2 fz)) (hne : T ≠ T2) : v.ownBlock ≠ some q := fun e => by
  obtain ⟨a2, f2, h2⟩ := h q e
  rw [h2] at hq
  injection hq with hq
  injection hq with _ hq _
  exact hne hq
/-- A message lies apart from blocks of another type. -/
theorem mm_off {X : Nat → Prop} {x : Mm} {T : TypeId} (h : IsMm w x) (hX : ∀ q, X q → ∃ arr fz, w.heap[q]? = some (.cells arr T fz)) (h1 : T ≠ 51) (h2 : T ≠ 5) : MOff X x :=
  ⟨fun q e y => by
    obtain ⟨arr, fz, hq⟩ := hX q y
    exact ty_off h.2.2.2.2.2.1 hq (Ne.symm h1) e, fun q e y => by
    obtain ⟨arr, fz, hq⟩ := hX q y
    exact ty_off h.2.2.2.2.2.2.1 hq (Ne.symm h2) e⟩
end
theorem mg_info : ∃ i, Tryz.prog.info? 25 = some i ∧ i.zero = some (.agg zeroM) ∧ i.size = 6 ∧ i.bytes = 104 := by
  have h : (Tryz.prog.info? 25).map (fun i => (i.zero, i.size, i.bytes)) = some (some (.agg zeroM), 6, 104) := by kernel_rfl
  obtain ⟨i, h1, h2⟩ := Option.map_eq_some_iff.1 h
  injection h2 with h2 h3
  injection h3 with h3 h4
  exact ⟨i, h1, h2, h3, h4⟩
theorem mmr_one : ∀ (L : List Mm), (∀ x ∈ L, (∃ A n c, x.hs = .slice A n c) ∧ ∃ A n c, x.bd = .slice A n c) → ∀ u ∈ mmsL L, u.oneCell' = true
  | [], _, u, h => by cases h
  | x :: r, hx, u, h => by
    have e : mmsL (x :: r) = x.cells.toList ++ mmsL r := rfl
    rw [e] at h
    rcases List.mem_append.1 h with h | h
    · obtain ⟨⟨A, n, c, e1⟩, ⟨A2, n2, c2, e2⟩⟩ := hx x (List.mem_cons_self ..)
      unfold Mm.cells at h
      rw [e1, e2] at h
      simp at h
      rcases h with rfl | rfl | rfl | rfl | rfl | rfl <;> rfl
    · exact mmr_one r (fun y hy => hx y (List.mem_cons_of_mem _ hy)) u h
theorem mmsL_len : ∀ (L : List Mm), (mmsL L).length = L.length * 6
  | [] => rfl
  | x :: r => by
    have e : mmsL (x :: r) = x.cells.toList ++ mmsL r := rfl
    rw [e, List.length_append, mmsL_len r, List.length_cons, show x.cells.toList.length = 6 from rfl]
    omega
section
variable {ops : Array Oper} {rest : List Oper} {o : Oper} {a : Act} {w : World} {Q : Exit → Act → World → Prop}
theorem run_app_nothing (t ty : TypeId) (ht : Tryz.prog.underlying t = some (.slice 25)) (A : Option Addr) (n cap c : Nat) (hn : n ≤ cap) : (Builtin.append_ #[t, t] ty #[.slice A n cap, .slice none 0 c]).run Tryz.prog w = .ok (.slice A n cap) w := by
  obtain ⟨ie, h1, h2, h3, h4⟩ := mg_info
  have hf := run_firstCells_none (P := Tryz.prog) w 6 0 0 c
  cases A <;> simp [Builtin.append_, run_underlying ht, sizeOf, typeInfo, h1, h3, Builtin.lenOf, hn, hf, storeCells]
theorem own_cap {w : World} {base : Nat} {E : TypeId} {size n cap : Nat} {A : Option Addr} {xs : List Value} {k : Nat} (h : w.ownsRow base E size (.slice A n cap) k xs) : n ≤ cap := by
  rcases h.2 with ⟨hv, h0⟩ | ⟨g, cp, cur, hv, _, _, hn, _⟩
  · injection hv with _ e2 e3; omega
  · injection hv with _ e2 e3; omega
/-- A row of messages put behind the call's own. -/
theorem wpl_app_mms (hgd : o.guard = none) (s x : Operand) (t : TypeId) (ho : o.op = .call { callee := .builtin .append, args := #[s, x], argTypes := #[t, t] }) (ht : Tryz.prog.underlying t = some (.slice 25)) {base : Nat} {v : Value} {M : List Mm} (hs : a.eval s = v) (hown : w.ownsRow base 25 6 v M.length (mmsL M))
    {u : Value} {n2 : Nat} {K : List Mm} (hx : a.eval x = u) (hu : w.ownsRow n2 25 6 u K.length (mmsL K)) (h1 : ∀ x ∈ K, (∃ A n c, x.hs = .slice A n c) ∧ ∃ A n c, x.bd = .slice A n c) (hl : M.length + K.length ≤ 1099511627776) (hbase : base ≤ w.heap.size)
    (hQ : ∀ v' w', w'.ownsRow base 25 6 v' (M ++ K).length (mmsL (M ++ K)) → Bes (fun q => v.ownBlock = some q) w w' → (v'.ownBlock = v.ownBlock ∨ v'.ownBlock = some w.heap.size) → wpList Tryz.prog ops Q rest (a.put o.dst v') w') : wpList Tryz.prog ops Q (o :: rest) a w := by
  obtain ⟨ie, i1, i2, i3, i4⟩ := mg_info
  obtain ⟨A, c, rfl, hc⟩ := own_slice hu
  have hlen : (M ++ K).length = M.length + K.length := List.length_append
  cases A with
  | none =>
    have hK : K = [] := by
      cases K with
      | nil => rfl
      | cons y r =>
        obtain ⟨b, e, _⟩ := hc 0 (.string y.m.meth) rfl
        cases e
    subst hK
    obtain ⟨A, cp, rfl, _⟩ := own_slice hown
    refine wpList_plain hgd fun _ hK => ?_
    have hr := run_app_nothing (w := w) t o.type ht A M.length cp c (own_cap hown)
    unfold Oper.wp execOp
    simp only [ho, resolve, invoke, builtin, Sem.run_bind, Sem.run_pure, Result.andThen_ok, List.map_toArray, List.map_cons, List.map_nil, hs, hx]
    rw [show ([] : List Mm).length = 0 from rfl, hr]
    exact hK _ _ (hQ _ _ (by rw [List.append_nil]; exact hown) (Bes.of_below (Below.refl _ _)) (.inl rfl))
  | some ad =>
    refine wpList_append_own_at w hgd s x t ho base 25 ie (.agg zeroM) 6 104 ht i1 i2 i3 i4 rfl (by decide) v M.length (mmsL M) hs hown ad K.length c (mmsL K) hx (mmsL_len K) (fun j z hz => ?_) (mmr_one K h1) (by unfold maxLen; omega) (by omega) hbase ?_
    · obtain ⟨b, e, hw⟩ := hc j z hz
      obtain rfl : ad = ⟨b, 0, none⟩ := Option.some.inj e
      have hadd : (⟨b, 0, none⟩ : Addr).add j = ⟨b, j, none⟩ := by unfold Addr.add; split <;> simp_all
      rw [hadd]
      exact hw
    · intro v' w' k1 k2 k3 k4
      exact hQ v' w' (by rw [hlen, mmsL_app]; exact k1) (Bes.grown (X := fun q => v.ownBlock = some q) k2 (fun _ e => e)) k4
/-- A method of an error's. -/
theorem op_invoke {K : Act → World → Prop} (x : Operand) (name : String) (ho : o.op = .call { callee := .invoke x name, args := #[], argTypes := #[] }) {T : TypeId} {v : Value} (hx : a.eval x = .iface T v) (f : FuncId) (hi : (invoke (.fn (.method name) #[]) #[.iface T v]).run Tryz.prog w = .ok (.enter f #[v]) w)
    {u : Value} {R : World → Prop} (hc : Calls Tryz.prog f #[v] w fun e w' => e = .returned u ∧ R w') (hK : ∀ w', R w' → K (a.put o.dst u) w') : o.wp Tryz.prog a w K Q := by
  unfold Oper.wp
  have e : (execOp a.eval o).run Tryz.prog w = .ok (.enter f #[v]) w := by
    unfold execOp
    simp only [ho, resolve, Sem.run_bind, Sem.run_pure, Result.andThen_ok, List.map_toArray, List.map_nil, hx]
    exact hi
  rw [e, Oper.upon_enter]
  refine hc.mono ?_
  rintro e w' ⟨rfl, hr⟩
  exact hK w' hr
end
theorem inv_fault (x : Value) (w : World) : (invoke (.fn (.method "Error") #[]) #[.iface 83 x]).run Tryz.prog w = .ok (.enter 178 #[x]) w := by kernel_rfl
theorem inv_code (x : Value) (w : World) : (invoke (.fn (.method "Error") #[]) #[.iface 31 x]).run Tryz.prog w = .ok (.enter 177 #[x]) w := by kernel_rfl
/-- What a fault says. -/
def codeT (k : Int) : ByteArray := (⟨#[99, 111, 118, 101, 121, 58, 32, 101, 114, 114, 111, 114, 32]⟩ : ByteArray) ++ txt (Lib.itoa k)
def faultT (k : Int) (p : Nat) : ByteArray := (txt (Lib.itoa (p : Int)) ++ (⟨#[58, 32]⟩ : ByteArray)) ++ codeT k
set_option maxRecDepth 100000 in
set_option maxHeartbeats 2000000 in
theorem code_text {k : Int} {w : World} (hk : -9223372036854775808 ≤ k ∧ k ≤ 9223372036854775807) (hw : Wh w w.heap.size) : Calls Tryz.prog 177 #[.int .i64 k] w fun e w' => e = .returned (.string (codeT k)) ∧ Below w.heap.size w w' := by
  have HL : Hid ((Lib.itoa k).length ≤ 20) := Lib.hid (itoa_len hk)
  have HW := Lib.hid hw
  have HK := Lib.hid hk
  have hn1 : ¬ 9223372036854775807 < 13 + (txt (Lib.itoa k)).size := by have := HL.out; rw [txt_size]; omega
  have HB := Below.refl w.heap.size w
  clear hw hk
  go_enter Tryz.func177, Tryz.ntmps177
  go_wp2_with (first
    | (go_at_call 37; (refine (itoa_any HK.out (HW.out.at HB)).mono ?_); rintro e w10 ⟨rfl, hb⟩; replace HB := HB.trans (hb.mono HB.size); clear hb))
  go_ret
  exact ⟨rfl, HB⟩
set_option maxRecDepth 100000 in
set_option maxHeartbeats 4000000 in
theorem fault_text {k : Int} {p N : Nat} {w : World} (hk : -9223372036854775808 ≤ k ∧ k ≤ 9223372036854775807) (hp : p ≤ 9223372036854775807) (hF : IBox w N 85 (FaultA p k)) (hw : Wh w w.heap.size) : Calls Tryz.prog 178 #[.pointer (some ⟨N, 0, none⟩)] w fun e w' => e = .returned (.string (faultT k p)) ∧ Below w.heap.size w w' := by
  have HP : Hid (-9223372036854775808 ≤ (p : Int) ∧ (p : Int) ≤ 9223372036854775807) := Lib.hid (by omega)
  have HL : Hid ((Lib.itoa (p : Int)).length ≤ 20) := Lib.hid (itoa_len HP.out)
  have HL2 : Hid ((codeT k).size ≤ 33) := Lib.hid (by have := itoa_len hk; unfold codeT; rw [ByteArray.size_append, txt_size]; show 13 + _ ≤ _; omega)
  have HW := Lib.hid hw
  have HK := Lib.hid hk
  have hn1 : ¬ 9223372036854775807 < (txt (Lib.itoa (p : Int))).size + 2 := by have := HL.out; rw [txt_size]; omega
  have hn2 : ¬ 9223372036854775807 < (txt (Lib.itoa (p : Int))).size + 2 + (codeT k).size := by have := HL.out; have := HL2.out; rw [txt_size]; omega
  have HFT : Hid ((txt (Lib.itoa (p : Int)) ++ (⟨#[58, 32]⟩ : ByteArray)) ++ codeT k = faultT k p) := Lib.hid rfl
  have HB := Below.refl w.heap.size w
  have HC : Hid (∀ w', Below w.heap.size w w' → Calls Tryz.prog 177 #[.int .i64 k] w' fun e w'' => e = .returned (.string (codeT k)) ∧ Below w'.heap.size w' w'') := Lib.hid fun w' hb => code_text HK.out ((HW.out.below hb).up hb.size)
  have c0 : w.cell? ⟨N, 0, none⟩ = some (.int .i64 p) := hF.cell 0
  have c1 : w.cell? ⟨N, 1, none⟩ = some (.iface 31 (.int .i64 k)) := hF.cell 1
  have BF := Lib.hid hF
  generalize hpt : txt (Lib.itoa (p : Int)) = pt at hn1 hn2 HFT
  have PTE := Lib.hid hpt
  clear hpt
  generalize codeT k = ct at hn2 HFT HC
  clear hw hk hp hF HL HL2
  go_enter Tryz.func178, Tryz.ntmps178
  go_wp2
  refine wp_region_S (S := fun w' => w'.cell? ⟨N, 0, none⟩ = some (.int .i64 p) ∧ w'.cell? ⟨N, 1, none⟩ = some (.iface 31 (.int .i64 k))) (by kernel_rfl) (fun w5 hh => ⟨(box_heap hh BF.out).cell 0, (box_heap hh BF.out).cell 1⟩) (fun w5 hh hbb HS0 => ?_)
  replace HB := HB.trans ((hbb _ (Nat.le_refl _)).mono HB.size)
  replace BF := Lib.hid (box_heap hh BF.out)
  clear hh hbb c0 c1
  refine TKC 0 3 rfl ?_
  try simp only [Act.put, zA, zB, zC]
  refine TKC 1 4 rfl ?_
  try simp only [Act.put, zA, zB, zC]
  refine TKC 2 5 rfl ?_
  try simp only [Act.put, zA, zB, zC]
  refine TKC 3 6 rfl ?_ (by (intro w hSw; (try dsimp only at hSw); have q1 := hSw.1; go_simp; try with_reducible rfl))
  try simp only [Act.put, zA, zB, zC]
  refine TKC 6 9 rfl ?_
  try simp only [Act.put, zA, zB, zC]
  refine TKC 7 10 rfl ?_
  try simp only [Act.put, zA, zB, zC]
  refine TKC 8 11 rfl ?_
  try simp only [Act.put, zA, zB, zC]
  refine TKC 9 12 rfl ?_ (by (intro w hSw; (try dsimp only at hSw); have q1 := hSw.2; go_simp; try with_reducible rfl))
  try simp only [Act.put, zA, zB, zC]
  refine wpAnyH_ready (rs := [4]) (by kernel_rfl) (by simp) ?_
  refine AllReadyH.cons (o := ⟨some 7, _, _, _, _, _⟩) rfl (fun K hK => ?_) AllReadyH.nil
  go_simp
  (go_at_call 37; (refine (itoa_any HP.out (HW.out.at HB)).mono ?_); rintro e w6 ⟨rfl, hb⟩)
  replace BF := Lib.hid (IBox.below BF.out hb (IBox.lt BF.out))
  replace HB := HB.trans (hb.mono HB.size)
  clear hb
  replace HS0 : w6.cell? ⟨N, 0, none⟩ = some (.int .i64 p) ∧ w6.cell? ⟨N, 1, none⟩ = some (.iface 31 (.int .i64 k)) := ⟨BF.out.cell 0, BF.out.cell 1⟩
  rw [PTE.out]
  refine hK.out _ _ HS0 (fun hS2 => ?_)
  clear hK K hS2
  try simp only [Act.put, zA, zB, zC]
  refine TKC 5 8 rfl ?_
  try simp only [Act.put, zA, zB, zC]
  refine wpAnyH_ready (rs := [10]) (by kernel_rfl) (by simp) ?_
  refine AllReadyH.cons (o := ⟨some 13, _, _, _, _, _⟩) rfl (fun K hK => ?_) AllReadyH.nil
  simp only [Region.wanted, if_true]
  refine op_invoke _ "Error" rfl (T := 31) (v := .int .i64 k) rfl _ (inv_code _ _) (HC.out _ HB) (fun w7 hb => ?_)
  replace BF := Lib.hid (IBox.below BF.out hb (IBox.lt BF.out))
  replace HB := HB.trans (hb.mono HB.size)
  clear hb
  replace HS0 : w7.cell? ⟨N, 0, none⟩ = some (.int .i64 p) ∧ w7.cell? ⟨N, 1, none⟩ = some (.iface 31 (.int .i64 k)) := ⟨BF.out.cell 0, BF.out.cell 1⟩
  refine hK.out _ _ HS0 (fun hS2 => ?_)
  clear hK K hS2
  try simp only [Act.put, zA, zB, zC]
  refine TKC 11 14 rfl ?_
  try simp only [Act.put, zA, zB, zC]
  refine TKC 12 2 rfl ?_
  try simp only [Act.put, zA, zB, zC]
  refine wpAnyH_done (by kernel_rfl) ?_ _
  clear HS0
  go_wp2
  go_ret
  exact ⟨congrArg (fun s => Ending.returned (.string s)) HFT.out, HB⟩
end Go.Proofs.YtbehakabglegjaaGreatDoor
