/- Layer 9: messages that are alike are told to be so. Regions that draw their order and only read: their steps behind a wall. -/
import Derived.Test.YtbehakabglegjaaGreatDoorQ24
import Derived.Deep.QuietTactic
import Derived.Test.YtbehakabglegjaaGreatDoorQ00
import Derived.Test.YtbehakabglegjaaGreatDoorQZip
namespace Go.Proofs.YtbehakabglegjaaGreatDoor
open Go.RowKit Go.PlainAid
set_option linter.unusedVariables false
set_option linter.unusedSimpArgs false
theorem bt_text {w : World} {v : Value} {l : List UInt8} (h : BtAt w v l) : (convert 23 9 v).run Tryz.prog w = .ok (.string (txt l)) w := by
  obtain ⟨A, c, rfl, hc⟩ := h
  cases A with
  | none =>
    have : l = [] := by
      cases l with
      | nil => rfl
      | cons u r =>
        obtain ⟨b, off, e, _⟩ := hc 0 u rfl
        cases e
    subst this
    exact (run_convert_bytes_nil w 23 5 Tryz.underlying23 Tryz.underlying5 0 c 9 Tryz.underlying9).trans (by rfl)
  | some ad =>
    refine run_convert_bytes_back w 23 9 5 ad c l Tryz.underlying23 Tryz.underlying5 Tryz.underlying9 fun j hj => ?_
    obtain ⟨b, off, e, h1⟩ := hc j _ (List.getElem?_eq_getElem hj)
    obtain rfl : ad = ⟨b, off, none⟩ := Option.some.inj e
    have hadd : (⟨b, off, none⟩ : Addr).add j = ⟨b, off + j, none⟩ := by unfold Addr.add; split <;> simp_all
    rw [hadd]
    exact h1
/-- A message's rows can be read. -/
structure MgB (w : World) (x : Mm) : Prop where
  hd : HdAt w x.hs x.m.heads
  bt : BtAt w x.bd x.m.body
  hl : x.m.heads.length ≤ 140737488355328
theorem MgB.below {w w' : World} {x : Mm} (h : MgB w x) (hb : Below w.heap.size w w') : MgB w' x := ⟨h.hd.below hb, h.bt.bes (X := fun _ => False) (Bes.of_below hb) (fun _ _ z => z), h.hl⟩
theorem MgAt.b {w : World} {x : Mm} (h : MgAt w x) : MgB w x := ⟨h.hd, h.bt, h.hl⟩
theorem mm_b {w : World} {x : Mm} (h : IsMm w x) : MgB w x := ⟨h.1, h.2.1, Nat.le_trans h.2.2.2.1 (by decide)⟩
/-- Messages that can be read. -/
def MmsAt (w : World) (v : Value) (L : List Mm) : Prop := ∃ A c, v = .slice A L.length c ∧ ∀ (i : Nat) (x : Mm), L[i]? = some x → ∃ b off, A = some ⟨b, off, none⟩ ∧ w.rangeAt b (off + i * 6) x.cells.toList ∧ MgB w x
theorem range_later {w w' : World} {b o : Nat} {l : List Value} (hb : Below w.heap.size w w') (h : w.rangeAt b o l) : w'.rangeAt b o l := fun j v hv => cell_later hb (h j v hv)
theorem MmsAt.below {w w' : World} {v : Value} {L : List Mm} (h : MmsAt w v L) (hb : Below w.heap.size w w') : MmsAt w' v L := by
  obtain ⟨A, c, hv, hc⟩ := h
  refine ⟨A, c, hv, fun i x hx => ?_⟩
  obtain ⟨b, off, hA, h1, h2⟩ := hc i x hx
  exact ⟨b, off, hA, range_later hb h1, h2.below hb⟩
def ivN (v : Value) : Nat := match v with
  | .int _ i => i.toNat
  | _ => 0
theorem eqHd (a b c d : ByteArray) (w : World) : (Op.equalIn 10000 51 (.agg (hdA a b)) (.agg (hdA c d))).run Tryz.prog w = .ok (a.toList == c.toList && b.toList == d.toList) w := by
  have u3 := Tryz.underlying9
  have hS : Tryz.prog.underlying 51 = some (.struct (Tryz.prog.fieldsOf 51)) := by kernel_rfl
  unfold hdA
  rw [show (10000 : Nat) = 9999 + 1 from rfl, run_equalIn_agg w 9999 51 _ _ hS (by kernel_rfl)]
  simp only [Program.fieldsOf, Tryz.underlying51]
  go_simp
  by_cases h1 : a.toList = c.toList <;> by_cases h2 : b.toList = d.toList <;> simp [h1, h2]
theorem guardHd : Tryz.prog.eqGuardType Tryz.prog.depth 51 = false := by kernel_rfl
theorem hd_neq_same (x : ByteArray × ByteArray) (w : World) : (binOp .neq 51 (.agg (hdA x.1 x.2)) (.agg (hdA x.1 x.2))).run Tryz.prog w = .ok (.bool false) w := by
  rw [run_neq_struct, eqHd]
  simp [Result.andThen]
set_option maxRecDepth 100000 in
set_option maxHeartbeats 4000000 in
theorem same_yes {x y : Mm} {w : World} (hx : MgB w x) (hy : MgB w y) (hxy : x.m = y.m) :
    Calls Tryz.prog 19 #[.agg x.cells, .agg y.cells] w fun e w' => e = .returned (.bool true) ∧ Below w.heap.size w w' := by
  obtain ⟨⟨me, ta, sn, re, hd, bo⟩, hs, bd⟩ := x
  obtain ⟨m2, hs2, bd2⟩ := y
  simp only at hxy
  subst hxy
  obtain ⟨xA, xc, hxs, _⟩ := id hx.hd
  obtain ⟨yA, yc, hys, _⟩ := id hy.hd
  obtain ⟨bA, bc, hxb, _⟩ := id hx.bt
  obtain ⟨dA, dc, hyb, _⟩ := id hy.bt
  dsimp only at hxs hys hxb hyb
  subst hxs hys hxb hyb
  have HX := Lib.hid hx
  have HY := Lib.hid hy
  have HL : Hid (hd.length ≤ 140737488355328) := Lib.hid hx.hl
  have hc1 : Mm.cells ⟨⟨me, ta, sn, re, hd, bo⟩, .slice xA hd.length xc, .slice bA bo.length bc⟩ = #[.string me, .string ta, .int .i64 sn, .string re, .slice xA hd.length xc, .slice bA bo.length bc] := rfl
  have hc2 : Mm.cells ⟨⟨me, ta, sn, re, hd, bo⟩, .slice yA hd.length yc, .slice dA bo.length dc⟩ = #[.string me, .string ta, .int .i64 sn, .string re, .slice yA hd.length yc, .slice dA bo.length dc] := rfl
  rw [hc1, hc2]
  clear hx hy hc1 hc2
  go_enter Tryz.func19, Tryz.ntmps19
  go_wp2_with (first
    | (refine wpl_box_at rfl 25 (.tmp 0) rfl _ rfl ?_; intro w1 hw; have B1 := hid_alloc0 hw; have HB := hid_grow hw; have HZ : Hid (w1.heap.size = w.heap.size + 1) := Lib.hid (hid_alloc hw).2.1; clear hw)
    | (refine wpl_box_at rfl 25 (.tmp 1) rfl _ rfl ?_; intro w2 hw; have B2 := hid_alloc0 hw; rw [HZ.out] at B2 ⊢; have hb := hid_grow hw; replace B1 := zI B1 hb; replace HB := zT HB hb; clear hw hb; have k1 := bt_text (HX.out.below HB).bt; have k2 := bt_text (HY.out.below HB).bt; dsimp only at k1 k2; have c0 : w2.cell? ⟨w.heap.size, 0, none⟩ = some (.string me) := B1.cell 0; have d0 : w2.cell? ⟨w.heap.size + 1, 0, none⟩ = some (.string me) := B2.cell 0; have c1 : w2.cell? ⟨w.heap.size, 1, none⟩ = some (.string ta) := B1.cell 1; have d1 : w2.cell? ⟨w.heap.size + 1, 1, none⟩ = some (.string ta) := B2.cell 1; have c2 : w2.cell? ⟨w.heap.size, 2, none⟩ = some (.int .i64 sn) := B1.cell 2; have d2 : w2.cell? ⟨w.heap.size + 1, 2, none⟩ = some (.int .i64 sn) := B2.cell 2; have c3 : w2.cell? ⟨w.heap.size, 3, none⟩ = some (.string re) := B1.cell 3; have d3 : w2.cell? ⟨w.heap.size + 1, 3, none⟩ = some (.string re) := B2.cell 3; have c4 : w2.cell? ⟨w.heap.size, 4, none⟩ = some (.slice xA hd.length xc) := B1.cell 4; have d4 : w2.cell? ⟨w.heap.size + 1, 4, none⟩ = some (.slice yA hd.length yc) := B2.cell 4; have c5 : w2.cell? ⟨w.heap.size, 5, none⟩ = some (.slice bA bo.length bc) := B1.cell 5; have d5 : w2.cell? ⟨w.heap.size + 1, 5, none⟩ = some (.slice dA bo.length dc) := B2.cell 5))
  clear k1 k2 c0 d0 c1 d1 c2 d2 c3 d3 c4 d4 c5 d5
  go_loopw [5] (fun iv wr => ∃ i : Nat, iv = .int .i64 (i : Int) ∧ i ≤ hd.length ∧ IBox wr w.heap.size 25 #[.string me, .string ta, .int .i64 sn, .string re, .slice xA hd.length xc, .slice bA bo.length bc] ∧ IBox wr (w.heap.size + 1) 25 #[.string me, .string ta, .int .i64 sn, .string re, .slice yA hd.length yc, .slice dA bo.length dc] ∧ Below w.heap.size w wr) (fun iv _ => match iv with | .int _ i => (hd.length - i.toNat) | _ => 0)
  case atStart => exact ⟨0, rfl, Nat.zero_le _, B1, B2, HB⟩
  case round =>
    clear HB B1 B2
    obtain ⟨i, rfl, hi, B1, B2, HB⟩ := hrel
    have hl1 := HL.out
    have c4 : wr.cell? ⟨w.heap.size, 4, none⟩ = some (.slice xA hd.length xc) := B1.cell 4
    by_cases hlt : i < hd.length
    · obtain ⟨p, hp⟩ : ∃ p, hd[i]? = some p := ⟨_, List.getElem?_eq_getElem hlt⟩
      obtain ⟨A2, c2, hv2, hcu⟩ := HX.out.hd.below HB
      obtain ⟨gu, ou, hA2, e1, e2⟩ := hcu i p hp
      injection hv2 with v1 v2 v3
      clear v2 v3
      subst v1
      subst hA2
      obtain ⟨A3, c3, hv3, hcv⟩ := HY.out.hd.below HB
      obtain ⟨gv, ov, hA3, e3, e4⟩ := hcv i p hp
      injection hv3 with v1 v2 v3
      clear v2 v3
      subst v1
      subst hA3
      clear hcu hcv
      have r1 : wr.rangeAt gu (ou + i * 2) (hdA p.1 p.2).toList := row_two e1 e2
      have r2 : wr.rangeAt gv (ov + i * 2) (hdA p.1 p.2).toList := row_two e3 e4
      clear e1 e2 e3 e4 hp
      have HEQV : Hid (∀ w, (binOp .neq 51 (.agg (hdA p.1 p.2)) (.agg (hdA p.1 p.2))).run Tryz.prog w = .ok (.bool false) w) := Lib.hid (hd_neq_same p)
      go_wp2
      refine wp_region_S (S := fun w' => w'.cell? ⟨w.heap.size, 4, none⟩ = some (.slice (some ⟨gu, ou, none⟩) hd.length xc) ∧ w'.cell? ⟨w.heap.size + 1, 4, none⟩ = some (.slice (some ⟨gv, ov, none⟩) hd.length yc) ∧ w'.rangeAt gu (ou + i * 2) (hdA p.1 p.2).toList ∧ w'.rangeAt gv (ov + i * 2) (hdA p.1 p.2).toList) (by kernel_rfl) (fun w2 hh => ⟨(box_heap hh B1).cell 4, (box_heap hh B2).cell 4, rangeAt_heap hh r1, rangeAt_heap hh r2⟩) (fun w2 hh hbb HS0 => ?_)
      replace HB := HB.trans ((hbb _ (Nat.le_refl _)).mono HB.size)
      replace B1 := box_heap hh B1
      replace B2 := box_heap hh B2
      clear hh hbb r1 r2 c4
      refine TKC 0 57 rfl ?_
      try simp only [Act.put, zA, zB, zC]
      refine TKC 1 58 rfl ?_ (by (intro w hSw; (try dsimp only at hSw); have q1 := hSw.1; go_simp; try with_reducible rfl))
      try simp only [Act.put, zA, zB, zC]
      refine TKC 2 59 rfl ?_
      try simp only [Act.put, zA, zB, zC]
      refine TKC 3 60 rfl ?_
      try simp only [Act.put, zA, zB, zC]
      refine TKY 4 61 rfl (yields_rowS (by kernel_rfl) 51 (.tmp 60) rfl gu (ou + i * 2) rfl (hdA p.1 p.2) _ (fun w' hS => hS.2.2.1) Tryz.underlying51 rfl info_hd2) ?_
      try simp only [Act.put, zA, zB, zC]
      refine TKC 5 62 rfl ?_
      try simp only [Act.put, zA, zB, zC]
      refine TKC 6 63 rfl ?_ (by (intro w hSw; (try dsimp only at hSw); have q1 := hSw.2.1; go_simp; try with_reducible rfl))
      try simp only [Act.put, zA, zB, zC]
      refine TKC 7 64 rfl ?_
      try simp only [Act.put, zA, zB, zC]
      refine TKC 8 65 rfl ?_
      try simp only [Act.put, zA, zB, zC]
      refine TKY 9 66 rfl (yields_rowS (by kernel_rfl) 51 (.tmp 65) rfl gv (ov + i * 2) rfl (hdA p.1 p.2) _ (fun w' hS => hS.2.2.2) Tryz.underlying51 rfl info_hd2) ?_
      try simp only [Act.put, zA, zB, zC]
      refine TKC 10 67 (v := .bool false) rfl ?_ (by (intro w hSw; (try dsimp only at hSw); have q1 := HEQV.out; have q2 := guardHd; go_simp; try with_reducible rfl))
      try simp only [Act.put, zA, zB, zC]
      refine wpAnyH_done (by kernel_rfl) ?_ _
      clear HS0
      go_wp2
      go_roundw
      case rel => first | exact ⟨i + 1, rfl, by omega, B1, B2, HB⟩ | ((repeat apply Exists.intro); exact ⟨⟨i + 1, rfl, by omega, B1, B2, HB⟩, rfl⟩)
      case measure => (simp only; omega)
    · obtain rfl : i = hd.length := by omega
      clear hlt hi
      go_wp2
      go_ret
      exact ⟨rfl, HB⟩
set_option maxRecDepth 100000 in
set_option maxHeartbeats 4000000 in
theorem alike_yes {u v : Value} {L M : List Mm} {w : World} (hu : MmsAt w u L) (hv : MmsAt w v M) (he : L.map (·.m) = M.map (·.m)) (hl : L.length ≤ 140737488355328) :
    Calls Tryz.prog 15 #[u, v] w fun e w' => e = .returned (.bool true) ∧ Below w.heap.size w w' := by
  obtain ⟨uA, uc, rfl, _⟩ := id hu
  obtain ⟨vA, vc, rfl, _⟩ := id hv
  have HU := Lib.hid hu
  have HV := Lib.hid hv
  have HL := Lib.hid hl
  have hlen : L.length = M.length := by have := congrArg List.length he; simpa using this
  have HE : Hid (∀ (i : Nat) (x y : Mm), L[i]? = some x → M[i]? = some y → x.m = y.m) := Lib.hid (fun i x y h1 h2 => by
    have h := congrArg (fun l => l[i]?) he
    simp only [List.getElem?_map, h1, h2, Option.map_some] at h
    exact Option.some.inj h)
  have HB := Below.refl w.heap.size w
  have hll : ((L.length : Int) != (M.length : Int)) = false := by rw [bne_eq_false_iff_eq]; omega
  have HLE := Lib.hid hlen
  clear hu hv hl he hlen
  go_enter Tryz.func15, Tryz.ntmps15
  go_wp2
  go_loopw [5] (fun iv wr => ∃ i : Nat, iv = .int .i64 (i : Int) ∧ i ≤ L.length ∧ Below w.heap.size w wr) (fun iv _ => L.length - ivN iv)
  case atStart => exact ⟨0, rfl, Nat.zero_le _, HB⟩
  case round =>
    clear HB
    obtain ⟨i, rfl, hi, HB⟩ := hrel
    have hl1 := HL.out
    by_cases hlt : i < L.length
    · obtain ⟨x, hx⟩ : ∃ x, L[i]? = some x := ⟨_, List.getElem?_eq_getElem hlt⟩
      have hltm : i < M.length := by have := HLE.out; omega
      obtain ⟨y, hy⟩ : ∃ y, M[i]? = some y := ⟨_, List.getElem?_eq_getElem hltm⟩
      obtain ⟨A2, c2, hv2, hcu⟩ := HU.out.below HB
      obtain ⟨gu, ou, hA2, r1, m1⟩ := hcu i x hx
      injection hv2 with v1 v2 v3
      clear v2 v3
      subst v1
      subst hA2
      obtain ⟨A3, c3, hv3, hcv⟩ := HV.out.below HB
      obtain ⟨gv, ov, hA3, r2, m2⟩ := hcv i y hy
      injection hv3 with v1 v2 v3
      clear v2 v3
      subst v1
      subst hA3
      have hiI : (i : Int) < (L.length : Int) := by omega
      have hiJ : (i : Int) < (M.length : Int) := by omega
      have HSM : Hid (∀ wx, Below wr.heap.size wr wx → Calls Tryz.prog 19 #[.agg x.cells, .agg y.cells] wx fun e w' => e = .returned (.bool true) ∧ Below wx.heap.size wx w') := Lib.hid (fun wx hb => same_yes (m1.below hb) (m2.below hb) (HE.out i x y hx hy))
      have hs1 : (Tryz.prog.info? 25).map (·.size) = some x.cells.size := info_msg
      have hs2 : (Tryz.prog.info? 25).map (·.size) = some y.cells.size := info_msg
      generalize x.cells = xs at r1 HSM hs1
      generalize y.cells = ys at r2 HSM hs2
      clear hcu hcv hx hy m1 m2
      go_wp2
      refine wp_region_S (S := fun w' => w'.rangeAt gu (ou + i * 6) xs.toList ∧ w'.rangeAt gv (ov + i * 6) ys.toList) (by kernel_rfl) (fun w2 hh => ⟨rangeAt_heap hh r1, rangeAt_heap hh r2⟩) (fun w2 hh hbb HS0 => ?_)
      have HBR := hbb _ (Nat.le_refl _)
      replace HB := zT HB HBR
      clear hh hbb r1 r2
      refine TKC 0 18 rfl ?_
      try simp only [Act.put, zA, zB, zC]
      refine TKC 1 19 rfl ?_
      try simp only [Act.put, zA, zB, zC]
      refine TKC 2 20 rfl ?_
      try simp only [Act.put, zA, zB, zC]
      refine TKY 3 21 rfl (yields_rowS (by kernel_rfl) 25 (.tmp 20) rfl gu (ou + i * 6) rfl xs _ (fun w' hS => hS.1) Tryz.underlying25 rfl hs1) ?_
      try simp only [Act.put, zA, zB, zC]
      refine TKC 4 22 rfl ?_
      try simp only [Act.put, zA, zB, zC]
      refine TKC 5 23 rfl ?_
      try simp only [Act.put, zA, zB, zC]
      refine TKC 6 24 rfl ?_
      try simp only [Act.put, zA, zB, zC]
      refine TKY 7 25 rfl (yields_rowS (by kernel_rfl) 25 (.tmp 24) rfl gv (ov + i * 6) rfl ys _ (fun w' hS => hS.2) Tryz.underlying25 rfl hs2) ?_
      try simp only [Act.put, zA, zB, zC]
      refine wpAnyH_ready (rs := [8]) (by kernel_rfl) (by simp) ?_
      refine AllReadyH.cons (o := ⟨some 26, _, _, _, _, _⟩) rfl (fun K hK => ?_) AllReadyH.nil
      go_simp
      (go_at_call 19; (with_reducible refine (HSM.out _ HBR).mono ?_); rintro e w3 ⟨rfl, hb⟩)
      replace HB := zT HB hb
      replace HS0 : w3.rangeAt gu (ou + i * 6) xs.toList ∧ w3.rangeAt gv (ov + i * 6) ys.toList := ⟨range_later hb HS0.1, range_later hb HS0.2⟩
      refine hK.out _ _ HS0 (fun hS2 => ?_)
      clear hK K hS2
      try simp only [Act.put, zA, zB, zC]
      refine TKC 9 6 rfl ?_
      try simp only [Act.put, zA, zB, zC]
      refine wpAnyH_done (by kernel_rfl) ?_ _
      clear HS0
      go_wp2
      go_roundw
      case rel => first | exact ⟨i + 1, rfl, by omega, HB⟩ | ((repeat apply Exists.intro); refine ⟨?_, rfl⟩; exact ⟨i + 1, rfl, by omega, HB⟩)
      case measure => (show L.length - ((i : Int) + 1).toNat < L.length - (i : Int).toNat; omega)
    · obtain rfl : i = L.length := by omega
      clear hlt hi
      go_wp2
      go_ret
      exact ⟨rfl, HB⟩
end Go.Proofs.YtbehakabglegjaaGreatDoor
namespace Go.Proofs.YtbehakabglegjaaGreatDoor
section
open Go.RowKit
set_option linter.unusedVariables false
structure QL (P : Program) (ops : Array Oper) (C : World → Prop) (Q : Act → Prop) (l : List Oper) (a : Act) : Prop where
  out : wpQuiet P ops C Q l a
theorem QL.step {P : Program} {ops : Array Oper} {C : World → Prop} {Q : Act → Prop} {o : Oper} {rest : List Oper} {a : Act}
    (h : ∀ K : Act → Prop, (∀ a, QL P ops C Q rest a → K a) → if Region.wanted o (yielded ops a.tmps) then o.quiet P a C K else K (a.put o.dst undef)) : QL P ops C Q (o :: rest) a :=
  ⟨wpQuiet_step fun K hK => h K (fun a hh => hK a hh.out)⟩
theorem QL.nil {P : Program} {ops : Array Oper} {C : World → Prop} {Q : Act → Prop} {a : Act} (h : Q a) : QL P ops C Q [] a := ⟨wpQuiet_nil h⟩
theorem wp_region_QL {P : Program} {id : Nat} {Q : Exit → Act → World → Prop} {a : Act} {w : World} {l : List Oper} (hm : P.follows .mixedOrders = true) (hB : Region.lexB .any l.toArray = true)
    (h : QL P l.toArray (fun w' => ∃ n, w' = w.drewN n) (fun a' => ∀ w', (∃ n, w' = w.drewN n) → Q .normal a' w') l a) : (Code.region id l.toArray true).wp P Q a w := wp_region_quiet_lit hm hB h.out
end
end Go.Proofs.YtbehakabglegjaaGreatDoor
