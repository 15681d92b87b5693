/- Layer 9: Feed takes bytes. Layer 9: a target is cut: a part of it. -/
import Derived.Test.YtbehakabglegjaaGreatDoorQ14
import Derived.Test.YtbehakabglegjaaGreatDoorQ00
import Derived.Test.YtbehakabglegjaaGreatDoorQ08
import Derived.Test.YtbehakabglegjaaGreatDoorQ12
namespace Go.Proofs.YtbehakabglegjaaGreatDoor
open Go.RowKit Go.PlainAid
set_option linter.unusedVariables false
set_option linter.unusedSimpArgs false
theorem is_calls {P : Program} {f : Nat} {args : Array Value} {w : World} {R : Ending → World → Prop} (h : Calls P f args w R) : Calls P f args w R := h
theorem enter_step (n : Nat) : ∀ (args : Array Value) (w : World), (callFunc (stepId n) args).run Tryz.prog w = .ok (.enter (stepId n) args) w := by
  have hk : ∀ k : Nat, (Tryz.prog.funcs[k]?).any (fun fn => fn.body.isSome && fn.name != "runtime.NumGoroutine") = true → ∀ (args : Array Value) (w : World), (callFunc k args).run Tryz.prog w = .ok (.enter k args) w := fun k h args w => by
    cases hf : Tryz.prog.funcs[k]? with
    | none => rw [hf] at h; cases h
    | some fn =>
      rw [hf] at h
      cases hb : fn.body with
      | none => rw [Option.any_some, hb] at h; simp at h
      | some b =>
        have hn : ¬ fn.name = "runtime.NumGoroutine" := by rw [Option.any_some, Bool.and_eq_true] at h; simpa using h.2
        generalize Tryz.prog = P at *
        simp [callFunc, go_sem, hf, hb, hn]
  refine hk (stepId n) ?_
  unfold stepId
  split <;> kernel_rfl
theorem op_box_at {P : Program} {o : Oper} {a : Act} {w : World} {Q : Exit → Act → World → Prop} {K : Act → World → Prop} (ty : TypeId) (x : Operand) (ho : o.op = .box ty x) (arr : Array Value) (hx : a.eval x = .agg arr)
    (h : ∀ w', Hid (w' = w.alloc (.cells arr ty)) → K (a.put o.dst (.pointer (some ⟨w.heap.size, 0, none⟩))) w') : o.wp P a w K Q := by
  unfold Oper.wp execOp
  simp [ho, hx]
  exact h _ rfl
/-- The messages that were whole are let go. -/
theorem FdR.drop {base : Bs} {g : Nat} {F : Fs} {tk hs bd wh : Value} {L : List Mm} {w : World} (h : FdR base g F tk hs bd wh L w) : FdR base g { F with whole := [] } tk hs bd (.slice none 0 0) [] w :=
  ⟨h.gl, h.rt, h.rh, h.rb, ⟨rfl, .inl ⟨rfl, rfl⟩⟩, rfl, (fun q => by
    obtain ⟨h1, h2, h3, h4⟩ := h.ap q
    exact ⟨fun e => ⟨(h1 e).1, (h1 e).2.1, (h1 e).2.2.1, by simp [Value.ownBlock]⟩, fun e => ⟨(h2 e).1, (h2 e).2.1, (h2 e).2.2.1, by simp [Value.ownBlock]⟩, fun e => ⟨(h3 e).1, (h3 e).2.1, (h3 e).2.2.1, by simp [Value.ownBlock]⟩, (fun e => by cases e)⟩), (fun x hx => by cases hx), (fun q y => h.off q (by
    rcases y with y | y | y | y | y
    · exact .inl y
    · exact .inr (.inl y)
    · exact .inr (.inr (.inl y))
    · exact .inr (.inr (.inr (.inl y)))
    · cases y)), h.avl⟩
def FaultA (p k : Int) : Array Value := #[.int .i64 p, .iface 31 (.int .i64 k)]
/-- A fault in memory. -/
def IsFault (w : World) (v : Value) (k : Int) (p : Nat) : Prop := ∃ N, v = .iface 83 (.pointer (some ⟨N, 0, none⟩)) ∧ IBox w N 85 (FaultA p k)
/-- What Feed gives: the messages that are whole, and no error; or a fault, and the feed is shut. -/
def FeV (base : Bs) (g : Nat) (F : Fs) (l : List UInt8) (w : World) (e : Ending) (w' : World) : Prop := Bl base w w' ∧ match feedS F l with
  | .inl G => ∃ nx tk hs bd wh L, e = .returned (.tuple #[wh, .nilIface]) ∧ FdM base g G nx tk hs bd wh L w' ∧ nx = stepV G.next ∧ FI G ∧ HZ G
  | .inr (k, p, M) => ∃ G nx tk hs bd wh L ev, e = .returned (.tuple #[wh, ev]) ∧ FdM base g G nx tk hs bd wh L w' ∧ G.shut = true ∧ G.whole = M ∧ IsFault w' ev k p
theorem fault_build (p k : Int) (w : World) : (Instr.build 85 [(0, .int .i64 p), (1, .iface 31 (.int .i64 k))].toArray).run Tryz.prog w = .ok (.agg (FaultA p k)) w := by kernel_rfl
theorem runS_nil (f : Fs) : runS f [] = .inl f := rfl
/-- A byte of the row that is taken. -/
theorem bt_get {w : World} {v : Value} {l : List UInt8} {A : Option Addr} {n cp : Nat} (h : BtAt w v l) (hv : v = .slice A n cp) {i : Nat} {c : UInt8} (hc : l[i]? = some c) : ∃ b off, A = some ⟨b, off, none⟩ ∧ w.cell? ⟨b, off + i, none⟩ = some (.int .u8 (c.toNat : Int)) := by
  obtain ⟨A2, c2, hv2, hcells⟩ := h
  rw [hv] at hv2
  injection hv2 with e1 e2 e3
  subst e1
  exact hcells i c hc
set_option maxRecDepth 100000 in
set_option maxHeartbeats 8000000 in
theorem feed_any {base : Bs} {g : Nat} {F : Fs} {nx tk hs bd wh v : Value} {L : List Mm} {w : World} {l : List UInt8} (h : FdM base g F nx tk hs bd wh L w) (hnx : nx = stepV F.next) (hi : FI F) (hz : HZ F) (hw : Wh w base.n) (hl : l.length < 1099511627776) (hp : F.pos + l.length ≤ 4611686018427387904) (hv : ∀ w', Bl base w w' → BtAt w' v l) :
    Calls Tryz.prog 14 #[.pointer (some ⟨g, 0, none⟩), v] w (FeV base g F l w) := by
  obtain ⟨A, cp, hvs, _⟩ := hv w (Bl.refl base w)
  subst hvs
  have B := h.1
  have R := h.2
  have HB := Bl.refl base w
  have HV := Lib.hid hv
  have HW := Lib.hid hw
  have HFI := Lib.hid hi
  have HHZ := Lib.hid hz
  have HNX := Lib.hid hnx
  have c1 : w.cell? ⟨g, 1, none⟩ = some (.bool false) := by have := B.cell 1; rw [show (FdC F nx tk hs bd wh)[1]? = some (.bool F.shut) from rfl, hi.shut] at this; exact this
  clear h hv hw hi hz hnx
  go_enter Tryz.func14, Tryz.ntmps14
  go_wp2_with ((with_reducible refine is_store ?_); refine wpl_store_cell rfl 39 (.tmp 17) _ rfl g 12 rfl (.slice none 0 0) rfl _ _ B (show 12 < 16 by decide) one_sm rfl ?_; intro w1 hw; replace HB := HB.trans (R.store hw); replace R := (R.row (Bes.row (X := fun q => q = g) hw rfl)).drop; replace B := hid_row hw B; simp only [FdC_12] at B; clear hw c1)
  go_loopw [20] (fun iv wr => ∃ (i : Nat) (G : Fs) (nx tk hs bd wh : Value) (L : List Mm), iv = .int .i64 (i : Int) ∧ i ≤ l.length ∧ runS { F with whole := [] } (l.take i) = .inl G ∧ IBox wr g 81 (FdC G nx tk hs bd wh) ∧ FdR base g G tk hs bd wh L wr ∧ nx = stepV G.next ∧ FI G ∧ HZ G ∧ G.whole.length ≤ i ∧ G.pos = F.pos + i ∧ Bl base w wr) (fun iv _ => match iv with | .int _ i => (l.length - i.toNat) | _ => 0)
  case atStart => exact ⟨0, { F with whole := [] }, nx, tk, hs, bd, .slice none 0 0, [], rfl, Nat.zero_le _, rfl, B, R, HNX.out, ⟨HFI.out.shut, HFI.out.head, HFI.out.tok, HFI.out.heads, HFI.out.body, HFI.out.next, HFI.out.ver, HFI.out.sta, HFI.out.val, HFI.out.wide, HFI.out.size, HFI.out.dig, HFI.out.early, HFI.out.state, HFI.out.some_, HFI.out.none_⟩, HHZ.out, Nat.zero_le _, rfl, HB⟩
  case round =>
    clear B R HB
    obtain ⟨i, G, nx2, tk2, hs2, bd2, wh2, L2, rfl, hi, hrun, B, R, rfl, hfi, hhz, hwl, hgp, HB⟩ := hrel
    by_cases hlt : i < l.length
    · obtain ⟨c, hc⟩ : ∃ c, l[i]? = some c := ⟨_, List.getElem?_eq_getElem hlt⟩
      obtain ⟨hr1, hr2⟩ := run_next hc hrun
      obtain ⟨gb, off, hA, hcell⟩ := bt_get (HV.out wr HB) rfl hc
      subst hA
      have HR1 := Lib.hid hr1
      have HR2 := Lib.hid hr2
      have HF2 := Lib.hid hfi
      have HZ2 := Lib.hid hhz
      have HWL := Lib.hid hwl
      have HGP := Lib.hid hgp
      clear hgp
      have c3 : wr.cell? ⟨g, 3, none⟩ = some (.int .i64 G.head) := B.cell 3
      have c4 : wr.cell? ⟨g, 4, none⟩ = some (.func (.func (stepId G.next)) #[] #[]) := B.cell 4
      have eg := enter_step G.next
      clear hr1 hr2 hrun hfi hhz hwl hc
      by_cases h8 : 8192 ≤ G.head
      · have HO : Hid (oneS G c = .bad 2) := Lib.hid (by unfold oneS; rw [if_pos h8])
        go_wp2_with (first
          | ((with_reducible refine is_store ?_); refine wpl_store_cell rfl 4 (.tmp 59) _ rfl g 1 rfl (.bool true) rfl _ _ B (show 1 < 16 by decide) one_b rfl ?_; intro w9 hw; replace HB := HB.trans (R.store hw); replace R := R.row (Bes.row (X := fun q => q = g) hw rfl); replace B := hid_row hw B; simp only [FdC_1] at B; clear hw))
        have h12 : ∀ w' : World, w'.heap = w9.heap → w'.cell? ⟨g, 12, none⟩ = some wh2 ∧ w'.cell? ⟨g, 2, none⟩ = some (.int .i64 (G.pos : Int)) := fun w' hh => ⟨(box_heap hh B).cell 12, (box_heap hh B).cell 2⟩
        refine wp_region_S (S := fun w' => w'.cell? ⟨g, 12, none⟩ = some wh2 ∧ w'.cell? ⟨g, 2, none⟩ = some (.int .i64 (G.pos : Int))) (by kernel_rfl) (fun w2 hh => h12 w2 hh) (fun w2 hh hbb HS => ?_)
        replace HB := HB.trans (Bl.of (hbb _ (Nat.le_refl _)) R.bl R.avl)
        replace R := R.below (hbb _ (Nat.le_refl _))
        replace B := box_heap hh B
        clear hh hbb h12
        refine TKC 0 60 rfl ?_
        try simp only [Act.put, zA, zB, zC]
        refine TKC 1 61 rfl ?_
        try simp only [Act.put, zA, zB, zC]
        refine TKC 2 62 rfl ?_
        try simp only [Act.put, zA, zB, zC]
        refine TKC 3 63 rfl ?_ (by (intro w hSw; (try dsimp only at hSw); have q1 := hSw.1; go_simp; try with_reducible rfl))
        try simp only [Act.put, zA, zB, zC]
        refine TKC 4 64 rfl ?_
        try simp only [Act.put, zA, zB, zC]
        refine TKC 5 65 rfl ?_
        try simp only [Act.put, zA, zB, zC]
        refine TKC 6 66 rfl ?_
        try simp only [Act.put, zA, zB, zC]
        refine TKC 7 67 rfl ?_ (by (intro w hSw; (try dsimp only at hSw); have q1 := hSw.2; go_simp; try with_reducible rfl))
        try simp only [Act.put, zA, zB, zC]
        refine TKC 8 68 rfl ?_
        try simp only [Act.put, zA, zB, zC]
        refine TKC 9 69 rfl ?_
        try simp only [Act.put, zA, zB, zC]
        refine TKC 13 4 rfl ?_
        try simp only [Act.put, zA, zB, zC]
        refine TKY 10 70 rfl (yields_bld (vals := [(0, .int .i64 (G.pos : Int)), (1, .iface 31 (.int .i64 2))]) (by kernel_rfl) (fault_build (G.pos : Int) 2) _ rfl rfl) ?_
        try simp only [Act.put, zA, zB, zC]
        refine wpAnyH_ready (rs := [11]) (by kernel_rfl) (by simp) ?_
        refine AllReadyH.cons (o := ⟨some 71, _, _, _, _, _⟩) rfl (fun K hK => ?_) AllReadyH.nil
        simp only [Region.wanted, if_true]
        refine op_box_at 85 _ rfl (FaultA (G.pos : Int) 2) rfl ?_
        intro w10 hw
        have hb := hid_grow hw
        have BF := (hid_alloc hw).1
        replace B := IBox.below B hb (IBox.lt B)
        replace HB := bl_add HB hb R
        replace R := R.below hb
        clear hb hw
        replace HS : w10.cell? ⟨g, 12, none⟩ = some wh2 ∧ w10.cell? ⟨g, 2, none⟩ = some (.int .i64 (G.pos : Int)) := ⟨B.cell 12, B.cell 2⟩
        refine hK.out _ _ HS (fun hS2 => ?_)
        clear hK K hS2
        try simp only [Act.put, zA, zB, zC]
        refine TKC 12 72 rfl ?_
        try simp only [Act.put, zA, zB, zC]
        refine TKC 14 5 rfl ?_
        try simp only [Act.put, zA, zB, zC]
        refine wpAnyH_done (by kernel_rfl) ?_ _
        go_wp2
        go_ret2
        exact ⟨HB, by unfold feedS; rw [HR2.out _ HO.out]; exact ⟨_, _, _, _, _, _, L2, _, rfl, fdm B (R.same rfl rfl rfl rfl), rfl, rfl, ⟨_, rfl, BF⟩⟩⟩
      · have hh8 : G.head < 8192 := by omega
        obtain ⟨n, hn⟩ : ∃ n, (if 0 ≤ G.head then G.head + 1 else G.head) = n := ⟨_, rfl⟩
        have HJ := Lib.hid (FI.j HF2.out n)
        have hk := step_k (f := { G with head := n }) (c := c) HF2.out.next
        have hgw : G.whole.length < 1099511627776 := by have := HWL.out; omega
        have HGW := Lib.hid hgw
        have HSA := Lib.hid (fun (w4 : World) (nx4 tk4 hs4 bd4 wh4 : Value) (L4 : List Mm) (h4 : FdM base g { G with head := n } nx4 tk4 hs4 bd4 wh4 L4 w4) (hw4 : Wh w4 base.n) => step_any (c := c) h4 HJ.out HZ2.out hw4 HGW.out HF2.out.next)
        have hoe : oneS G c = match stepS { G with head := n } c with | .bad e => .bad e | .ok g2 => .ok { g2 with pos := g2.pos + 1 } := by unfold oneS; rw [if_neg h8, hn]; rfl
        clear hgw
        cases hst : stepS { G with head := n } c with
        | bad k =>
          rw [hst] at hoe hk
          have HO : Hid (oneS G c = .bad k) := Lib.hid hoe
          have HST := Lib.hid hst
          have hkb : (k == 0) = false := by
            rcases hk with rfl | rfl | rfl | rfl <;> rfl
          clear hoe hst hk
          by_cases h0 : 0 ≤ G.head
          · rw [if_pos h0] at hn
            subst hn
            go_wp2_with (first
              | ((with_reducible refine is_store ?_); refine wpl_store_cell rfl 3 (.tmp 44) (.tmp 42) rfl g 3 rfl (.int .i64 (G.head + 1)) rfl _ _ B (show 3 < 16 by decide) one_i rfl ?_; intro w4 hw; replace HB := HB.trans (R.store hw); replace R := R.row (Bes.row (X := fun q => q = g) hw rfl); replace B := hid_row hw B; simp only [FdC_3] at B; clear hw; clear c4; have c4 : w4.cell? ⟨g, 4, none⟩ = some (.func (.func (stepId G.next)) #[] #[]) := B.cell 4)
              | ((with_reducible refine is_calls ?_); (have hM := HSA.out _ _ _ _ _ _ _ (fdm B (R.same rfl rfl rfl rfl)) (HW.out.below HB.b)); (refine hM.mono ?_); rintro e w5 hq; (unfold StV at hq); rw [HST.out] at hq; obtain ⟨hb, rfl, G3, nx3, tk3, hs3, bd3, wh3, L3, hm, g1, g2, g3⟩ := hq; replace B := hm.1; replace R := hm.2; replace HB := HB.trans hb; clear hM hm hb c4 c3; replace g1 := Lib.hid g1; replace g2 := Lib.hid g2; clear g3)
              | ((with_reducible refine is_store ?_); refine wpl_store_cell rfl 4 (.tmp 59) _ rfl g 1 rfl (.bool true) rfl _ _ B (show 1 < 16 by decide) one_b rfl ?_; intro w9 hw; replace HB := HB.trans (R.store hw); replace R := R.row (Bes.row (X := fun q => q = g) hw rfl); replace B := hid_row hw B; simp only [FdC_1] at B; clear hw))
            have h12 : ∀ w' : World, w'.heap = w9.heap → w'.cell? ⟨g, 12, none⟩ = some wh3 ∧ w'.cell? ⟨g, 2, none⟩ = some (.int .i64 (G3.pos : Int)) := fun w' hh => ⟨(box_heap hh B).cell 12, (box_heap hh B).cell 2⟩
            refine wp_region_S (S := fun w' => w'.cell? ⟨g, 12, none⟩ = some wh3 ∧ w'.cell? ⟨g, 2, none⟩ = some (.int .i64 (G3.pos : Int))) (by kernel_rfl) (fun w2 hh => h12 w2 hh) (fun w2 hh hbb HS => ?_)
            replace HB := HB.trans (Bl.of (hbb _ (Nat.le_refl _)) R.bl R.avl)
            replace R := R.below (hbb _ (Nat.le_refl _))
            replace B := box_heap hh B
            clear hh hbb h12
            refine TKC 0 60 rfl ?_
            try simp only [Act.put, zA, zB, zC]
            refine TKC 1 61 rfl ?_
            try simp only [Act.put, zA, zB, zC]
            refine TKC 2 62 rfl ?_
            try simp only [Act.put, zA, zB, zC]
            refine TKC 3 63 rfl ?_ (by (intro w hSw; (try dsimp only at hSw); have q1 := hSw.1; go_simp; try with_reducible rfl))
            try simp only [Act.put, zA, zB, zC]
            refine TKC 4 64 rfl ?_
            try simp only [Act.put, zA, zB, zC]
            refine TKC 5 65 rfl ?_
            try simp only [Act.put, zA, zB, zC]
            refine TKC 6 66 rfl ?_
            try simp only [Act.put, zA, zB, zC]
            refine TKC 7 67 rfl ?_ (by (intro w hSw; (try dsimp only at hSw); have q1 := hSw.2; go_simp; try with_reducible rfl))
            try simp only [Act.put, zA, zB, zC]
            refine TKC 8 68 rfl ?_
            try simp only [Act.put, zA, zB, zC]
            refine TKC 9 69 rfl ?_
            try simp only [Act.put, zA, zB, zC]
            refine TKC 13 4 rfl ?_
            try simp only [Act.put, zA, zB, zC]
            refine TKY 10 70 rfl (yields_bld (vals := [(0, .int .i64 (G3.pos : Int)), (1, .iface 31 (.int .i64 k))]) (by kernel_rfl) (fault_build (G3.pos : Int) k) _ rfl rfl) ?_
            try simp only [Act.put, zA, zB, zC]
            refine wpAnyH_ready (rs := [11]) (by kernel_rfl) (by simp) ?_
            refine AllReadyH.cons (o := ⟨some 71, _, _, _, _, _⟩) rfl (fun K hK => ?_) AllReadyH.nil
            simp only [Region.wanted, if_true]
            refine op_box_at 85 _ rfl (FaultA (G3.pos : Int) k) rfl ?_
            intro w10 hw
            have hb := hid_grow hw
            have BF := (hid_alloc hw).1
            replace B := IBox.below B hb (IBox.lt B)
            replace HB := bl_add HB hb R
            replace R := R.below hb
            clear hb hw
            replace HS : w10.cell? ⟨g, 12, none⟩ = some wh3 ∧ w10.cell? ⟨g, 2, none⟩ = some (.int .i64 (G3.pos : Int)) := ⟨B.cell 12, B.cell 2⟩
            refine hK.out _ _ HS (fun hS2 => ?_)
            clear hK K hS2
            try simp only [Act.put, zA, zB, zC]
            refine TKC 12 72 rfl ?_
            try simp only [Act.put, zA, zB, zC]
            refine TKC 14 5 rfl ?_
            try simp only [Act.put, zA, zB, zC]
            refine wpAnyH_done (by kernel_rfl) ?_ _
            go_wp2
            go_ret2
            exact ⟨HB, by unfold feedS; rw [HR2.out _ HO.out]; exact ⟨_, _, _, _, _, _, L3, _, rfl, fdm B (R.same rfl rfl rfl rfl), rfl, g2.out, ⟨_, rfl, by rw [show G.pos = G3.pos from g1.out.symm]; exact BF⟩⟩⟩
          · rw [if_neg h0] at hn
            subst hn
            go_wp2_with (first
              | ((with_reducible refine is_calls ?_); (have hM := HSA.out _ _ _ _ _ _ _ (fdm B (R.same rfl rfl rfl rfl)) (HW.out.below HB.b)); (refine hM.mono ?_); rintro e w5 hq; (unfold StV at hq); rw [HST.out] at hq; obtain ⟨hb, rfl, G3, nx3, tk3, hs3, bd3, wh3, L3, hm, g1, g2, g3⟩ := hq; replace B := hm.1; replace R := hm.2; replace HB := HB.trans hb; clear hM hm hb c4 c3; replace g1 := Lib.hid g1; replace g2 := Lib.hid g2; clear g3)
              | ((with_reducible refine is_store ?_); refine wpl_store_cell rfl 4 (.tmp 59) _ rfl g 1 rfl (.bool true) rfl _ _ B (show 1 < 16 by decide) one_b rfl ?_; intro w9 hw; replace HB := HB.trans (R.store hw); replace R := R.row (Bes.row (X := fun q => q = g) hw rfl); replace B := hid_row hw B; simp only [FdC_1] at B; clear hw))
            have h12 : ∀ w' : World, w'.heap = w9.heap → w'.cell? ⟨g, 12, none⟩ = some wh3 ∧ w'.cell? ⟨g, 2, none⟩ = some (.int .i64 (G3.pos : Int)) := fun w' hh => ⟨(box_heap hh B).cell 12, (box_heap hh B).cell 2⟩
            refine wp_region_S (S := fun w' => w'.cell? ⟨g, 12, none⟩ = some wh3 ∧ w'.cell? ⟨g, 2, none⟩ = some (.int .i64 (G3.pos : Int))) (by kernel_rfl) (fun w2 hh => h12 w2 hh) (fun w2 hh hbb HS => ?_)
            replace HB := HB.trans (Bl.of (hbb _ (Nat.le_refl _)) R.bl R.avl)
            replace R := R.below (hbb _ (Nat.le_refl _))
            replace B := box_heap hh B
            clear hh hbb h12
            refine TKC 0 60 rfl ?_
            try simp only [Act.put, zA, zB, zC]
            refine TKC 1 61 rfl ?_
            try simp only [Act.put, zA, zB, zC]
            refine TKC 2 62 rfl ?_
            try simp only [Act.put, zA, zB, zC]
            refine TKC 3 63 rfl ?_ (by (intro w hSw; (try dsimp only at hSw); have q1 := hSw.1; go_simp; try with_reducible rfl))
            try simp only [Act.put, zA, zB, zC]
            refine TKC 4 64 rfl ?_
            try simp only [Act.put, zA, zB, zC]
            refine TKC 5 65 rfl ?_
            try simp only [Act.put, zA, zB, zC]
            refine TKC 6 66 rfl ?_
            try simp only [Act.put, zA, zB, zC]
            refine TKC 7 67 rfl ?_ (by (intro w hSw; (try dsimp only at hSw); have q1 := hSw.2; go_simp; try with_reducible rfl))
            try simp only [Act.put, zA, zB, zC]
            refine TKC 8 68 rfl ?_
            try simp only [Act.put, zA, zB, zC]
            refine TKC 9 69 rfl ?_
            try simp only [Act.put, zA, zB, zC]
            refine TKC 13 4 rfl ?_
            try simp only [Act.put, zA, zB, zC]
            refine TKY 10 70 rfl (yields_bld (vals := [(0, .int .i64 (G3.pos : Int)), (1, .iface 31 (.int .i64 k))]) (by kernel_rfl) (fault_build (G3.pos : Int) k) _ rfl rfl) ?_
            try simp only [Act.put, zA, zB, zC]
            refine wpAnyH_ready (rs := [11]) (by kernel_rfl) (by simp) ?_
            refine AllReadyH.cons (o := ⟨some 71, _, _, _, _, _⟩) rfl (fun K hK => ?_) AllReadyH.nil
            simp only [Region.wanted, if_true]
            refine op_box_at 85 _ rfl (FaultA (G3.pos : Int) k) rfl ?_
            intro w10 hw
            have hb := hid_grow hw
            have BF := (hid_alloc hw).1
            replace B := IBox.below B hb (IBox.lt B)
            replace HB := bl_add HB hb R
            replace R := R.below hb
            clear hb hw
            replace HS : w10.cell? ⟨g, 12, none⟩ = some wh3 ∧ w10.cell? ⟨g, 2, none⟩ = some (.int .i64 (G3.pos : Int)) := ⟨B.cell 12, B.cell 2⟩
            refine hK.out _ _ HS (fun hS2 => ?_)
            clear hK K hS2
            try simp only [Act.put, zA, zB, zC]
            refine TKC 12 72 rfl ?_
            try simp only [Act.put, zA, zB, zC]
            refine TKC 14 5 rfl ?_
            try simp only [Act.put, zA, zB, zC]
            refine wpAnyH_done (by kernel_rfl) ?_ _
            go_wp2
            go_ret2
            exact ⟨HB, by unfold feedS; rw [HR2.out _ HO.out]; exact ⟨_, _, _, _, _, _, L3, _, rfl, fdm B (R.same rfl rfl rfl rfl), rfl, g2.out, ⟨_, rfl, by rw [show G.pos = G3.pos from g1.out.symm]; exact BF⟩⟩⟩
        | ok g2 =>
          rw [hst] at hoe hk
          have HO : Hid (oneS G c = .ok { g2 with pos := g2.pos + 1 }) := Lib.hid hoe
          have HST := Lib.hid hst
          obtain ⟨_, _, hpos⟩ := hk
          have hpos2 : g2.pos = G.pos := hpos
          have hpb : g2.pos + 1 ≤ 4611686018427387904 := by have := HGP.out; omega
          have HP2 := Lib.hid hpos2
          clear hoe hst hpos hpos2
          by_cases h0 : 0 ≤ G.head
          · rw [if_pos h0] at hn
            subst hn
            go_wp2_with (first
              | ((with_reducible refine is_store ?_); refine wpl_store_cell rfl 3 (.tmp 44) (.tmp 42) rfl g 3 rfl (.int .i64 (G.head + 1)) rfl _ _ B (show 3 < 16 by decide) one_i rfl ?_; intro w4 hw; replace HB := HB.trans (R.store hw); replace R := R.row (Bes.row (X := fun q => q = g) hw rfl); replace B := hid_row hw B; simp only [FdC_3] at B; clear hw; clear c4; have c4 : w4.cell? ⟨g, 4, none⟩ = some (.func (.func (stepId G.next)) #[] #[]) := B.cell 4)
              | ((with_reducible refine is_calls ?_); (have hM := HSA.out _ _ _ _ _ _ _ (fdm B (R.same rfl rfl rfl rfl)) (HW.out.below HB.b)); (refine hM.mono ?_); rintro e w5 hq; (unfold StV at hq); rw [HST.out] at hq; obtain ⟨hb, rfl, nx3, tk3, hs3, bd3, wh3, L3, hm⟩ := hq; replace B := hm.1; replace R := hm.2; replace HB := HB.trans hb; clear hM hm hb c4 c3)
              | ((with_reducible refine is_store ?_); refine wpl_store_cell rfl 79 (.tmp 76) (.tmp 74) rfl g 4 rfl (stepV g2.next) rfl _ _ B (show 4 < 16 by decide) one_st rfl ?_; intro w7 hw; replace HB := HB.trans (R.store hw); replace R := R.row (Bes.row (X := fun q => q = g) hw rfl); replace B := hid_row hw B; simp only [FdC_4] at B; clear hw; have c2 : w7.cell? ⟨g, 2, none⟩ = some (.int .i64 (g2.pos : Int)) := B.cell 2)
              | ((with_reducible refine is_store ?_); refine wpl_store_cell rfl 3 (.tmp 83) (.tmp 81) rfl g 2 rfl (.int .i64 ((g2.pos + 1 : Nat) : Int)) rfl _ _ B (show 2 < 16 by decide) one_i rfl ?_; intro w8 hw; replace HB := HB.trans (R.store hw); replace R := R.row (Bes.row (X := fun q => q = g) hw rfl); replace B := hid_row hw B; simp only [FdC_2] at B; clear hw))
            have hke := one_keep HF2.out HZ2.out HO.out
            go_roundw
            case rel => exact ⟨i + 1, { g2 with pos := g2.pos + 1 }, _, _, _, _, _, L3, rfl, by omega, HR1.out _ HO.out, B, R.same rfl rfl rfl rfl, rfl, hke.1, hke.2.1, by have := hke.2.2.1; have := HWL.out; omega, by show g2.pos + 1 = _; have := HP2.out; have := HGP.out; omega, HB⟩
            case measure => (simp only; omega)
          · rw [if_neg h0] at hn
            subst hn
            go_wp2_with (first
              | ((with_reducible refine is_calls ?_); (have hM := HSA.out _ _ _ _ _ _ _ (fdm B (R.same rfl rfl rfl rfl)) (HW.out.below HB.b)); (refine hM.mono ?_); rintro e w5 hq; (unfold StV at hq); rw [HST.out] at hq; obtain ⟨hb, rfl, nx3, tk3, hs3, bd3, wh3, L3, hm⟩ := hq; replace B := hm.1; replace R := hm.2; replace HB := HB.trans hb; clear hM hm hb c4 c3)
              | ((with_reducible refine is_store ?_); refine wpl_store_cell rfl 79 (.tmp 76) (.tmp 74) rfl g 4 rfl (stepV g2.next) rfl _ _ B (show 4 < 16 by decide) one_st rfl ?_; intro w7 hw; replace HB := HB.trans (R.store hw); replace R := R.row (Bes.row (X := fun q => q = g) hw rfl); replace B := hid_row hw B; simp only [FdC_4] at B; clear hw; have c2 : w7.cell? ⟨g, 2, none⟩ = some (.int .i64 (g2.pos : Int)) := B.cell 2)
              | ((with_reducible refine is_store ?_); refine wpl_store_cell rfl 3 (.tmp 83) (.tmp 81) rfl g 2 rfl (.int .i64 ((g2.pos + 1 : Nat) : Int)) rfl _ _ B (show 2 < 16 by decide) one_i rfl ?_; intro w8 hw; replace HB := HB.trans (R.store hw); replace R := R.row (Bes.row (X := fun q => q = g) hw rfl); replace B := hid_row hw B; simp only [FdC_2] at B; clear hw))
            have hke := one_keep HF2.out HZ2.out HO.out
            go_roundw
            case rel => exact ⟨i + 1, { g2 with pos := g2.pos + 1 }, _, _, _, _, _, L3, rfl, by omega, HR1.out _ HO.out, B, R.same rfl rfl rfl rfl, rfl, hke.1, hke.2.1, by have := hke.2.2.1; have := HWL.out; omega, by show g2.pos + 1 = _; have := HP2.out; have := HGP.out; omega, HB⟩
            case measure => (simp only; omega)
    · obtain rfl : i = l.length := by omega
      rw [List.take_length] at hrun
      have HRU := Lib.hid hrun
      have c12 : wr.cell? ⟨g, 12, none⟩ = some wh2 := B.cell 12
      clear hrun
      go_wp2
      go_ret2
      exact ⟨HB, by unfold feedS; rw [HRU.out]; exact ⟨_, _, _, _, _, _, rfl, fdm B R, rfl, hfi, hhz⟩⟩
end Go.Proofs.YtbehakabglegjaaGreatDoor
namespace Go.Proofs.YtbehakabglegjaaGreatDoor
open Go.RowKit Go.PlainAid
set_option linter.unusedVariables false
set_option linter.unusedSimpArgs false
theorem Bes.low {X : Nat → Prop} {w a b : World} {n : Nat} (h : Bes X w a) (k : Below n a b) (hn : w.heap.size ≤ n) : Bes X w b :=
  ⟨k.os.trans h.os, k.tape.trans h.tape, k.output.trans h.output, Nat.le_trans h.size k.size, fun q hq hx => (k.block q (Nat.lt_of_lt_of_le hq hn)).trans (h.block q hq hx)⟩
theorem isB_heap {B b : Nat} {bs : List Value} {w w' : World} (e : w'.heap = w.heap) (h : IsB B b bs w) : IsB B b bs w' := by
  unfold IsB Lib.IsBuilderF Lib.BuilderAtF World.ownsRowF at *
  rw [e]
  exact h
theorem ownF_lo' {w : World} {B : Nat} {e : TypeId} {size : Nat} {v : Value} {n : Nat} {xs : List Value} (h : w.ownsRowF B e size v n xs) {k : Nat} (hk : v.ownBlock = some k) : B ≤ k := by
  rcases h.2 with ⟨hv, _⟩ | ⟨g, cap, cur, fz, hv, hb, _⟩
  · subst hv; cases hk
  · subst hv
    have : g = k := Option.some.inj hk
    omega
theorem bAt_bes {B b g : Nat} {p : Value} {bs : List Value} {w w' : World} (h : Lib.BuilderAtF 96 5 B b p bs w) (hb : Bes (· = g) w w') (hg : g < B) : Lib.BuilderAtF 96 5 B b p bs w' := by
  have hlt := h.lt
  obtain ⟨hB, v, hbk, hown, hne⟩ := h
  refine ⟨hB, v, (hb.block b hlt (by omega)).trans hbk, ?_, hne⟩
  refine hown.kept (row := some g) ⟨hb.os, hb.tape, hb.output, hb.size, fun k hk hn => hb.block k hk (fun e => hn (by rw [e]))⟩ (Or.inr fun e => ?_)
  have := ownF_lo' hown e
  omega
theorem isB_row {B b g : Nat} {bs : List Value} {w w' : World} {arr : Array Value} (h : IsB B b bs w) (hw : Hid (w' = w.setRow g arr)) (hg : g < B) : IsB B b bs w' :=
  h.elim (fun x => .inl (bAt_bes x (Bes.row (X := fun q => q = g) hw rfl) hg)) (fun x => .inr (bAt_bes x (Bes.row (X := fun q => q = g) hw rfl) hg))
/-- What piece gives. -/
def PcV (g : Nat) (s : ByteArray) (r : (Int × Nat) ⊕ (ByteArray × Nat)) (e : Ending) (w' : World) : Prop := match r with
  | .inr (p, k) => e = .returned (.tuple #[.string p, .nilIface]) ∧ CtM w' g s k ∧ k ≤ s.size
  | .inl (c, p) => ∃ v, e = .returned (.tuple #[.string ⟨#[]⟩, v]) ∧ IsFault w' v c p
/-- A part's bytes, whatever the fuel. -/
def PL (en s : ByteArray) (k : Nat) (acc : List UInt8) (r : (Int × Nat) ⊕ (List UInt8 × Nat)) : Prop := ∀ n, s.size - k < n → partL (bl en) n ((bl s).drop k) k acc = r
theorem drop_at {l : List UInt8} {k : Nat} {c : UInt8} (h : l[k]? = some c) : l.drop k = c :: l.drop (k + 1) := by
  obtain ⟨h1, h2⟩ := List.getElem?_eq_some_iff.1 h
  rw [List.drop_eq_getElem_cons h1, h2]
theorem lt_at {s : ByteArray} {k : Nat} {c : UInt8} (h : (bl s)[k]? = some c) : k < s.size := (List.getElem?_eq_some_iff.1 h).1
theorem partL_fuel (en : List UInt8) : ∀ (n m : Nat) (l : List UInt8) (k : Nat) (acc : List UInt8), l.length < n → l.length < m → partL en n l k acc = partL en m l k acc
  | 0, _, l, _, _, h, _ => by cases h
  | _ + 1, 0, l, _, _, _, h => by cases h
  | n + 1, m + 1, [], k, acc, _, _ => rfl
  | n + 1, m + 1, c :: l, k, acc, h, h' => by
    have hl : l.length < n := by simpa using h
    have hl' : l.length < m := by simpa using h'
    unfold partL
    split
    · rfl
    · split
      · rfl
      · split
        · match l, hl, hl' with
          | [], _, _ => rfl
          | [_], _, _ => rfl
          | a :: b :: l2, hl, hl' =>
            simp only
            split
            · rfl
            · exact partL_fuel en n m l2 (k + 3) _ (by simp at hl; omega) (by simp at hl'; omega)
        · exact partL_fuel en n m l (k + 1) _ hl hl'
theorem PL.fin {en s : ByteArray} {k : Nat} {acc : List UInt8} {r} (h : PL en s k acc r) (hk : ¬ k < s.size) : r = .inr (acc, k) := by
  have e := h (s.size - k + 1) (by omega)
  rw [List.drop_eq_nil_iff.2 (show (bl s).length ≤ k from by show s.size ≤ k; omega)] at e
  exact e.symm
theorem PL.stop {en s : ByteArray} {k : Nat} {acc : List UInt8} {r} {c : UInt8} (h : PL en s k acc r) (hc : (bl s)[k]? = some c) (he : (bl en).contains c = true) : r = .inr (acc, k) := by
  have e := h (s.size - k + 1) (by omega)
  rw [drop_at hc] at e
  unfold partL at e
  rw [if_pos he] at e
  exact e.symm
theorem PL.bad {en s : ByteArray} {k : Nat} {acc : List UInt8} {r} {c : UInt8} (h : PL en s k acc r) (hc : (bl s)[k]? = some c) (he : (bl en).contains c = false) (hb : (c.toNat < 33 ∨ 126 < c.toNat) ∨ c.toNat = 35) : r = .inl (3, k) := by
  have e := h (s.size - k + 1) (by omega)
  rw [drop_at hc] at e
  unfold partL at e
  rw [if_neg (by rw [he]; decide), if_pos hb] at e
  exact e.symm
theorem PL.near {en s : ByteArray} {k : Nat} {acc : List UInt8} {r} {c : UInt8} (h : PL en s k acc r) (hc : (bl s)[k]? = some c) (he : (bl en).contains c = false) (hb : c.toNat = 37) (hk : s.size ≤ k + 2) : r = .inl (3, k) := by
  have e := h (s.size - k + 1) (by omega)
  rw [drop_at hc] at e
  have hl : ((bl s).drop (k + 1)).length ≤ 1 := by rw [List.length_drop]; show s.size - (k + 1) ≤ 1; omega
  unfold partL at e
  rw [if_neg (by rw [he]; decide), if_neg (by omega), if_pos hb] at e
  generalize (bl s).drop (k + 1) = l at e hl
  match l, hl with
  | [], _ => exact e.symm
  | [_], _ => exact e.symm
theorem PL.pct {en s : ByteArray} {k : Nat} {acc : List UInt8} {r} {c d1 d2 : UInt8} (h : PL en s k acc r) (hc : (bl s)[k]? = some c) (he : (bl en).contains c = false) (hb : c.toNat = 37) (h1 : (bl s)[k + 1]? = some d1) (h2 : (bl s)[k + 2]? = some d2) :
    (hexB d1 < 0 ∨ hexB d2 < 0 → r = .inl (3, k)) ∧ (¬ hexB d1 < 0 → ¬ hexB d2 < 0 → PL en s (k + 3) (acc ++ [UInt8.ofNat (hexB d1 * 16 + hexB d2).toNat]) r) := by
  have e1 : ∀ n, partL (bl en) (n + 1) ((bl s).drop k) k acc = if hexB d1 < 0 ∨ hexB d2 < 0 then .inl (3, k) else partL (bl en) n ((bl s).drop (k + 3)) (k + 3) (acc ++ [UInt8.ofNat (hexB d1 * 16 + hexB d2).toNat]) := fun n => by
    rw [drop_at hc, drop_at h1, drop_at h2]
    conv => lhs; unfold partL
    rw [if_neg (by rw [he]; decide), if_neg (by omega), if_pos hb]
  refine ⟨fun hx => ?_, fun n1 n2 n hn => ?_⟩
  · have e := h (s.size - k + 1) (by omega)
    rw [e1, if_pos hx] at e
    exact e.symm
  · have hl := lt_at h2
    have hz : (bl s).length = s.size := rfl
    have e := h (s.size - k + 1) (by omega)
    rw [e1, if_neg (by omega)] at e
    rw [← e]
    exact partL_fuel _ _ _ _ _ _ (by rw [List.length_drop]; omega) (by rw [List.length_drop]; omega)
theorem PL.plain {en s : ByteArray} {k : Nat} {acc : List UInt8} {r} {c : UInt8} (h : PL en s k acc r) (hc : (bl s)[k]? = some c) (he : (bl en).contains c = false) (hb : ¬ ((c.toNat < 33 ∨ 126 < c.toNat) ∨ c.toNat = 35)) (hp : ¬ c.toNat = 37) : PL en s (k + 1) (acc ++ [c]) r := by
  intro n hn
  have e := h (n + 1) (by have := lt_at hc; omega)
  rw [drop_at hc] at e
  conv at e => lhs; unfold partL
  rw [if_neg (by rw [he]; decide), if_neg hb, if_neg hp] at e
  exact e
theorem PL.start (en s : ByteArray) (k : Nat) : PL en s k [] (partL (bl en) ((bl s).length + 1) ((bl s).drop k) k []) := fun n hn => by
  have hz : (bl s).length = s.size := rfl
  exact partL_fuel _ _ _ _ _ _ (by rw [List.length_drop]; omega) (by rw [List.length_drop]; omega)
theorem Wh.up {w : World} {r : Nat} (h : Wh w r) (hr : r ≤ w.heap.size) : Wh w w.heap.size := fun W hW => h W (hW.mono hr)
set_option maxRecDepth 100000 in
theorem hex_bits : ∀ n : Fin 256, (hexB (UInt8.ofNat n.val) < 0 ∨ (0 ≤ hexB (UInt8.ofNat n.val) ∧ hexB (UInt8.ofNat n.val) ≤ 15)) := by decide +kernel
theorem hex_in (c : UInt8) : hexB c < 0 ∨ (0 ≤ hexB c ∧ hexB c ≤ 15) := by
  have h := hex_bits ⟨c.toNat, c.toNat_lt⟩
  simp only [UInt8.ofNat_toNat] at h
  exact h
end Go.Proofs.YtbehakabglegjaaGreatDoor
