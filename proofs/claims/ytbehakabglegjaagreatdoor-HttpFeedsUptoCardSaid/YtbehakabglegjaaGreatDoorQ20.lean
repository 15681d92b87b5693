/- Layer 9: Feed takes bytes. -/
import Derived.Test.YtbehakabglegjaaGreatDoorQ19
import Derived.Test.YtbehakabglegjaaGreatDoorQ02
import Derived.Test.YtbehakabglegjaaGreatDoorQZip
namespace Go.Proofs.YtbehakabglegjaaGreatDoor
open Go.RowKit Go.PlainAid
set_option linter.unusedVariables false
set_option linter.unusedSimpArgs false
theorem is_calls {P : Program} {f : Nat} {args : Array Value} {w : World} {R : Ending → World → Prop} (h : Calls P f args w R) : Calls P f args w R := h
theorem enter_step (n : Nat) : ∀ (args : Array Value) (w : World), (callFunc (stepId n) args).run Tryz.prog w = .ok (.enter (stepId n) args) w := by
  have hk : ∀ k : Nat, (Tryz.prog.funcs[k]?).any (fun fn => fn.body.isSome && fn.name != "runtime.NumGoroutine") = true → ∀ (args : Array Value) (w : World), (callFunc k args).run Tryz.prog w = .ok (.enter k args) w := fun k h args w => by
    cases hf : Tryz.prog.funcs[k]? with
    | none => rw [hf] at h; cases h
    | some fn =>
      rw [hf] at h
      cases hb : fn.body with
      | none => rw [Option.any_some, hb] at h; simp at h
      | some b =>
        have hn : ¬ fn.name = "runtime.NumGoroutine" := by rw [Option.any_some, Bool.and_eq_true] at h; simpa using h.2
        generalize Tryz.prog = P at *
        simp [callFunc, go_sem, hf, hb, hn]
  refine hk (stepId n) ?_
  unfold stepId
  split <;> kernel_rfl
theorem op_box_at {P : Program} {o : Oper} {a : Act} {w : World} {Q : Exit → Act → World → Prop} {K : Act → World → Prop} (ty : TypeId) (x : Operand) (ho : o.op = .box ty x) (arr : Array Value) (hx : a.eval x = .agg arr)
    (h : ∀ w', Hid (w' = w.alloc (.cells arr ty)) → K (a.put o.dst (.pointer (some ⟨w.heap.size, 0, none⟩))) w') : o.wp P a w K Q := by
  unfold Oper.wp execOp
  simp [ho, hx]
  exact h _ rfl
/-- The messages that were whole are let go. -/
theorem FdR.drop {base : Bs} {g : Nat} {F : Fs} {tk hs bd wh : Value} {L : List Mm} {w : World} (h : FdR base g F tk hs bd wh L w) : FdR base g { F with whole := [] } tk hs bd (.slice none 0 0) [] w :=
  ⟨h.gl, h.rt, h.rh, h.rb, ⟨rfl, .inl ⟨rfl, rfl⟩⟩, rfl, (fun q => by
    obtain ⟨h1, h2, h3, h4⟩ := h.ap q
    exact ⟨fun e => ⟨(h1 e).1, (h1 e).2.1, (h1 e).2.2.1, by simp [Value.ownBlock]⟩, fun e => ⟨(h2 e).1, (h2 e).2.1, (h2 e).2.2.1, by simp [Value.ownBlock]⟩, fun e => ⟨(h3 e).1, (h3 e).2.1, (h3 e).2.2.1, by simp [Value.ownBlock]⟩, (fun e => by cases e)⟩), (fun x hx => by cases hx), (fun q y => h.off q (by
    rcases y with y | y | y | y | y
    · exact .inl y
    · exact .inr (.inl y)
    · exact .inr (.inr (.inl y))
    · exact .inr (.inr (.inr (.inl y)))
    · cases y)), h.avl, (fun x hx => by cases hx)⟩
/-- .. and other blocks are to be let be. -/
theorem FdR.dropA {n : Nat} {P av : Nat → Prop} {g : Nat} {F : Fs} {tk hs bd wh : Value} {L : List Mm} {w : World} (h : FdR ⟨n, P⟩ g F tk hs bd wh L w) (hav : ∀ q, av q → q < w.heap.size ∧ ¬ Live g tk hs bd wh q) : FdR ⟨n, av⟩ g { F with whole := [] } tk hs bd (.slice none 0 0) [] w :=
  have h2 := h.drop
  ⟨h2.gl, h2.rt, h2.rh, h2.rb, h2.rw_, h2.wl, h2.ap, (fun x hx => by cases hx), (fun q y a => (hav q a).2 (by
    rcases y with y | y | y | y | y
    · exact .inl y
    · exact .inr (.inl y)
    · exact .inr (.inr (.inl y))
    · exact .inr (.inr (.inr (.inl y)))
    · cases y)), (fun q a => (hav q a).1), (fun x hx => by cases hx)⟩
def FaultA (p k : Int) : Array Value := #[.int .i64 p, .iface 31 (.int .i64 k)]
/-- A fault in memory. -/
def IsFault (w : World) (v : Value) (k : Int) (p : Nat) : Prop := ∃ N, v = .iface 83 (.pointer (some ⟨N, 0, none⟩)) ∧ IBox w N 85 (FaultA p k)
/-- What Feed gives: the messages that are whole, and no error; or a fault, and the feed is shut. -/
def FeV (base : Bs) (g : Nat) (F : Fs) (l : List UInt8) (w : World) (e : Ending) (w' : World) : Prop := Bl base w w' ∧ match feedS F l with
  | .inl G => ∃ nx tk hs bd wh L, e = .returned (.tuple #[wh, .nilIface]) ∧ FdM base g G nx tk hs bd wh L w' ∧ nx = stepV G.next ∧ FI G ∧ HZ G
  | .inr (k, p, M) => ∃ G nx tk hs bd wh L ev, e = .returned (.tuple #[wh, ev]) ∧ FdM base g G nx tk hs bd wh L w' ∧ G.shut = true ∧ G.whole = M ∧ IsFault w' ev k p
theorem fault_build (p k : Int) (w : World) : (Instr.build 85 [(0, .int .i64 p), (1, .iface 31 (.int .i64 k))].toArray).run Tryz.prog w = .ok (.agg (FaultA p k)) w := by kernel_rfl
theorem runS_nil (f : Fs) : runS f [] = .inl f := rfl
/-- A byte of the row that is taken. -/
theorem bt_get {w : World} {v : Value} {l : List UInt8} {A : Option Addr} {n cp : Nat} (h : BtAt w v l) (hv : v = .slice A n cp) {i : Nat} {c : UInt8} (hc : l[i]? = some c) : ∃ b off, A = some ⟨b, off, none⟩ ∧ w.cell? ⟨b, off + i, none⟩ = some (.int .u8 (c.toNat : Int)) := by
  obtain ⟨A2, c2, hv2, hcells⟩ := h
  rw [hv] at hv2
  injection hv2 with e1 e2 e3
  subst e1
  exact hcells i c hc
set_option maxRecDepth 100000 in
set_option maxHeartbeats 8000000 in
theorem feed_anyA {n : Nat} {P av : Nat → Prop} {g : Nat} {F : Fs} {nx tk hs bd wh v : Value} {L : List Mm} {w : World} {l : List UInt8} (h : FdM ⟨n, P⟩ g F nx tk hs bd wh L w) (hav : ∀ q, av q → q < w.heap.size ∧ ¬ Live g tk hs bd wh q) (hnx : nx = stepV F.next) (hi : FI F) (hz : HZ F) (hw : Wh w n) (hl : l.length < 1099511627776) (hp : F.pos + l.length ≤ 4611686018427387904) (hv : ∀ w', Bl ⟨n, av⟩ w w' → BtAt w' v l) :
    Calls Tryz.prog 14 #[.pointer (some ⟨g, 0, none⟩), v] w (FeV ⟨n, av⟩ g F l w) := by
  have R := h.2.dropA hav
  replace hw : Wh w (⟨n, av⟩ : Bs).n := hw
  have B := h.1
  generalize (⟨n, av⟩ : Bs) = base at hv hw R ⊢
  clear hav
  obtain ⟨A, cp, hvs, _⟩ := hv w (Bl.refl base w)
  subst hvs
  have HB := Bl.refl base w
  have HV := Lib.hid hv
  have HW := Lib.hid hw
  have HFI := Lib.hid hi
  have HHZ := Lib.hid hz
  have HNX := Lib.hid hnx
  have c1 : w.cell? ⟨g, 1, none⟩ = some (.bool false) := by have := B.cell 1; rw [show (FdC F nx tk hs bd wh)[1]? = some (.bool F.shut) from rfl, hi.shut] at this; exact this
  clear h hv hw hi hz hnx
  go_enter Tryz.func14, Tryz.ntmps14
  go_wp2_with ((with_reducible refine is_store ?_); refine wpl_store_cell rfl 39 (.tmp 17) _ rfl g 12 rfl (.slice none 0 0) rfl _ _ B (show 12 < 16 by decide) one_sm rfl ?_; intro w1 hw; replace HB := HB.trans (R.store hw); replace R := R.row (Bes.row (X := fun q => q = g) hw rfl); replace B := hid_row hw B; simp only [FdC_12] at B; clear hw c1)
  go_loopw [20] (fun iv wr => ∃ (i : Nat) (G : Fs) (nx tk hs bd wh : Value) (L : List Mm), iv = .int .i64 (i : Int) ∧ i ≤ l.length ∧ runS { F with whole := [] } (l.take i) = .inl G ∧ IBox wr g 81 (FdC G nx tk hs bd wh) ∧ FdR base g G tk hs bd wh L wr ∧ nx = stepV G.next ∧ FI G ∧ HZ G ∧ G.whole.length ≤ i ∧ G.pos = F.pos + i ∧ Bl base w wr) (fun iv _ => match iv with | .int _ i => (l.length - i.toNat) | _ => 0)
  case atStart => exact ⟨0, { F with whole := [] }, nx, tk, hs, bd, .slice none 0 0, [], rfl, Nat.zero_le _, rfl, B, R, HNX.out, ⟨HFI.out.shut, HFI.out.head, HFI.out.tok, HFI.out.heads, HFI.out.body, HFI.out.next, HFI.out.ver, HFI.out.sta, HFI.out.val, HFI.out.wide, HFI.out.size, HFI.out.dig, HFI.out.early, HFI.out.state, HFI.out.some_, HFI.out.none_⟩, HHZ.out, Nat.zero_le _, rfl, HB⟩
  case round =>
    clear B R HB
    obtain ⟨i, G, nx2, tk2, hs2, bd2, wh2, L2, rfl, hi, hrun, B, R, rfl, hfi, hhz, hwl, hgp, HB⟩ := hrel
    by_cases hlt : i < l.length
    · obtain ⟨c, hc⟩ : ∃ c, l[i]? = some c := ⟨_, List.getElem?_eq_getElem hlt⟩
      obtain ⟨hr1, hr2⟩ := run_next hc hrun
      obtain ⟨gb, off, hA, hcell⟩ := bt_get (HV.out wr HB) rfl hc
      subst hA
      have HR1 := Lib.hid hr1
      have HR2 := Lib.hid hr2
      have HF2 := Lib.hid hfi
      have HZ2 := Lib.hid hhz
      have HWL := Lib.hid hwl
      have HGP := Lib.hid hgp
      clear hgp
      have c3 : wr.cell? ⟨g, 3, none⟩ = some (.int .i64 G.head) := B.cell 3
      have c4 : wr.cell? ⟨g, 4, none⟩ = some (.func (.func (stepId G.next)) #[] #[]) := B.cell 4
      have eg := enter_step G.next
      clear hr1 hr2 hrun hfi hhz hwl hc
      by_cases h8 : 8192 ≤ G.head
      · have HO : Hid (oneS G c = .bad 2) := Lib.hid (by unfold oneS; rw [if_pos h8])
        go_wp2_with (first
          | ((with_reducible refine is_store ?_); refine wpl_store_cell rfl 4 (.tmp 59) _ rfl g 1 rfl (.bool true) rfl _ _ B (show 1 < 16 by decide) one_b rfl ?_; intro w9 hw; replace HB := HB.trans (R.store hw); replace R := R.row (Bes.row (X := fun q => q = g) hw rfl); replace B := hid_row hw B; simp only [FdC_1] at B; clear hw))
        have h12 : ∀ w' : World, w'.heap = w9.heap → w'.cell? ⟨g, 12, none⟩ = some wh2 ∧ w'.cell? ⟨g, 2, none⟩ = some (.int .i64 (G.pos : Int)) := fun w' hh => ⟨(box_heap hh B).cell 12, (box_heap hh B).cell 2⟩
        refine wp_region_S (S := fun w' => w'.cell? ⟨g, 12, none⟩ = some wh2 ∧ w'.cell? ⟨g, 2, none⟩ = some (.int .i64 (G.pos : Int))) (by kernel_rfl) (fun w2 hh => h12 w2 hh) (fun w2 hh hbb HS => ?_)
        replace HB := HB.trans (Bl.of (hbb _ (Nat.le_refl _)) R.bl R.avl)
        replace R := R.below (hbb _ (Nat.le_refl _))
        replace B := box_heap hh B
        clear hh hbb h12
        refine TKC 0 60 rfl ?_
        try simp only [Act.put, zA, zB, zC]
        refine TKC 1 61 rfl ?_
        try simp only [Act.put, zA, zB, zC]
        refine TKC 2 62 rfl ?_
        try simp only [Act.put, zA, zB, zC]
        refine TKC 3 63 rfl ?_ (by (intro w hSw; (try dsimp only at hSw); have q1 := hSw.1; go_simp; try with_reducible rfl))
        try simp only [Act.put, zA, zB, zC]
        refine TKC 4 64 rfl ?_
        try simp only [Act.put, zA, zB, zC]
        refine TKC 5 65 rfl ?_
        try simp only [Act.put, zA, zB, zC]
        refine TKC 6 66 rfl ?_
        try simp only [Act.put, zA, zB, zC]
        refine TKC 7 67 rfl ?_ (by (intro w hSw; (try dsimp only at hSw); have q1 := hSw.2; go_simp; try with_reducible rfl))
        try simp only [Act.put, zA, zB, zC]
        refine TKC 8 68 rfl ?_
        try simp only [Act.put, zA, zB, zC]
        refine TKC 9 69 rfl ?_
        try simp only [Act.put, zA, zB, zC]
        refine TKC 13 4 rfl ?_
        try simp only [Act.put, zA, zB, zC]
        refine TKY 10 70 rfl (yields_bld (vals := [(0, .int .i64 (G.pos : Int)), (1, .iface 31 (.int .i64 2))]) (by kernel_rfl) (fault_build (G.pos : Int) 2) _ rfl rfl) ?_
        try simp only [Act.put, zA, zB, zC]
        refine wpAnyH_ready (rs := [11]) (by kernel_rfl) (by simp) ?_
        refine AllReadyH.cons (o := ⟨some 71, _, _, _, _, _⟩) rfl (fun K hK => ?_) AllReadyH.nil
        simp only [Region.wanted, if_true]
        refine op_box_at 85 _ rfl (FaultA (G.pos : Int) 2) rfl ?_
        intro w10 hw
        have hb := hid_grow hw
        have BF := (hid_alloc hw).1
        replace B := zI B hb
        replace HB := bl_add HB hb R
        replace R := R.below hb
        clear hb hw
        replace HS : w10.cell? ⟨g, 12, none⟩ = some wh2 ∧ w10.cell? ⟨g, 2, none⟩ = some (.int .i64 (G.pos : Int)) := ⟨B.cell 12, B.cell 2⟩
        refine hK.out _ _ HS (fun hS2 => ?_)
        clear hK K hS2
        try simp only [Act.put, zA, zB, zC]
        refine TKC 12 72 rfl ?_
        try simp only [Act.put, zA, zB, zC]
        refine TKC 14 5 rfl ?_
        try simp only [Act.put, zA, zB, zC]
        refine wpAnyH_done (by kernel_rfl) ?_ _
        go_wp2
        go_ret2
        exact ⟨HB, by unfold feedS; rw [HR2.out _ HO.out]; exact ⟨_, _, _, _, _, _, L2, _, rfl, fdm B (R.same rfl rfl rfl rfl), rfl, rfl, ⟨_, rfl, BF⟩⟩⟩
      · have hh8 : G.head < 8192 := by omega
        obtain ⟨n, hn⟩ : ∃ n, (if 0 ≤ G.head then G.head + 1 else G.head) = n := ⟨_, rfl⟩
        have HJ := Lib.hid (FI.j HF2.out n)
        have hk := step_k (f := { G with head := n }) (c := c) HF2.out.next
        have hgw : G.whole.length < 1099511627776 := by have := HWL.out; omega
        have HGW := Lib.hid hgw
        have HSA := Lib.hid (fun (w4 : World) (nx4 tk4 hs4 bd4 wh4 : Value) (L4 : List Mm) (h4 : FdM base g { G with head := n } nx4 tk4 hs4 bd4 wh4 L4 w4) (hw4 : Wh w4 base.n) => step_any (c := c) h4 HJ.out HZ2.out hw4 HGW.out HF2.out.next)
        have hoe : oneS G c = match stepS { G with head := n } c with | .bad e => .bad e | .ok g2 => .ok { g2 with pos := g2.pos + 1 } := by unfold oneS; rw [if_neg h8, hn]; rfl
        clear hgw
        cases hst : stepS { G with head := n } c with
        | bad k =>
          rw [hst] at hoe hk
          have HO : Hid (oneS G c = .bad k) := Lib.hid hoe
          have HST := Lib.hid hst
          have hkb : (k == 0) = false := by
            rcases hk with rfl | rfl | rfl | rfl <;> rfl
          clear hoe hst hk
          by_cases h0 : 0 ≤ G.head
          · rw [if_pos h0] at hn
            subst hn
            go_wp2_with (first
              | ((with_reducible refine is_store ?_); refine wpl_store_cell rfl 3 (.tmp 44) (.tmp 42) rfl g 3 rfl (.int .i64 (G.head + 1)) rfl _ _ B (show 3 < 16 by decide) one_i rfl ?_; intro w4 hw; replace HB := HB.trans (R.store hw); replace R := R.row (Bes.row (X := fun q => q = g) hw rfl); replace B := hid_row hw B; simp only [FdC_3] at B; clear hw; clear c4; have c4 : w4.cell? ⟨g, 4, none⟩ = some (.func (.func (stepId G.next)) #[] #[]) := B.cell 4)
              | ((with_reducible refine is_calls ?_); (have hM := HSA.out _ _ _ _ _ _ _ (fdm B (R.same rfl rfl rfl rfl)) (HW.out.below HB.b)); (refine hM.mono ?_); rintro e w5 hq; (unfold StV at hq); rw [HST.out] at hq; obtain ⟨hb, rfl, G3, nx3, tk3, hs3, bd3, wh3, L3, hm, g1, g2, g3⟩ := hq; replace B := hm.1; replace R := hm.2; replace HB := HB.trans hb; clear hM hm hb c4 c3; replace g1 := Lib.hid g1; replace g2 := Lib.hid g2; clear g3)
              | ((with_reducible refine is_store ?_); refine wpl_store_cell rfl 4 (.tmp 59) _ rfl g 1 rfl (.bool true) rfl _ _ B (show 1 < 16 by decide) one_b rfl ?_; intro w9 hw; replace HB := HB.trans (R.store hw); replace R := R.row (Bes.row (X := fun q => q = g) hw rfl); replace B := hid_row hw B; simp only [FdC_1] at B; clear hw))
            have h12 : ∀ w' : World, w'.heap = w9.heap → w'.cell? ⟨g, 12, none⟩ = some wh3 ∧ w'.cell? ⟨g, 2, none⟩ = some (.int .i64 (G3.pos : Int)) := fun w' hh => ⟨(box_heap hh B).cell 12, (box_heap hh B).cell 2⟩
            refine wp_region_S (S := fun w' => w'.cell? ⟨g, 12, none⟩ = some wh3 ∧ w'.cell? ⟨g, 2, none⟩ = some (.int .i64 (G3.pos : Int))) (by kernel_rfl) (fun w2 hh => h12 w2 hh) (fun w2 hh hbb HS => ?_)
            replace HB := HB.trans (Bl.of (hbb _ (Nat.le_refl _)) R.bl R.avl)
            replace R := R.below (hbb _ (Nat.le_refl _))
            replace B := box_heap hh B
            clear hh hbb h12
            refine TKC 0 60 rfl ?_
            try simp only [Act.put, zA, zB, zC]
            refine TKC 1 61 rfl ?_
            try simp only [Act.put, zA, zB, zC]
            refine TKC 2 62 rfl ?_
            try simp only [Act.put, zA, zB, zC]
            refine TKC 3 63 rfl ?_ (by (intro w hSw; (try dsimp only at hSw); have q1 := hSw.1; go_simp; try with_reducible rfl))
            try simp only [Act.put, zA, zB, zC]
            refine TKC 4 64 rfl ?_
            try simp only [Act.put, zA, zB, zC]
            refine TKC 5 65 rfl ?_
            try simp only [Act.put, zA, zB, zC]
            refine TKC 6 66 rfl ?_
            try simp only [Act.put, zA, zB, zC]
            refine TKC 7 67 rfl ?_ (by (intro w hSw; (try dsimp only at hSw); have q1 := hSw.2; go_simp; try with_reducible rfl))
            try simp only [Act.put, zA, zB, zC]
            refine TKC 8 68 rfl ?_
            try simp only [Act.put, zA, zB, zC]
            refine TKC 9 69 rfl ?_
            try simp only [Act.put, zA, zB, zC]
            refine TKC 13 4 rfl ?_
            try simp only [Act.put, zA, zB, zC]
            refine TKY 10 70 rfl (yields_bld (vals := [(0, .int .i64 (G3.pos : Int)), (1, .iface 31 (.int .i64 k))]) (by kernel_rfl) (fault_build (G3.pos : Int) k) _ rfl rfl) ?_
            try simp only [Act.put, zA, zB, zC]
            refine wpAnyH_ready (rs := [11]) (by kernel_rfl) (by simp) ?_
            refine AllReadyH.cons (o := ⟨some 71, _, _, _, _, _⟩) rfl (fun K hK => ?_) AllReadyH.nil
            simp only [Region.wanted, if_true]
            refine op_box_at 85 _ rfl (FaultA (G3.pos : Int) k) rfl ?_
            intro w10 hw
            have hb := hid_grow hw
            have BF := (hid_alloc hw).1
            replace B := zI B hb
            replace HB := bl_add HB hb R
            replace R := R.below hb
            clear hb hw
            replace HS : w10.cell? ⟨g, 12, none⟩ = some wh3 ∧ w10.cell? ⟨g, 2, none⟩ = some (.int .i64 (G3.pos : Int)) := ⟨B.cell 12, B.cell 2⟩
            refine hK.out _ _ HS (fun hS2 => ?_)
            clear hK K hS2
            try simp only [Act.put, zA, zB, zC]
            refine TKC 12 72 rfl ?_
            try simp only [Act.put, zA, zB, zC]
            refine TKC 14 5 rfl ?_
            try simp only [Act.put, zA, zB, zC]
            refine wpAnyH_done (by kernel_rfl) ?_ _
            go_wp2
            go_ret2
            exact ⟨HB, by unfold feedS; rw [HR2.out _ HO.out]; exact ⟨_, _, _, _, _, _, L3, _, rfl, fdm B (R.same rfl rfl rfl rfl), rfl, g2.out, ⟨_, rfl, by rw [show G.pos = G3.pos from g1.out.symm]; exact BF⟩⟩⟩
          · rw [if_neg h0] at hn
            subst hn
            go_wp2_with (first
              | ((with_reducible refine is_calls ?_); (have hM := HSA.out _ _ _ _ _ _ _ (fdm B (R.same rfl rfl rfl rfl)) (HW.out.below HB.b)); (refine hM.mono ?_); rintro e w5 hq; (unfold StV at hq); rw [HST.out] at hq; obtain ⟨hb, rfl, G3, nx3, tk3, hs3, bd3, wh3, L3, hm, g1, g2, g3⟩ := hq; replace B := hm.1; replace R := hm.2; replace HB := HB.trans hb; clear hM hm hb c4 c3; replace g1 := Lib.hid g1; replace g2 := Lib.hid g2; clear g3)
              | ((with_reducible refine is_store ?_); refine wpl_store_cell rfl 4 (.tmp 59) _ rfl g 1 rfl (.bool true) rfl _ _ B (show 1 < 16 by decide) one_b rfl ?_; intro w9 hw; replace HB := HB.trans (R.store hw); replace R := R.row (Bes.row (X := fun q => q = g) hw rfl); replace B := hid_row hw B; simp only [FdC_1] at B; clear hw))
            have h12 : ∀ w' : World, w'.heap = w9.heap → w'.cell? ⟨g, 12, none⟩ = some wh3 ∧ w'.cell? ⟨g, 2, none⟩ = some (.int .i64 (G3.pos : Int)) := fun w' hh => ⟨(box_heap hh B).cell 12, (box_heap hh B).cell 2⟩
            refine wp_region_S (S := fun w' => w'.cell? ⟨g, 12, none⟩ = some wh3 ∧ w'.cell? ⟨g, 2, none⟩ = some (.int .i64 (G3.pos : Int))) (by kernel_rfl) (fun w2 hh => h12 w2 hh) (fun w2 hh hbb HS => ?_)
            replace HB := HB.trans (Bl.of (hbb _ (Nat.le_refl _)) R.bl R.avl)
            replace R := R.below (hbb _ (Nat.le_refl _))
            replace B := box_heap hh B
            clear hh hbb h12
            refine TKC 0 60 rfl ?_
            try simp only [Act.put, zA, zB, zC]
            refine TKC 1 61 rfl ?_
            try simp only [Act.put, zA, zB, zC]
            refine TKC 2 62 rfl ?_
            try simp only [Act.put, zA, zB, zC]
            refine TKC 3 63 rfl ?_ (by (intro w hSw; (try dsimp only at hSw); have q1 := hSw.1; go_simp; try with_reducible rfl))
            try simp only [Act.put, zA, zB, zC]
            refine TKC 4 64 rfl ?_
            try simp only [Act.put, zA, zB, zC]
            refine TKC 5 65 rfl ?_
            try simp only [Act.put, zA, zB, zC]
            refine TKC 6 66 rfl ?_
            try simp only [Act.put, zA, zB, zC]
            refine TKC 7 67 rfl ?_ (by (intro w hSw; (try dsimp only at hSw); have q1 := hSw.2; go_simp; try with_reducible rfl))
            try simp only [Act.put, zA, zB, zC]
            refine TKC 8 68 rfl ?_
            try simp only [Act.put, zA, zB, zC]
            refine TKC 9 69 rfl ?_
            try simp only [Act.put, zA, zB, zC]
            refine TKC 13 4 rfl ?_
            try simp only [Act.put, zA, zB, zC]
            refine TKY 10 70 rfl (yields_bld (vals := [(0, .int .i64 (G3.pos : Int)), (1, .iface 31 (.int .i64 k))]) (by kernel_rfl) (fault_build (G3.pos : Int) k) _ rfl rfl) ?_
            try simp only [Act.put, zA, zB, zC]
            refine wpAnyH_ready (rs := [11]) (by kernel_rfl) (by simp) ?_
            refine AllReadyH.cons (o := ⟨some 71, _, _, _, _, _⟩) rfl (fun K hK => ?_) AllReadyH.nil
            simp only [Region.wanted, if_true]
            refine op_box_at 85 _ rfl (FaultA (G3.pos : Int) k) rfl ?_
            intro w10 hw
            have hb := hid_grow hw
            have BF := (hid_alloc hw).1
            replace B := zI B hb
            replace HB := bl_add HB hb R
            replace R := R.below hb
            clear hb hw
            replace HS : w10.cell? ⟨g, 12, none⟩ = some wh3 ∧ w10.cell? ⟨g, 2, none⟩ = some (.int .i64 (G3.pos : Int)) := ⟨B.cell 12, B.cell 2⟩
            refine hK.out _ _ HS (fun hS2 => ?_)
            clear hK K hS2
            try simp only [Act.put, zA, zB, zC]
            refine TKC 12 72 rfl ?_
            try simp only [Act.put, zA, zB, zC]
            refine TKC 14 5 rfl ?_
            try simp only [Act.put, zA, zB, zC]
            refine wpAnyH_done (by kernel_rfl) ?_ _
            go_wp2
            go_ret2
            exact ⟨HB, by unfold feedS; rw [HR2.out _ HO.out]; exact ⟨_, _, _, _, _, _, L3, _, rfl, fdm B (R.same rfl rfl rfl rfl), rfl, g2.out, ⟨_, rfl, by rw [show G.pos = G3.pos from g1.out.symm]; exact BF⟩⟩⟩
        | ok g2 =>
          rw [hst] at hoe hk
          have HO : Hid (oneS G c = .ok { g2 with pos := g2.pos + 1 }) := Lib.hid hoe
          have HST := Lib.hid hst
          obtain ⟨_, _, hpos⟩ := hk
          have hpos2 : g2.pos = G.pos := hpos
          have hpb : g2.pos + 1 ≤ 4611686018427387904 := by have := HGP.out; omega
          have HP2 := Lib.hid hpos2
          clear hoe hst hpos hpos2
          by_cases h0 : 0 ≤ G.head
          · rw [if_pos h0] at hn
            subst hn
            go_wp2_with (first
              | ((with_reducible refine is_store ?_); refine wpl_store_cell rfl 3 (.tmp 44) (.tmp 42) rfl g 3 rfl (.int .i64 (G.head + 1)) rfl _ _ B (show 3 < 16 by decide) one_i rfl ?_; intro w4 hw; replace HB := HB.trans (R.store hw); replace R := R.row (Bes.row (X := fun q => q = g) hw rfl); replace B := hid_row hw B; simp only [FdC_3] at B; clear hw; clear c4; have c4 : w4.cell? ⟨g, 4, none⟩ = some (.func (.func (stepId G.next)) #[] #[]) := B.cell 4)
              | ((with_reducible refine is_calls ?_); (have hM := HSA.out _ _ _ _ _ _ _ (fdm B (R.same rfl rfl rfl rfl)) (HW.out.below HB.b)); (refine hM.mono ?_); rintro e w5 hq; (unfold StV at hq); rw [HST.out] at hq; obtain ⟨hb, rfl, nx3, tk3, hs3, bd3, wh3, L3, hm⟩ := hq; replace B := hm.1; replace R := hm.2; replace HB := HB.trans hb; clear hM hm hb c4 c3)
              | ((with_reducible refine is_store ?_); refine wpl_store_cell rfl 79 (.tmp 76) (.tmp 74) rfl g 4 rfl (stepV g2.next) rfl _ _ B (show 4 < 16 by decide) one_st rfl ?_; intro w7 hw; replace HB := HB.trans (R.store hw); replace R := R.row (Bes.row (X := fun q => q = g) hw rfl); replace B := hid_row hw B; simp only [FdC_4] at B; clear hw; have c2 : w7.cell? ⟨g, 2, none⟩ = some (.int .i64 (g2.pos : Int)) := B.cell 2)
              | ((with_reducible refine is_store ?_); refine wpl_store_cell rfl 3 (.tmp 83) (.tmp 81) rfl g 2 rfl (.int .i64 ((g2.pos + 1 : Nat) : Int)) rfl _ _ B (show 2 < 16 by decide) one_i rfl ?_; intro w8 hw; replace HB := HB.trans (R.store hw); replace R := R.row (Bes.row (X := fun q => q = g) hw rfl); replace B := hid_row hw B; simp only [FdC_2] at B; clear hw))
            have hke := one_keep HF2.out HZ2.out HO.out
            go_roundw
            case rel => exact ⟨i + 1, { g2 with pos := g2.pos + 1 }, _, _, _, _, _, L3, rfl, by omega, HR1.out _ HO.out, B, R.same rfl rfl rfl rfl, rfl, hke.1, hke.2.1, by have := hke.2.2.1; have := HWL.out; omega, by show g2.pos + 1 = _; have := HP2.out; have := HGP.out; omega, HB⟩
            case measure => (simp only; omega)
          · rw [if_neg h0] at hn
            subst hn
            go_wp2_with (first
              | ((with_reducible refine is_calls ?_); (have hM := HSA.out _ _ _ _ _ _ _ (fdm B (R.same rfl rfl rfl rfl)) (HW.out.below HB.b)); (refine hM.mono ?_); rintro e w5 hq; (unfold StV at hq); rw [HST.out] at hq; obtain ⟨hb, rfl, nx3, tk3, hs3, bd3, wh3, L3, hm⟩ := hq; replace B := hm.1; replace R := hm.2; replace HB := HB.trans hb; clear hM hm hb c4 c3)
              | ((with_reducible refine is_store ?_); refine wpl_store_cell rfl 79 (.tmp 76) (.tmp 74) rfl g 4 rfl (stepV g2.next) rfl _ _ B (show 4 < 16 by decide) one_st rfl ?_; intro w7 hw; replace HB := HB.trans (R.store hw); replace R := R.row (Bes.row (X := fun q => q = g) hw rfl); replace B := hid_row hw B; simp only [FdC_4] at B; clear hw; have c2 : w7.cell? ⟨g, 2, none⟩ = some (.int .i64 (g2.pos : Int)) := B.cell 2)
              | ((with_reducible refine is_store ?_); refine wpl_store_cell rfl 3 (.tmp 83) (.tmp 81) rfl g 2 rfl (.int .i64 ((g2.pos + 1 : Nat) : Int)) rfl _ _ B (show 2 < 16 by decide) one_i rfl ?_; intro w8 hw; replace HB := HB.trans (R.store hw); replace R := R.row (Bes.row (X := fun q => q = g) hw rfl); replace B := hid_row hw B; simp only [FdC_2] at B; clear hw))
            have hke := one_keep HF2.out HZ2.out HO.out
            go_roundw
            case rel => exact ⟨i + 1, { g2 with pos := g2.pos + 1 }, _, _, _, _, _, L3, rfl, by omega, HR1.out _ HO.out, B, R.same rfl rfl rfl rfl, rfl, hke.1, hke.2.1, by have := hke.2.2.1; have := HWL.out; omega, by show g2.pos + 1 = _; have := HP2.out; have := HGP.out; omega, HB⟩
            case measure => (simp only; omega)
    · obtain rfl : i = l.length := by omega
      rw [List.take_length] at hrun
      have HRU := Lib.hid hrun
      have c12 : wr.cell? ⟨g, 12, none⟩ = some wh2 := B.cell 12
      clear hrun
      go_wp2
      go_ret2
      exact ⟨HB, by unfold feedS; rw [HRU.out]; exact ⟨_, _, _, _, _, _, rfl, fdm B R, rfl, hfi, hhz⟩⟩
theorem feed_any {base : Bs} {g : Nat} {F : Fs} {nx tk hs bd wh v : Value} {L : List Mm} {w : World} {l : List UInt8} (h : FdM base g F nx tk hs bd wh L w) (hnx : nx = stepV F.next) (hi : FI F) (hz : HZ F) (hw : Wh w base.n) (hl : l.length < 1099511627776) (hp : F.pos + l.length ≤ 4611686018427387904) (hv : ∀ w', Bl base w w' → BtAt w' v l) :
    Calls Tryz.prog 14 #[.pointer (some ⟨g, 0, none⟩), v] w (FeV base g F l w) := feed_anyA (n := base.n) (P := base.av) (av := base.av) h (fun q e => ⟨h.2.avl q e, fun l => h.2.off q l e⟩) hnx hi hz hw hl hp hv
end Go.Proofs.YtbehakabglegjaaGreatDoor
