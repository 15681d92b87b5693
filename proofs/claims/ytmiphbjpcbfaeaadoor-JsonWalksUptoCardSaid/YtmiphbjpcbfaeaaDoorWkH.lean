/- Layer 2: one round of JsonWalks' loop over a walk, with the loop within it. -/
import Derived.Test.YtmiphbjpcbfaeaaDoorWkG
import Derived.Test.YtmiphbjpcbfaeaaDoorWkE
namespace Go.Proofs.YtmiphbjpcbfaeaaDoor
open Go.RowKit Go.PlainAid
set_option linter.unusedVariables false
set_option linter.unusedSimpArgs false
attribute [local go_sem] Oper.semAt_some
section
variable {F : Fence} {n : Nat} {P : Program} {ops : Array Oper} {rest : List Oper} {o : Oper} {a : Act} {w : World} {Q : Exit → Act → World → Prop}
theorem wplIn_store_cell (hgd : o.guard = none) (ty : TypeId) (x y : Operand) (ho : o.op = .store ty x y) (g : Nat) (hx : a.eval x = .pointer (some ⟨g, 0, none⟩)) (v : Value) (hy : a.eval y = v)
    (t : TypeId) (u : Value) (hg : IBox w g t #[u]) (hi : (P.info? ty).map (·.size) = some 1) (h1 : v.oneCell' = true)
    (h : ∀ w', Hid (w' = w.setRow g #[v]) → wpListIn F n P ops Q rest (a.put o.dst undef) w') : wpListIn F n P ops Q (o :: rest) a w := by
  have hc : v.cells = #[v] := by cases v <;> first | rfl | cases h1
  have ht : w.there g 0 1 := fun j hj => by
    obtain rfl : j = 0 := by omega
    exact ⟨by rw [Nat.add_zero, hg.cell 0]; rfl, hg.frozen 0⟩
  have hrun : (storeVar ty ⟨g, 0, none⟩ v).run P w = .ok () (w.setCells g 0 [v]) := by
    have := run_storeVar_mid (P := P) w g 0 ty #[v] ht hi (by simp [h1])
    unfold storeVar at this ⊢
    rw [hc]
    exact this
  have hset : w.setCells g 0 [v] = w.setRow g #[v] := by
    have := setCell_eq_setRow w g 0 #[u] t (0, 0) v hg
    simp [World.setCells]
    simpa using this
  refine wpListIn_plain hgd fun K hK => ?_
  unfold Oper.wpIn
  refine ⟨by simp [Oper.about, ho], ?_⟩
  rw [Oper.semAt_plain F _ _ (by rw [ho]; intro c hc'; cases hc')]
  unfold execOp
  simp only [ho, hx, hy, Instr.storeAt, Instr.sureAddr, Sem.run_bind, Sem.run_pure, Result.andThen_ok, hrun]
  rw [hset]
  exact hK _ _ (h _ rfl)
theorem wplIn_newcell {o2 : Oper} (d : Tmp) (hgd : o.guard = none) (hdst : o.dst = some d) (ty : TypeId) (ho : o.op = .alloc ty) (hgd2 : o2.guard = none) (y : Operand) (ho2 : o2.op = .store ty (.tmp d) y) (z : Value) (hz : ∀ w, (zeroValue ty).run P w = .ok z w) (hz1 : z.cells = #[z])
    (v : Value) (hx : (a.put o.dst (.pointer (some ⟨w.heap.size, 0, none⟩))).eval (.tmp d) = .pointer (some ⟨w.heap.size, 0, none⟩)) (hy : (a.put o.dst (.pointer (some ⟨w.heap.size, 0, none⟩))).eval y = v)
    (hi : (P.info? ty).map (·.size) = some 1) (h1 : v.oneCell' = true)
    (h : ∀ w', Hid (w' = w.alloc (.cells #[v] ty)) → wpListIn F n P ops Q rest ((a.put o.dst (.pointer (some ⟨w.heap.size, 0, none⟩))).put o2.dst undef) w') : wpListIn F n P ops Q (o :: o2 :: rest) a w := by
  refine wpListIn_plain hgd fun K hK => ?_
  unfold Oper.wpIn
  refine ⟨by simp [Oper.about, ho], ?_⟩
  rw [Oper.semAt_plain F _ _ (by rw [ho]; intro c hc'; cases hc')]
  unfold execOp
  simp [ho, Instr.alloc, Sem.run_bind, hz, newVar, hz1]
  refine hK _ _ ?_
  refine wplIn_store_cell hgd2 ty (.tmp d) y ho2 w.heap.size hx v hy ty z (IBox.new _ _ _) hi h1 fun w' hw' => h w' ?_
  have e := hw'.out
  rw [e]
  exact World.setRow_alloc_new w #[z] #[v] ty
theorem is_storeIn {d : Option Tmp} {ty : TypeId} {x y : Operand} {tt : TypeId} {ps : String} {af : Array Edge} {gd : Option (Nat × Bool)} (h : wpListIn F n P ops Q (⟨d, .store ty x y, tt, ps, af, gd⟩ :: rest) a w) : wpListIn F n P ops Q (⟨d, .store ty x y, tt, ps, af, gd⟩ :: rest) a w := h
theorem is_allocIn {d : Option Tmp} {ty : TypeId} {tt : TypeId} {ps : String} {af : Array Edge} {gd : Option (Nat × Bool)} (h : wpListIn F n P ops Q (⟨d, .alloc ty, tt, ps, af, gd⟩ :: rest) a w) : wpListIn F n P ops Q (⟨d, .alloc ty, tt, ps, af, gd⟩ :: rest) a w := h
end
theorem plcL_get : ∀ {L : List Pl} {k : Nat} {p : Pl}, L[k]? = some p → ∀ (i : Nat) (v : Value), (plc p)[i]? = some v → (plcL L)[k * 7 + i]? = some v
  | [], k, p, h, i, v, _ => by simp at h
  | q :: r, 0, p, h, i, v, hv => by
    obtain rfl : q = p := by simpa using h
    have e : plcL (q :: r) = plc q ++ plcL r := rfl
    have hi := (List.getElem?_eq_some_iff.1 hv).1
    rw [e, Nat.zero_mul, Nat.zero_add, List.getElem?_append_left hi]
    exact hv
  | q :: r, k + 1, p, h, i, v, hv => by
    have e : plcL (q :: r) = plc q ++ plcL r := rfl
    have h2 : r[k]? = some p := by simpa using h
    rw [e, List.getElem?_append_right (by rw [plc_len]; omega), plc_len, show (k + 1) * 7 + i - 7 = k * 7 + i by omega]
    exact plcL_get h2 i v hv
/-- The places lie where the row says. -/
theorem own_place {w : World} {base : Nat} {A : Option Addr} {n c : Nat} {L : List Pl} (h : OwnP w base (.slice A n c) L) {k : Nat} {p : Pl} (hk : L[k]? = some p) : ∃ g, A = some ⟨g, 0, none⟩ ∧ base ≤ g ∧ w.rangeAt g (k * 7) (plc p) := by
  obtain ⟨h1, h2⟩ := h
  have hkl := (List.getElem?_eq_some_iff.1 hk).1
  rcases h2 with ⟨_, h0⟩ | ⟨g, cap, cur, hv, hb, hg, hn, hc, hsz, htake⟩
  · omega
  · injection hv with e1 e2 e3
    subst e1
    refine ⟨g, rfl, hb, fun i v hv => ?_⟩
    have h3 := plcL_get hk i v hv
    rw [← htake, List.getElem?_take] at h3
    have h4 : w.cell? ⟨g, k * 7 + i, none⟩ = cur[k * 7 + i]? := cell_of_row w g _ cur _ _ hg
    rw [h4]
    split at h3
    · simpa using h3
    · cases h3
theorem ind_some {α : Type} {l : List α} {k : Nat} (h : k < l.length) : ∃ x, l[k]? = some x := ⟨l[k], List.getElem?_eq_getElem h⟩
theorem zero_int (w : World) : (zeroValue 3).run Tryd.prog w = .ok (.int .i64 0) w := by kernel_rfl
theorem kk_grown {Bs nb : Nat} {A W W' : World} {row : Option Nat} (hB : Bs ≤ A.heap.size) (h : KK Bs nb A W) (hg : W.grownBy W' row) (hr : ∀ r, row = some r → Bs ≤ r ∧ ∃ o : Obj, W.heap[r]? = some o ∧ o.isCells = false) : KK Bs nb A W' := by
  refine ⟨⟨hg.os.trans h.1.1, hg.tape.trans h.1.2.1, hg.output.trans h.1.2.2.1, Nat.le_trans h.1.2.2.2 hg.size⟩, fun k hk => ⟨fun hl => ?_, fun arr t fr ha => ?_⟩⟩
  · refine (hg.block k (Nat.lt_of_lt_of_le hl (Nat.le_trans hB h.1.2.2.2)) fun e => ?_).trans ((h.2 k hk).1 hl)
    exact Nat.lt_irrefl _ (Nat.lt_of_lt_of_le hl (hr k e.symm).1)
  · have h1 := (h.2 k hk).2 arr t fr ha
    refine (hg.block k (Array.getElem?_eq_some_iff.1 h1).1 fun e => ?_).trans h1
    obtain ⟨_, o, h2, h3⟩ := hr k e.symm
    rw [h1] at h2
    cases h2
    cases h3
theorem box_grown {B : Nat} {W W' : World} {row : Option Nat} {g : Nat} {t : TypeId} {arr : Array Value} (h : IBox W g t arr) (hg : W.grownBy W' row) (hr : ∀ r, row = some r → B ≤ r ∧ ∃ o : Obj, W.heap[r]? = some o ∧ o.isCells = false) : IBox W' g t arr := by
  refine (hg.block g h.lt fun e => ?_).trans h
  obtain ⟨_, o, h2, h3⟩ := hr g e.symm
  have h4 : W.heap[g]? = some (.cells arr t (0, 0)) := h
  rw [h4] at h2
  cases h2
  cases h3
theorem kk_put {Bs nb : Nat} (W : World) (l : Nat) (o o' : Obj) (hl : Bs ≤ l) (h : W.heap[l]? = some o) (ho : o.isCells = false) : KK Bs nb W (W.putObj l o') := by
  have hg := grownBy_putObj' W l o'
  have hlt := (Array.getElem?_eq_some_iff.1 h).1
  refine ⟨⟨hg.os, hg.tape, hg.output, hg.size⟩, fun k hk => ⟨fun h1 => hg.block k (by omega) (fun e => by have := Option.some.inj e; omega), fun arr t fr ha => ?_⟩⟩
  refine (hg.block k (Array.getElem?_eq_some_iff.1 ha).1 fun e => ?_).trans ha
  obtain rfl : k = l := Option.some.inj e
  rw [ha] at h
  cases h
  cases ho
theorem keeps_below {B : Nat} {W W' : World} (h : Below W.heap.size W W') : KeepsFrom B W W' := ⟨h.size, fun k o _ hk _ => (h.block k (Array.getElem?_eq_some_iff.1 hk).1).trans hk⟩
theorem keeps_kk {B nb : Nat} {W W' : World} {t : TypeId} {arr : Array Value} (h : KK W.heap.size nb W W') (hI : IBox W nb t arr) : KeepsFrom B W W' := by
  refine ⟨h.1.2.2.2, fun k o _ hk ho => ((h.2 k (fun e => ?_)).1 (Array.getElem?_eq_some_iff.1 hk).1).trans hk⟩
  subst e
  have h4 : W.heap[k]? = some (.cells arr t (0, 0)) := hI
  rw [h4] at hk
  cases hk
  cases ho
theorem kk_set {Bs nb : Nat} {W W' : World} {arr : Array Value} (h : Hid (W' = W.setRow nb arr)) : KK Bs nb W W' := by
  have e := h.out
  subst e
  refine ⟨⟨rfl, rfl, rfl, by rw [size_setRow]; exact Nat.le_refl _⟩, fun k hk => ⟨fun _ => setRow_other W nb k arr hk, fun a t fr ha => (setRow_other W nb k arr hk).trans ha⟩⟩
theorem pre_get {α : Type} {a l : List α} {x : α} (h : a ++ [x] <+: l) : l[a.length]? = some x := by
  obtain ⟨r, rfl⟩ := h
  simp
theorem pre_left {α : Type} {a l : List α} {x : α} (h : a ++ [x] <+: l) : a <+: l := by
  obtain ⟨r, rfl⟩ := h
  exact ⟨x :: r, by simp⟩
abbrev PP (j : JV) : List Pl := walkT j ⟨#[]⟩
def IO (j : JV) (Bs nb : Nat) (W0 : World) (s : Nat) (pre : List Pl) (W : World) : Prop := KK Bs nb W0 W ∧ ∃ m : Nat, IBox W nb 3 #[.int .i64 m] ∧ m ≤ s ∧ (pre <+: PP j → m = pre.length)
def IX (j : JV) (e Bs nb : Nat) (W0 : World) (s : Nat) (c : Code) (pre : List Pl) (W : World) : Prop := (c = .ret ∧ ¬ pre <+: PP j) ∨ (c = .exit e ∧ KK Bs nb W0 W ∧ IBox W nb 3 #[.int .i64 s])
theorem io_own {j : JV} {Bs nb : Nat} {W0 : World} {s : Nat} (hB : Bs ≤ W0.heap.size) : OwnFrom Bs (IO j Bs nb W0 s) := by
  intro pre W W' row h hg hr
  obtain ⟨h1, m, h2, h3⟩ := h
  exact ⟨kk_grown hB h1 hg hr, m, box_grown h2 hg hr, h3⟩
theorem ix_own {j : JV} {e Bs nb : Nat} {W0 : World} {s : Nat} (hB : Bs ≤ W0.heap.size) (c : Code) : OwnFrom Bs (IX j e Bs nb W0 s c) := by
  intro pre W W' row h hg hr
  rcases h with h | ⟨h1, h2, h3⟩
  · exact .inl h
  · exact .inr ⟨h1, kk_grown hB h2 hg hr, box_grown h3 hg hr⟩
/-- The marks of loops that are over. -/
def mark (D : Nat) : Deferred := { target := .collected D, args := #[] }
def DsOK (base : Nat) (ds : List Deferred) (W : World) : Prop := ∃ Ds : List Nat, ds = Ds.map mark ∧ Ds.Nodup ∧ ∀ D ∈ Ds, base ≤ D ∧ W.heap[D]? = some (.deferred (some []))
theorem DsOK.nil (base : Nat) (W : World) : DsOK base [] W := ⟨[], rfl, List.nodup_nil, fun _ h => by cases h⟩
theorem DsOK.below {base : Nat} {ds : List Deferred} {W W' : World} (h : DsOK base ds W) (hb : Below W.heap.size W W') : DsOK base ds W' := by
  obtain ⟨Ds, e, h1, h2⟩ := h
  exact ⟨Ds, e, h1, fun D hD => ⟨(h2 D hD).1, (hb.block D (Array.getElem?_eq_some_iff.1 (h2 D hD).2).1).trans (h2 D hD).2⟩⟩
theorem DsOK.kk {base nb : Nat} {ds : List Deferred} {W W' : World} (h : DsOK base ds W) (hb : KK W.heap.size nb W W') {t : TypeId} {arr : Array Value} (hI : IBox W nb t arr) : DsOK base ds W' := by
  obtain ⟨Ds, e, h1, h2⟩ := h
  refine ⟨Ds, e, h1, fun D hD => ⟨(h2 D hD).1, ?_⟩⟩
  have h3 := (h2 D hD).2
  refine ((hb.2 D (fun e => ?_)).1 (Array.getElem?_eq_some_iff.1 h3).1).trans h3
  subst e
  have h4 : W.heap[D]? = some (.cells arr t (0, 0)) := hI
  rw [h3] at h4
  cases h4
theorem DsOK.row {base g : Nat} {ds : List Deferred} {W W' : World} {t : TypeId} {old arr : Array Value} (h : DsOK base ds W) (hI : IBox W g t old) (hw : Hid (W' = W.setRow g arr)) : DsOK base ds W' := DsOK.kk h (kk_set hw) hI
theorem DsOK.cons {base D : Nat} {ds : List Deferred} {W : World} (h : DsOK base ds W) (hD : base ≤ D) (hnew : W.heap[D]? = some (.deferred (some []))) (hfr : ∃ W0 : World, DsOK base ds W0 ∧ W0.heap.size ≤ D) : DsOK base (mark D :: ds) W := by
  obtain ⟨Ds, e, h1, h2⟩ := h
  refine ⟨D :: Ds, by rw [e]; rfl, List.nodup_cons.2 ⟨fun hm => ?_, h1⟩, fun E hE => ?_⟩
  · obtain ⟨W0, ⟨Es, e2, _, h4⟩, h5⟩ := hfr
    have h6 : mark D ∈ Es.map mark := by rw [← e2, e]; exact List.mem_map_of_mem hm
    obtain ⟨x, hx, hxe⟩ := List.mem_map.1 h6
    have : x = D := by unfold mark at hxe; simpa using hxe
    subst this
    have := (Array.getElem?_eq_some_iff.1 (h4 x hx).2).1
    omega
  · rcases List.mem_cons.1 hE with rfl | hE
    · exact ⟨hD, hnew⟩
    · exact h2 E hE
theorem leaves_marks {base n : Nat} {P : Program} {fn : Func} {tmps : Array Value} {R : Ending → World → Prop} : ∀ (Ds : List Nat) (W : World), Ds.Nodup → (∀ D ∈ Ds, base ≤ D ∧ W.heap[D]? = some (.deferred (some []))) →
    (∀ W', (∀ (g : Nat) (t : TypeId) (arr : Array Value), IBox W g t arr → IBox W' g t arr) → Below base W W' → ∃ v, (results fn tmps).run P W' = .ok v W' ∧ R (.returned v) W') → LeavesInM Fence.wide n P fn tmps R (Ds.map mark) .returning W
  | [], W, _, _, h => h W (fun _ _ _ h => h) (Below.refl _ _)
  | D :: Ds, W, hn, hd, h => by
    obtain ⟨h1, h2⟩ := hd D (List.mem_cons_self)
    have hg := grownBy_putObj' W D (.deferred none)
    have hrow : ∀ r, some D = some r → base ≤ r ∧ ∃ o : Obj, W.heap[r]? = some o ∧ o.isCells = false := fun r e => by cases e; exact ⟨h1, _, h2, rfl⟩
    have hbl : Below base W (W.putObj D (.deferred none)) := ⟨hg.os, hg.tape, hg.output, hg.size, fun k hk => hg.block k (by have := (Array.getElem?_eq_some_iff.1 h2).1; omega) (fun e => by have := Option.some.inj e; omega)⟩
    refine ⟨by simp, .inl ⟨D, W.putObj D (.deferred none), rfl, run_takeDeferred h2, ?_⟩⟩
    refine leaves_marks Ds _ (List.nodup_cons.1 hn).2 (fun E hE => ?_) (fun W' hb hk => h W' (fun g t arr hI => hb g t arr (box_grown hI hg hrow)) (hbl.trans hk))
    obtain ⟨h3, h4⟩ := hd E (List.mem_cons_of_mem _ hE)
    refine ⟨h3, (hg.block E (Array.getElem?_eq_some_iff.1 h4).1 fun e => ?_).trans h4⟩
    obtain rfl : E = D := Option.some.inj e
    exact (List.nodup_cons.1 hn).1 hE
theorem loop_below {W W' : World} {l : Nat} {r : Loop} (h : W.heap[l]? = some (.loop r)) (hb : Below W.heap.size W W') : W'.heap[l]? = some (.loop r) := (hb.block l (Array.getElem?_eq_some_iff.1 h).1).trans h
theorem loop_row {W W' : World} {l nb : Nat} {r : Loop} {t : TypeId} {arr arr' : Array Value} (h : W.heap[l]? = some (.loop r)) (hI : IBox W nb t arr) (hw : Hid (W' = W.setRow nb arr')) : W'.heap[l]? = some (.loop r) := by
  have e := hw.out
  subst e
  refine (setRow_other W nb l arr' (fun e => ?_)).trans h
  subst e
  have h4 : W.heap[l]? = some (.cells arr t (0, 0)) := hI
  rw [h] at h4
  cases h4
set_option maxRecDepth 100000 in
set_option maxHeartbeats 16000000 in
theorem wk_body {w w7 Wl X : World} {j : JV} {b4 b6 b7 b9 nb g17 gx n4 c4 s m l base3 : Nat} {A4 : Option Addr} {pre : List Pl} {xp : ByteArray} {xv : VM} {rr : Loop} (z0 z1 z2 z3 z5 z8 z13 z14 z15 z16 z17 z18 z19 z20 z21 z22 z23 z24 z25 z26 z27 z28 z29 z30 z31 z32 z33 z34 z35 z36 z37 z38 z39 z40 z41 z42 z43 z44 z45 z46 z47 z48 z49 z50 z51 z52 z53 z54 z55 z56 z57 z58 z59 z60 z61 z62 z63 z64 z65 z66 z67 z68 z69 z70 z71 z72 z73 z74 z75 z76 z77 z78 z79 z80 z81 z82 z83 z84 z85 z86 z87 z88 z89 z90 z91 z92 z93 z94 z95 z96 z97 z98 z99 z100 z101 z102 z103 z104 z105 z106 z107 z108 z109 z110 z111 z112 z113 z114 z115 z116 z117 z118 z119 z120 z121 z122 z123 z124 z125 z126 z127 z128 z129 z130 z131 z132 z133 z134 z135 z136 z137 z138 z139 z140 z141 z142 z143 z144 z145 z146 z147 z148 z149 z150 z151 z152 z153 z154 : Value)
    (HT : Hid (∀ W, Below w.heap.size w W → Tab10 W)) (HJ0 : IsJV w j) (HSZ : Hid (SzT (er j) ≤ 1048576)) (HBW : Hid (Below w.heap.size w Wl))
    (HO : OwnP w7 base3 (.slice A4 n4 c4) ((PP j).take 200)) (HN4 : Hid (n4 = ((PP j).take 200).length))
    (h4 : IBox Wl b4 4 #[.bool false]) (h6 : IBox Wl b6 27 #[.slice A4 n4 c4]) (h7 : IBox Wl b7 30 #[.func (.func 12) #[] #[.pointer (some ⟨g17, 0, none⟩)]]) (h9 : IBox Wl b9 3 #[.int .i64 s]) (h17 : IBox Wl g17 25 j.cells)
    (n4' : b4 ≠ nb) (n6 : b6 ≠ nb) (n7 : b7 ≠ nb) (n9 : b9 ≠ nb) (n17 : g17 ≠ nb) (h7l : Below w7.heap.size w7 Wl) (h7n : w7.heap.size ≤ nb) (hwn : w.heap.size ≤ nb) (hnl : nb < Wl.heap.size) (hs200 : s ≤ 200)
    (hrr : X.heap[l]? = some (.loop rr)) (hkk0 : KK Wl.heap.size nb Wl X) (Bm : IBox X nb 3 #[.int .i64 m]) (hms : m ≤ s) (hpm : pre <+: PP j → m = pre.length) (BX : IBox X gx 25 xv.cells) :
    wkBody.wpIn (Fence.wide.inRound l) 18 Tryd.prog (ownPostG Wl.heap.size (KK Wl.heap.size nb) (IO j Wl.heap.size nb Wl s) (IX j 2 Wl.heap.size nb Wl s) (pre ++ [(xp, xv)]) X) { tmps := #[z0, z1, z2, z3, .pointer (some ⟨b4, 0, none⟩), z5, .pointer (some ⟨b6, 0, none⟩), .pointer (some ⟨b7, 0, none⟩), z8, .pointer (some ⟨b9, 0, none⟩), .pointer (some ⟨nb, 0, none⟩), .string xp, .pointer (some ⟨gx, 0, none⟩), z13, z14, z15, z16, z17, z18, z19, z20, z21, z22, z23, z24, z25, z26, z27, z28, z29, z30, z31, z32, z33, z34, z35, z36, z37, z38, z39, z40, z41, z42, z43, z44, z45, z46, z47, z48, z49, z50, z51, z52, z53, z54, z55, z56, z57, z58, z59, z60, z61, z62, z63, z64, z65, z66, z67, z68, z69, z70, z71, z72, z73, z74, z75, z76, z77, z78, z79, z80, z81, z82, z83, z84, z85, z86, z87, z88, z89, z90, z91, z92, z93, z94, z95, z96, z97, z98, z99, z100, z101, z102, z103, z104, z105, z106, z107, z108, z109, z110, z111, z112, z113, z114, z115, z116, z117, z118, z119, z120, z121, z122, z123, z124, z125, z126, z127, z128, z129, z130, z131, z132, z133, z134, z135, z136, z137, z138, z139, z140, z141, z142, z143, z144, z145, z146, z147, z148, z149, z150, z151, z152, z153, z154], defers := [] } X := by
  have hkk := hkk0
  have c9 : X.cell? ⟨b9, 0, none⟩ = some (.int .i64 s) := (hkk.box h9 n9).cell 0
  have c10 : X.cell? ⟨nb, 0, none⟩ = some (.int .i64 m) := Bm.cell 0
  have B4x := hkk.box h4 n4'
  have B6x := hkk.box h6 n6
  have c6 : X.cell? ⟨b6, 0, none⟩ = some (.slice A4 n4 c4) := B6x.cell 0
  have B7x := hkk.box h7 n7
  have hbX : Below w7.heap.size w7 X := h7l.trans (hkk.below h7l.size h7n)
  have HKK := Lib.hid hkk
  have HBX := Lib.hid hbX
  have HPG : Hid (pre ++ [(xp, xv)] <+: PP j → (PP j)[m]? = some (xp, xv)) := Lib.hid (fun hp => by rw [hpm (pre_left hp)]; exact pre_get hp)
  have HPL : Hid (pre ++ [(xp, xv)] <+: PP j → m = pre.length) := Lib.hid (fun hp => hpm (pre_left hp))
  have HMS := Lib.hid hms
  have HRR := Lib.hid hrr
  clear hkk hkk0 hbX hpm hrr
  dsimp only [wkBody, bodyOf, cL, cR, Tryd.f3, List.append]
  by_cases hms2 : m < s
  · have hmi : ((m : Nat) : Int) < (s : Nat) := by omega
    by_cases hm4 : m < n4
    · have hmi4 : ((m : Nat) : Int) < (n4 : Nat) := by omega
      have hbd : 0 ≤ ((m : Nat) : Int) ∧ ((m : Nat) : Int) < (n4 : Nat) := by omega
      obtain ⟨⟨pp, pv⟩, hpl⟩ := ind_some (l := (PP j).take 200) (k := m) (by have h4 := HN4.out; omega)
      obtain ⟨g, rfl, hgb, hrg⟩ := own_place HO hpl
      replace hrg := range_below HBX.out hrg
      have p0 : X.cell? ⟨g, m * 7, none⟩ = some (.string pp) := hrg 0 _ rfl
      have p1 : X.cell? ⟨g, m * 7 + 1, none⟩ = some (.int .i64 pv.kind) := hrg 1 _ rfl
      have p2 : X.cell? ⟨g, m * 7 + 2, none⟩ = some (.bool pv.b) := hrg 2 _ rfl
      have p3 : X.cell? ⟨g, m * 7 + 3, none⟩ = some (.int .i64 pv.i) := hrg 3 _ rfl
      have p4 : X.cell? ⟨g, m * 7 + 4, none⟩ = some (.string pv.t) := hrg 4 _ rfl
      have p5 : X.cell? ⟨g, m * 7 + 5, none⟩ = some (.slice pv.LA pv.Ln pv.Lc) := hrg 5 _ rfl
      have p6 : X.cell? ⟨g, m * 7 + 6, none⟩ = some (.slice pv.FA pv.Fn pv.Fc) := hrg 6 _ rfl
      have HBAD : Hid ((xp, xv) ≠ (pp, pv) → ¬ (pre ++ [(xp, xv)] <+: PP j)) := Lib.hid (fun hne hp => by
        have h1 := HPG.out hp
        have h2 : (PP j)[m]? = some (pp, pv) := by rw [List.getElem?_take] at hpl; split at hpl <;> simp_all
        rw [h1] at h2
        exact hne (Option.some.inj h2))
      clear hpl hrg hm4 hgb
      by_cases e0 : xp = pp
      · subst e0
        gi_wp2
        refine cmp_any _ _ _ _ _ _ _ _ _ _ _ _ _ _ _ _ _ _ _ _ _ _ _ _ _ _ _ _ _ _ _ _ _ _ _ _ _ _ _ _ _ _ _ _ _ _ _ _ _ _ _ _ _ _ _ _ _ _ _ _ _ _ _ _ _ _ _ _ _ _ _ _ _ _ _ _ _ _ _ _ _ _ _ _ _ _ _ _ _ _ _ _ _ _ _ _ _ _ _ _ _ _ _ _ _ _ _ _ _ _ _ _ _ _ _ _ _ _ _ _ _ _ _ _ _ _ _ _ _ _ _ _ _ _ _ _ _ _ _ _ _ _ _ _ _ _ _ _ _ _ _ _ hbd c6 c10 p1 p2 p3 p4 p5 p6 (BX.cell 0) (BX.cell 1) (BX.cell 2) (BX.cell 3) (BX.cell 4) (BX.cell 5) ?_
        intro y51 y52 y53 y54 y55 y56 y57 y58 y59 y60 y61 y62 y63 y64 y65 y66 y67 y68 y69 y70 y71 y72 y73 y74 y75 y76 y77 y78 y79 y80 y81 y82 y83 y84 y85 y86 y87 y88 y89 y90 y91 y92 y93 y94 y95 y96 y97 y98 y99 y100 y101 y102 y103 y104 y105 y106 y107 y108 y109 y110 y111 y112 y113 y114 y115 y116 y117 y118 Y hbq
        have B4y := IBox.below B4x hbq B4x.lt
        clear c6 c9 c10 p0 p1 p2 p3 p4 p5 p6
        cases hL : likeV xv pv with
        | false =>
          gi_wp2_with (first | ((with_reducible refine is_storeIn ?_); refine wplIn_store_cell rfl 4 (.tmp 4) (.const (.bool false)) rfl _ rfl (.bool false) rfl _ _ B4y (by kernel_rfl) rfl ?_; intro w8 hw; have KS := keeps_kk (B := Wl.heap.size) (kk_set hw) B4y; clear hw))
          exact ⟨(keeps_below hbq).trans KS, .inl ⟨rfl, HBAD.out (fun h => by rw [(Prod.mk.inj h).2] at hL; unfold likeV at hL; simp at hL)⟩⟩
        | true =>
          have Bmy := IBox.below Bm hbq Bm.lt
          have B6y := IBox.below B6x hbq B6x.lt
          have B7y := IBox.below B7x hbq B7x.lt
          have c10 : Y.cell? ⟨nb, 0, none⟩ = some (.int .i64 m) := Bmy.cell 0
          have kq : KK Wl.heap.size nb X Y := KK.of hbq HKK.out.size
          have hm200 : ((m : Nat) : Int) ≤ 200 := by omega
          by_cases hm1 : m = 1
          · skip
            have h12 : ((m : Nat) : Int) + 1 = 2 := by omega
            gi_wp2_with (first
              | ((with_reducible refine is_storeIn ?_); refine wplIn_store_cell rfl 3 (.tmp 10) (.tmp 122) rfl _ rfl (.int .i64 2) rfl _ _ Bmy (by kernel_rfl) rfl ?_; intro Y1 hw; have ks := keeps_kk (B := Wl.heap.size) (kk_set hw) Bmy; have k1 := kk_set (Bs := Wl.heap.size) hw; have hr1 := loop_row (loop_below HRR.out hbq) Bmy hw; have Bn := hid_row hw Bmy; have B4a := (kk_set (Bs := 0) hw).box B4y n4'; have B6a := (kk_set (Bs := 0) hw).box B6y n6; have B7a := (kk_set (Bs := 0) hw).box B7y n7; clear hw c10; have c10 : Y1.cell? ⟨nb, 0, none⟩ = some _ := Bn.cell 0)
              | (refine wplIn_newcell 14 rfl rfl 3 rfl rfl (.const (.int .i64 0)) rfl _ zero_int rfl (.int .i64 0) rfl rfl (by kernel_rfl) rfl ?_; intro Z hw; have hbz := hid_grow hw; have Bw := (hid_alloc hw).1; have hzz := (hid_alloc hw).2.1; clear hw; have c7 : Z.cell? ⟨b7, 0, none⟩ = some (.func (.func 12) #[] #[.pointer (some ⟨g17, 0, none⟩)]) := (IBox.below B7a hbz B7a.lt).cell 0))
            have kW := HKK.out.trans (kq.trans k1)
            have HBZ : Hid (Below w.heap.size w Z) := Lib.hid ((HBW.out.trans (kW.below HBW.out.size hwn)).trans (hbz.mono (Nat.le_trans HBW.out.size kW.size)))
            have HBZ7 : Hid (Below w7.heap.size w7 Z) := Lib.hid ((h7l.trans (kW.below h7l.size h7n)).trans (hbz.mono (Nat.le_trans h7l.size kW.size)))
            have B17z : IBox Z g17 25 j.cells := IBox.below (kW.box h17 n17) hbz (kW.box h17 n17).lt
            have B4z := IBox.below B4a hbz B4a.lt
            have B6z := IBox.below B6a hbz B6a.lt
            have HRZ : Hid (Z.heap[l]? = some (.loop rr)) := Lib.hid (loop_below hr1 hbz)
            have HKW := Lib.hid kW
            have hwy : w.heap.size ≤ Y1.heap.size := Nat.le_trans HBW.out.size kW.size
            have HB4 := Lib.hid B4a.lt
            have HB6 := Lib.hid B6a.lt
            have HBZ0 := Lib.hid hbz
            have HZZ := Lib.hid hzz
            clear c7 c10 hbz hr1 kW hzz B7a B6a B4a
            have hend : ∀ W', KK Z.heap.size Y1.heap.size Z W' → KeepsFrom Wl.heap.size X W' ∧ KK Wl.heap.size nb X W' ∧ IO j Wl.heap.size nb Wl s (pre ++ [(xp, xv)]) W' := fun W' hk => by
              have hbe : Below Y1.heap.size Y1 W' := HBZ0.out.trans (hk.below (by have := HZZ.out; omega) (Nat.le_refl _))
              have k2 : KK Wl.heap.size nb X W' := kq.trans (k1.trans (KK.of hbe HKW.out.size))
              refine ⟨(keeps_below hbq).trans (ks.trans (keeps_below hbe)), k2, HKK.out.trans k2, m + 1, ?_, by omega, fun hp => by rw [List.length_append, ← HPL.out hp]; rfl⟩
              have hB := IBox.below Bn hbe Bn.lt
              rw [show ((m + 1 : Nat) : Int) = 2 by omega]
              simpa [h12] using hB
            have HEND := Lib.hid hend
            clear hend
            refine rangeN_one (n := 18) (l₀ := l) (r₀ := rr) rfl HRZ.out (by omega) (gf := 12) (lb := #[.pointer (some ⟨g17, 0, none⟩)]) rfl trivial (enters_of Tryd.func12 (by kernel_rfl) rfl)
              ((walk_stops (18 - 1) (nb := Y1.heap.size) (HT.out _ (Below.refl _ _)) HJ0 HSZ.out HBZ.out hwy (by have := HZZ.out; omega) B17z HT.out).inRound l) (fun h k => KK.trans h k) (fun W l o o' h1 h2 h3 _ => kk_put W l o o' h1 h2 h3) (Below.refl _ _) (fun _ => rfl)
              (IO j Z.heap.size Y1.heap.size Z 4) (IX j 4 Z.heap.size Y1.heap.size Z 5) (io_own (Nat.le_refl _)) (ix_own (Nat.le_refl _)) ⟨KK.refl (Nat.le_refl _), 0, by simpa using Bw, Nat.zero_le _, fun _ => rfl⟩ (fun _ W h => KK.refl h.1.size) 15 ?assign2 ?body2 ?done2 ?stop2
            case assign2 =>
              rintro l2 ⟨yp, yv⟩ X2 K hK
              gi_wp2
              simpa using hK.out
            case body2 =>
              rintro l2 pre2 ⟨yp, yv⟩ X2 ⟨hkk2, m2, Bm2, hms4, hpm2⟩
              have B6b := hkk2.box B6z (by have := HB6.out; omega)
              have B4b := hkk2.box B4z (by have := HB4.out; omega)
              have c14 : X2.cell? ⟨_, 0, none⟩ = some (.int .i64 m2) := Bm2.cell 0
              have c6 : X2.cell? ⟨b6, 0, none⟩ = some (.slice (some ⟨g, 0, none⟩) n4 c4) := B6b.cell 0
              have HB72 : Hid (Below w7.heap.size w7 X2) := Lib.hid (HBZ7.out.trans (hkk2.below HBZ7.out.size (Nat.le_trans h7l.size HKW.out.size)))
              have HPG2 : Hid (pre2 ++ [(yp, yv)] <+: PP j → (PP j)[m2]? = some (yp, yv)) := Lib.hid (fun hp => by rw [hpm2 (pre_left hp)]; exact pre_get hp)
              have HPL2 : Hid (pre2 ++ [(yp, yv)] <+: PP j → m2 = pre2.length) := Lib.hid (fun hp => hpm2 (pre_left hp))
              have HKK2 := Lib.hid hkk2
              clear hkk2 hpm2
              by_cases hq4 : m2 < n4
              · have hmi4 : ((m2 : Nat) : Int) < (n4 : Nat) := by omega
                have hbd : 0 ≤ ((m2 : Nat) : Int) ∧ ((m2 : Nat) : Int) < (n4 : Nat) := by omega
                obtain ⟨⟨qp, qv⟩, hql⟩ := ind_some (l := (PP j).take 200) (k := m2) (by have h4 := HN4.out; omega)
                obtain ⟨g2, hg2, _, hrg⟩ := own_place HO hql
                obtain rfl : g = g2 := by
                  have := Option.some.inj hg2
                  injection this
                have q0 : X2.cell? ⟨g, m2 * 7, none⟩ = some (.string qp) := range_below HB72.out hrg 0 _ rfl
                have HBAD2 : Hid (yp ≠ qp → ¬ (pre2 ++ [(yp, yv)] <+: PP j)) := Lib.hid (fun hne hp => by
                  have h1 := HPG2.out hp
                  have h2 : (PP j)[m2]? = some (qp, qv) := by rw [List.getElem?_take] at hql; split at hql <;> simp_all
                  rw [h1] at h2
                  exact hne (Prod.mk.inj (Option.some.inj h2)).1)
                clear hql hrg hq4 hg2
                by_cases e2 : yp = qp
                · subst e2
                  by_cases hm5 : m2 = 4
                  · subst hm5
                    replace q0 : X2.cell? ⟨g, 28, none⟩ = some (.string yp) := q0
                    replace c14 : X2.cell? ⟨_, 0, none⟩ = some (.int .i64 4) := c14
                    gi_wp2_with (first
                      | ((with_reducible refine is_storeIn ?_); refine wplIn_store_cell rfl 3 (.tmp 14) (.tmp 142) rfl _ rfl (.int .i64 5) rfl _ _ Bm2 (by kernel_rfl) rfl ?_; intro X3 hw; have ks2 := keeps_kk (B := Z.heap.size) (kk_set hw) Bm2; have k2 := kk_set (Bs := Z.heap.size) hw; have Bn2 := hid_row hw Bm2; clear hw c14; have c14 : X3.cell? ⟨_, 0, none⟩ = some _ := Bn2.cell 0))
                    exact ⟨ks2, .inr ⟨rfl, HKK2.out.trans k2, by simpa using Bn2⟩⟩
                  · have h5 : ¬ ((m2 : Nat) : Int) + 1 = 5 := by omega
                    gi_wp2_with (first
                      | ((with_reducible refine is_storeIn ?_); refine wplIn_store_cell rfl 3 (.tmp 14) (.tmp 142) rfl _ rfl (.int .i64 ((m2 : Int) + 1)) rfl _ _ Bm2 (by kernel_rfl) rfl ?_; intro X3 hw; have ks2 := keeps_kk (B := Z.heap.size) (kk_set hw) Bm2; have k2 := kk_set (Bs := Z.heap.size) hw; have Bn2 := hid_row hw Bm2; clear hw c14; have c14 : X3.cell? ⟨_, 0, none⟩ = some _ := Bn2.cell 0))
                    exact ⟨ks2, k2, HKK2.out.trans k2, m2 + 1, by simpa using Bn2, by omega, fun hp => by rw [List.length_append, ← HPL2.out hp]; rfl⟩
                · have n0 : (yp.toList == qp.toList) = false := by simpa [ba_toList] using fun h => e2 (ByteArray.ext (Array.ext' h))
                  gi_wp2_with (first
                    | ((with_reducible refine is_storeIn ?_); refine wplIn_store_cell rfl 4 (.tmp 4) (.const (.bool false)) rfl _ rfl (.bool false) rfl _ _ B4b (by kernel_rfl) rfl ?_; intro w8 hw; have KS := keeps_kk (B := Z.heap.size) (kk_set hw) B4b; clear hw))
                  exact ⟨KS, .inl ⟨rfl, HBAD2.out e2⟩⟩
              · have hmi4 : ¬ ((m2 : Nat) : Int) < (n4 : Nat) := by omega
                have hmg4 : ((n4 : Nat) : Int) ≤ (m2 : Nat) := by omega
                gi_wp2_with (first
                  | ((with_reducible refine is_storeIn ?_); refine wplIn_store_cell rfl 4 (.tmp 4) (.const (.bool false)) rfl _ rfl (.bool false) rfl _ _ B4b (by kernel_rfl) rfl ?_; intro w8 hw; have KS := keeps_kk (B := Z.heap.size) (kk_set hw) B4b; clear hw))
                refine ⟨KS, .inl ⟨rfl, fun hp => ?_⟩⟩
                have h1 := (List.getElem?_eq_some_iff.1 (HPG2.out hp)).1
                have h2 := HN4.out
                rw [List.length_take] at h2
                omega
            case done2 =>
              rintro xs W' rfl ⟨hkk2, _⟩
              gi_wp2
              exact HEND.out W' hkk2
            case stop2 =>
              rintro c pre2 W' hpre hx
              rcases hx with ⟨rfl, hnp⟩ | ⟨rfl, hkk2, _⟩
              · exact absurd hpre hnp
              · refine wpIn_exit ?_
                gi_wp2
                exact HEND.out W' hkk2
          · have hm2 : ¬ ((m : Int) + 1 = 2) := by omega
            gi_wp2_with (first | ((with_reducible refine is_storeIn ?_); refine wplIn_store_cell rfl 3 (.tmp 10) (.tmp 122) rfl _ rfl (.int .i64 ((m : Int) + 1)) rfl _ _ Bmy (by kernel_rfl) rfl ?_; intro Y1 hw; have ks := keeps_kk (B := Wl.heap.size) (kk_set hw) Bmy; have k1 := kk_set (Bs := Wl.heap.size) hw; have Bn := hid_row hw Bmy; clear hw c10; have c10 : Y1.cell? ⟨nb, 0, none⟩ = some (.int .i64 ((m : Int) + 1)) := Bn.cell 0))
            refine ⟨(keeps_below hbq).trans ks, kq.trans k1, HKK.out.trans (kq.trans k1), m + 1, by simpa using Bn, by omega, fun hp => ?_⟩
            rw [List.length_append, ← HPL.out hp]
            rfl
      · have n0 : (xp.toList == pp.toList) = false := by simpa [ba_toList] using fun h => e0 (ByteArray.ext (Array.ext' h))
        clear p1 p2 p3 p4 p5 p6
        gi_wp2_with (first | ((with_reducible refine is_storeIn ?_); refine wplIn_store_cell rfl 4 (.tmp 4) (.const (.bool false)) rfl _ rfl (.bool false) rfl _ _ B4x (by kernel_rfl) rfl ?_; intro w8 hw; have KS := keeps_kk (B := Wl.heap.size) (kk_set hw) B4x; clear hw))
        exact ⟨KS, .inl ⟨rfl, HBAD.out (fun h => e0 (congrArg Prod.fst h))⟩⟩
    · have hmi4 : ¬ ((m : Nat) : Int) < (n4 : Nat) := by omega
      have hmg4 : ((n4 : Nat) : Int) ≤ (m : Nat) := by omega
      gi_wp2_with (first | ((with_reducible refine is_storeIn ?_); refine wplIn_store_cell rfl 4 (.tmp 4) (.const (.bool false)) rfl _ rfl (.bool false) rfl _ _ B4x (by kernel_rfl) rfl ?_; intro w8 hw; have KS := keeps_kk (B := Wl.heap.size) (kk_set hw) B4x; clear hw))
      refine ⟨KS, .inl ⟨rfl, fun hp => ?_⟩⟩
      have h1 := (List.getElem?_eq_some_iff.1 (HPG.out hp)).1
      have h2 := HN4.out
      rw [List.length_take] at h2
      omega
  · have hmi : ¬ ((m : Nat) : Int) < (s : Nat) := by omega
    have hmg : ((s : Nat) : Int) ≤ (m : Nat) := by omega
    gi_wp2
    exact ⟨KeepsFrom.refl _ _, .inr ⟨rfl, HKK.out, by rw [show s = m by have := HMS.out; omega]; exact Bm⟩⟩
end Go.Proofs.YtmiphbjpcbfaeaaDoor
