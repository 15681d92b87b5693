/- Layer 9: the document's feed: New, Open, Feed. -/
import Derived.Test.YtbehakabglegjaaGreatDoorQ38
import Derived.Test.YtbehakabglegjaaGreatDoorQ40
import Derived.Test.YtbehakabglegjaaGreatDoorQZip
namespace Go.Proofs.YtbehakabglegjaaGreatDoor
open Go.RowKit Go.PlainAid
set_option linter.unusedVariables false
set_option linter.unusedSimpArgs false
section
variable {n d : Nat} {ans : Bool} {o p : List UInt8} {ov v v2 : Value} {ah : Nat} {sh : Bool} {w w' w2 : World}
theorem own_d {arr : Array Value} (ho : OwnO w n v p) (hI : IBox w d 100 arr) : ∀ q, v.ownBlock = some q → q ≠ d := fun q e x => by
  obtain ⟨a1, f1, h1⟩ := ho.ty q e
  have h2 : w.heap[d]? = some (.cells arr 100 (0, 0)) := hI
  rw [x, h2] at h1
  injection h1 with h1
  injection h1 with _ h1 _
  exact absurd h1 (by decide)
/-- A store into its box. -/
theorem RfM.set {arr : Array Value} {o2 : List UInt8} {ah2 : Nat} {sh2 : Bool} (h : IBox w d 100 arr) (hg : n ≤ d) (ho : OwnO w n v2 o2) (hw : Hid (w' = w.setRow d #[.bool ans, v2, .int .i64 (ah2 : Int), .bool sh2])) : RfM n d ans o2 v2 ah2 sh2 w' :=
  ⟨hid_row hw h, hg, ho.bes (Bes.row (X := fun q => q = d) hw rfl) (fun q e x => own_d ho h q e x)⟩
theorem rf_build (a : Bool) (w : World) : (Instr.build 100 [(0, .bool a)].toArray).run Tryz.prog w = .ok (.agg #[.bool a, .slice none 0 0, .int .i64 0, .bool false]) w := by kernel_rfl
set_option maxRecDepth 100000 in
set_option maxHeartbeats 4000000 in
theorem rnew_any (ans : Bool) (w : World) : Calls Tryz.prog 25 #[.bool ans] w fun e w' => e = .returned (.pointer (some ⟨w.heap.size, 0, none⟩)) ∧ RfM w.heap.size w.heap.size ans [] (.slice none 0 0) 0 false w' ∧ Below w.heap.size w w' := by
  go_enter Tryz.func25, Tryz.ntmps25
  go_wp2_with (first
    | ((with_reducible refine is_build2 _ ?_); refine wpl_build_at (vals := [(0, .bool ans)]) (rf_build ans) rfl _ rfl rfl ?_)
    | (refine wpl_box_at rfl 100 (.tmp 4) rfl _ rfl ?_; intro w1 hw; have HB := hid_grow hw; have B := (hid_alloc hw).1; clear hw))
  go_ret
  exact ⟨rfl, ⟨B, Nat.le_refl _, OwnO.nil _ _⟩, HB⟩
set_option maxRecDepth 100000 in
set_option maxHeartbeats 4000000 in
theorem ropen_any (M : RfM n d ans o ov ah sh w) : Calls Tryz.prog 28 #[.pointer (some ⟨d, 0, none⟩)] w fun e w' => e = .returned (.bool (!sh && decide (0 < o.length))) ∧ w' = w := by
  obtain ⟨A, cp, rfl, _⟩ := M.own.row
  have c1 : w.cell? ⟨d, 1, none⟩ = some (.slice A o.length cp) := M.box.cell 1
  have c3 : w.cell? ⟨d, 3, none⟩ = some (.bool sh) := M.box.cell 3
  clear M
  cases sh
  all_goals
    go_enter Tryz.func28, Tryz.ntmps28
    go_wp2
    all_goals
      go_ret
      exact ⟨by first | rfl | simp, rfl⟩
set_option maxRecDepth 100000 in
set_option maxHeartbeats 4000000 in
theorem rfeed_shut (M : RfM n d ans o ov ah true w) (v : Value) : Calls Tryz.prog 26 #[.pointer (some ⟨d, 0, none⟩), v] w fun e w' => e = .returned (.tuple #[.slice none 0 0, .int .i64 30, .int .i64 (-1)]) ∧ w' = w := by
  have c3 : w.cell? ⟨d, 3, none⟩ = some (.bool true) := M.box.cell 3
  clear M
  go_enter Tryz.func26, Tryz.ntmps26
  go_wp2
  go_ret3
  exact ⟨rfl, rfl⟩
/-- What One gave can be laid into a box. -/
theorem on_cells {b : List UInt8} {k : Nat} {x : Int} {mo : Bool} {mv : Array Value} {a base : Nat} (h : (mv = zeroM ∧ Stp b ans a k x mo) ∨ (x = 0 ∧ mo = false ∧ 0 < k ∧ ∃ X : Mm, Atk b ans a k (eF ans a k X.m) ∧ mv = X.cells ∧ IsMm w' X ∧ ∀ q, X.hs.ownBlock = some q ∨ X.bd.ownBlock = some q → base ≤ q)) : mv.size = 6 ∧ mv.all (·.oneCell') = true := by
  rcases h with ⟨rfl, _⟩ | ⟨_, _, _, X, _, rfl, hm, _⟩
  · exact ⟨rfl, zero_one⟩
  · obtain ⟨x1, x2, e1, _⟩ := hm.1
    obtain ⟨y1, y2, e2, _⟩ := hm.2.1
    refine ⟨rfl, ?_⟩
    unfold Mm.cells
    rw [e1, e2]
    simp [Value.oneCell']
def rfLen (w : World) (d : Nat) : Nat := match w.cell? ⟨d, 1, none⟩ with
  | some (.slice _ n _) => n
  | _ => 0
theorem rfLen_of (M : RfM n d ans o ov ah sh w) : rfLen w d = o.length := by
  obtain ⟨A, cp, rfl, _⟩ := M.own.row
  have h : w.cell? ⟨d, 1, none⟩ = some (.slice A o.length cp) := M.box.cell 1
  unfold rfLen
  rw [h]
theorem pre_nil (r : Fs ⊕ (Int × Nat × List Ms)) : preR r [] = r := by
  cases r with
  | inl f => rfl
  | inr t => rfl
theorem pre_pre (r : Fs ⊕ (Int × Nat × List Ms)) (V W : List Ms) : preR (preR r V) W = preR r (W ++ V) := by
  cases r with
  | inl f => show Sum.inl _ = Sum.inl _; unfold Fs.pre; simp only [List.append_assoc]
  | inr t => obtain ⟨c, q, L⟩ := t; show Sum.inr _ = Sum.inr _; simp only [List.append_assoc]
theorem op_alloc_row {P : Program} {o : Oper} {a : Act} {w : World} {Q : Exit → Act → World → Prop} {K : Act → World → Prop} (ty : TypeId) (ho : o.op = .alloc ty) (z : Array Value) (hz : ∀ w, (zeroValue ty).run P w = .ok (.agg z) w)
    (h : ∀ w', Hid (w' = w.alloc (.cells z ty)) → K (a.put o.dst (.pointer (some ⟨w.heap.size, 0, none⟩))) w') : o.wp P a w K Q := by
  unfold Oper.wp execOp
  simp [ho, Instr.alloc, Sem.run_bind, hz, newVar, Value.cells]
  exact h _ rfl
/-- What holds at the head of a round. -/
def RfI (ans : Bool) (o p : List UInt8) (ah : Nat) (v3 outv ov2 : Value) (o2 : List UInt8) (ah2 : Nat) (L : List Mm) (d : Nat) (w4 wr : World) : Prop := Bes (fun q => q = d) w4 wr ∧ wr.ownsRow w4.heap.size 25 6 outv L.length (mmsL L) ∧ MsO wr w4.heap.size L ∧ (∀ q, ov2.ownBlock = some q → v3.ownBlock = some q) ∧ L.length + o2.length ≤ o.length + p.length ∧ ah2 + o2.length = ah + (o.length + p.length) ∧ runS (newA ans ah) (o ++ p) = preR (runS (newA ans ah2) o2) (L.map (·.m))
theorem RfI.below {v3 outv ov2 : Value} {o2 : List UInt8} {ah2 : Nat} {L : List Mm} {w4 wr wx : World} (h : RfI ans o p ah v3 outv ov2 o2 ah2 L d w4 wr) (hb : Below wr.heap.size wr wx) : RfI ans o p ah v3 outv ov2 o2 ah2 L d w4 wx := by
  have hbs : Bes (fun _ => False) wr wx := Bes.of_below hb
  exact ⟨h.1.trans hbs (fun _ x => x) (fun _ _ x => x.elim), Bes.own hbs h.2.1 (fun _ _ x => x), fun x hx => ⟨(h.2.2.1 x hx).1.bes hbs ⟨fun _ _ z => z, fun _ _ z => z⟩, (h.2.2.1 x hx).2⟩, h.2.2.2⟩
/-- A store into the feed's box. -/
theorem RfI.row {v3 outv ov2 : Value} {o2 : List UInt8} {ah2 : Nat} {L : List Mm} {w4 wr wx : World} {arr : Array Value} (h : RfI ans o p ah v3 outv ov2 o2 ah2 L d w4 wr) (hI : IBox wr d 100 arr) (hb : Bes (fun q => q = d) wr wx) : RfI ans o p ah v3 outv ov2 o2 ah2 L d w4 wx := by
  have hX : ∀ q, q = d → ∃ a2 f2, wr.heap[q]? = some (.cells a2 100 f2) := fun q e => by cases e; exact ⟨_, _, hI⟩
  refine ⟨h.1.trans hb (fun _ x => x) (fun _ _ x => x), Bes.own hb h.2.1 (fun q e x => ?_), fun x hx => ⟨(h.2.2.1 x hx).1.bes hb (mm_off (h.2.2.1 x hx).1 hX (by decide) (by decide)), (h.2.2.1 x hx).2⟩, h.2.2.2⟩
  obtain ⟨a2, f2, h2⟩ := hX q x
  exact ty_off (own_ty h.2.1) h2 (by decide) e
theorem mm_oneX {X : Mm} (h : IsMm w X) : X.cells.all (·.oneCell') = true := by
  obtain ⟨x1, x2, e1, _⟩ := h.1
  obtain ⟨y1, y2, e2, _⟩ := h.2.1
  unfold Mm.cells
  rw [e1, e2]
  simp [Value.oneCell']
/-- A message more. -/
theorem RfI.more {v3 outv ov2 v11 : Value} {o2 : List UInt8} {ah2 k : Nat} {L : List Mm} {w4 wr w11 : World} {X : Mm} (h : RfI ans o p ah v3 outv ov2 o2 ah2 L d w4 wr) (hX : IsMm wr X) (hbl : ∀ q, X.hs.ownBlock = some q ∨ X.bd.ownBlock = some q → w4.heap.size ≤ q) (hat : Atk o2 ans ah2 k (eF ans ah2 k X.m)) (hk : 0 < k) (ho : w11.ownsRow w4.heap.size 25 6 v11 (L.length + 1) (mmsL L ++ X.cells.toList)) (hg : wr.grownBy w11 outv.ownBlock) :
    Bes (fun q => outv.ownBlock = some q) wr w11 ∧ RfI ans o p ah v3 v11 ov2 (o2.drop k) (ah2 + k) (L ++ [X]) d w4 w11 := by
  have hb : Bes (fun q => outv.ownBlock = some q) wr w11 := Bes.grown hg (fun _ e => e)
  have hty : ∀ q, outv.ownBlock = some q → ∃ a2 f2, wr.heap[q]? = some (.cells a2 25 f2) := own_ty h.2.1
  have hm : ∀ x, IsMm wr x → IsMm w11 x := fun x hx => hx.bes hb (mm_off hx hty (by decide) (by decide))
  have hkl : k ≤ o2.length := hat.1
  refine ⟨hb, h.1.trans hb (fun _ x => x) (fun q hq e => by have := (own_in h.2.1 e).1; omega), ?_, fun x hx => ?_, h.2.2.2.1, ?_, ?_, ?_⟩
  · rw [List.length_append, mmsL_app, mms_one]; exact ho
  · rcases List.mem_append.1 hx with hx | hx
    · exact ⟨hm x (h.2.2.1 x hx).1, (h.2.2.1 x hx).2⟩
    · rw [List.mem_singleton.1 hx]; exact ⟨hm X hX, hbl⟩
  · have := h.2.2.2.2.1
    rw [List.length_append, List.length_drop]
    show L.length + 1 + _ ≤ _
    omega
  · have := h.2.2.2.2.2.1
    rw [List.length_drop]
    omega
  · rw [h.2.2.2.2.2.2, hat.done, pre_pre, List.map_append]
    rfl
theorem own_up {base b2 : Nat} {E : TypeId} {size m : Nat} {xs : List Value} (h : w.ownsRow base E size v m xs) (hb : b2 ≤ base) : w.ownsRow b2 E size v m xs := by
  refine ⟨h.1, ?_⟩
  rcases h.2 with h2 | ⟨g, cap, cur, hv, hbg, hr⟩
  · exact .inl h2
  · exact .inr ⟨g, cap, cur, hv, Nat.le_trans hb hbg, hr⟩
theorem RfW.ends {w4 wr : World} {v3 : Value} {L : List Mm} {q : Nat} (hat : v3.ownBlock = ov.ownBlock ∨ v3.ownBlock = some w.heap.size) (hlt : ∀ q, v3.ownBlock = some q → q < w4.heap.size) (hL : MsO wr w4.heap.size L) (e : v3.ownBlock = some q) : (ov.ownBlock = some q ∨ w.heap.size ≤ q) ∧ ∀ y ∈ L, y.hs.ownBlock ≠ some q ∧ y.bd.ownBlock ≠ some q := by
  refine ⟨?_, fun y hy => ⟨fun e2 => ?_, fun e2 => ?_⟩⟩
  · rcases hat with h | h
    · exact .inl (h ▸ e)
    · rw [h] at e; injection e with e; exact .inr (Nat.le_of_eq e)
  · have := (hL y hy).2 q (.inl e2); have := hlt q e; omega
  · have := (hL y hy).2 q (.inr e2); have := hlt q e; omega
set_option maxRecDepth 100000 in
set_option maxHeartbeats 16000000 in
theorem rfeed_any (M : RfM n d ans o ov ah false w) (hv : BtAt w v p) (hl : o.length + p.length ≤ 1099511627776) (hah : ah + (o.length + p.length) ≤ 4611686018427387904) :
    Calls Tryz.prog 26 #[.pointer (some ⟨d, 0, none⟩), v] w (RfV n d ans o p ov ah w) := by
  have HOWN := Lib.hid M.own
  have HBT := Lib.hid hv
  have HOL := Lib.hid hl
  have HAH := Lib.hid hah
  have HNW := Lib.hid M.nw
  have HGN := Lib.hid M.gn
  have HBX := Lib.hid M.box
  have HOD : Hid (∀ q, ov.ownBlock = some q → q ≠ d) := Lib.hid (own_d M.own M.box)
  have HOLT : Hid (∀ q, ov.ownBlock = some q → q < w.heap.size) := Lib.hid (fun q e => (M.own.lt q e).2)
  obtain ⟨ov0, hov⟩ : ∃ x, x = ov := ⟨_, rfl⟩
  have c1 : w.cell? ⟨d, 1, none⟩ = some ov := M.box.cell 1
  have c3 : w.cell? ⟨d, 3, none⟩ = some (.bool false) := M.box.cell 3
  obtain ⟨mA, mc, rfl, _⟩ := id hv
  subst hov
  clear hv hl hah
  go_enter Tryz.func26, Tryz.ntmps26
  go_wp2_with (first
    | ((with_reducible refine is_app (.tmp 20) (.tmp 21) ?_); refine wpl_app_off rfl (.tmp 20) (.tmp 21) 23 rfl Tryz.underlying23 rfl HOWN.out rfl HBT.out (by have := HOL.out; omega) HNW.out ?_; intro v3 w3 ho3 hb3 hat3; have HO3 := Lib.hid ho3; have HB3 := Lib.hid hb3; have HAT3 := Lib.hid hat3; have BX3 := Bes.box hb3 HBX.out (fun e => HOD.out d e rfl); clear ho3 hb3 hat3)
    | ((with_reducible refine is_store ?_); refine wpl_store_cell rfl 23 (.tmp 24) (.tmp 22) rfl d 1 rfl v3 rfl _ _ BX3 (show 1 < 4 by decide) one_sb (by obtain ⟨x1, x2, x3, _⟩ := HO3.out.row; rw [x3]; rfl) ?_; intro w4 hw; have M4 : RfM n d ans (o ++ p) v3 ah false w4 := RfM.set BX3 HGN.out HO3.out hw; have HB4 : Hid (Bes (fun q => q = d ∨ ov0.ownBlock = some q) w w4) := Lib.hid (HB3.out.trans (Bes.row (X := fun q => q = d) hw rfl) (fun i x => .inr x) (fun i _ x => .inl x)); clear hw))
  have HO3L : Hid (∀ q, v3.ownBlock = some q → q < w4.heap.size) := Lib.hid (fun q e => (M4.own.lt q e).2)
  clear c1 c3 M
  have HW4 : Hid (w.heap.size ≤ w4.heap.size) := Lib.hid HB4.out.size
  go_loopw [7] (fun out0 wr => ∃ (o2 : List UInt8) (ov2 outv : Value) (ah2 : Nat) (L : List Mm), outv = out0 ∧ RfM n d ans o2 ov2 ah2 false wr ∧ Hid (RfI ans o p ah v3 outv ov2 o2 ah2 L d w4 wr)) (fun _ wr => rfLen wr d)
  case atStart => exact ⟨o ++ p, v3, _, ah, [], rfl, M4, Lib.hid ⟨Bes.of_below (Below.refl _ _), ⟨rfl, .inl ⟨rfl, rfl⟩⟩, (fun x hx => by cases hx), (fun q e => e), (by rw [List.length_append]; exact Nat.le_of_eq (Nat.zero_add _)), (by rw [List.length_append]), (pre_nil _).symm⟩⟩
  case round =>
    clear M4
    obtain ⟨o2, ov2, outv, ah2, L, rfl, M, HI⟩ := hrel
    have HM0 := Lib.hid M
    have hol := HOL.out
    have HO2L : Hid (o2.length ≤ 1099511627776) := Lib.hid (by have := HI.out.2.2.2.2.1; omega)
    obtain ⟨A, cp, rfl, hcap, hrow, hAb⟩ := M.own.row
    have c1 : wr.cell? ⟨d, 1, none⟩ = some (.slice A o2.length cp) := M.box.cell 1
    have HROW := Lib.hid hrow
    have HCAP := Lib.hid hcap
    have HAB := Lib.hid hAb
    clear hrow hcap hAb
    by_cases he : 0 < o2.length
    · have HNE : Hid (o2 ≠ []) := Lib.hid (by rintro rfl; exact absurd he (Nat.lt_irrefl 0))
      have hei : (0 : Int) < (o2.length : Int) := by omega
      go_wp2
      clear c1
      refine wp_region_S (S := fun w' => w'.cell? ⟨d, 0, none⟩ = some (.bool ans) ∧ w'.cell? ⟨d, 1, none⟩ = some (.slice A o2.length cp)) (by kernel_rfl) (fun w6 hh => ⟨(box_heap hh M.box).cell 0, (box_heap hh M.box).cell 1⟩) (fun w6 hh hbb HS0 => ?_)
      have hb := hbb _ (Nat.le_refl _)
      replace HI := Lib.hid (RfI.below HI.out hb)
      have HROW6 : Hid (RowB w6 A o2) := Lib.hid (HROW.out.heap hh)
      have HAB6 : Hid (∀ bb off, A = some ⟨bb, off, none⟩ → bb < w6.heap.size) := Lib.hid (fun bb off e => by rw [hh]; exact (HAB.out bb off e).1)
      replace M := M.below hb
      have HW46 : Hid (w4.heap.size ≤ w6.heap.size) := Lib.hid (Nat.le_trans HI.out.1.size (Nat.le_refl _))
      clear hh hbb hb
      refine TKC 0 32 rfl ?_
      try simp only [Act.put, zA, zB, zC]
      refine TKC 1 33 rfl ?_
      try simp only [Act.put, zA, zB, zC]
      refine TKC 2 34 rfl ?_
      try simp only [Act.put, zA, zB, zC]
      refine TKC 3 35 rfl ?_ (by (intro w hSw; (try dsimp only at hSw); have q1 := hSw.2; go_simp; try with_reducible rfl))
      try simp only [Act.put, zA, zB, zC]
      refine TKC 4 36 rfl ?_
      try simp only [Act.put, zA, zB, zC]
      refine TKC 5 37 rfl ?_
      try simp only [Act.put, zA, zB, zC]
      refine TKC 6 38 rfl ?_
      try simp only [Act.put, zA, zB, zC]
      refine TKC 7 39 rfl ?_ (by (intro w hSw; (try dsimp only at hSw); have q1 := hSw.1; go_simp; try with_reducible rfl))
      try simp only [Act.put, zA, zB, zC]
      refine ashare (fun (y : Nat × Array Value × Nat × Int × Bool) (a : Act) => (((((((((((a.put (some 40) (.tuple #[.agg y.2.1, .int .i64 (y.2.2.1 : Int), .int .i64 y.2.2.2.1, .bool y.2.2.2.2])).put (some 31) (.tuple #[.agg y.2.1, .int .i64 (y.2.2.1 : Int), .int .i64 y.2.2.2.1, .bool y.2.2.2.2])).put (some 41) (.agg y.2.1)).put (some 42) (.int .i64 (y.2.2.1 : Int))).put (some 43) (.int .i64 y.2.2.2.1)).put (some 44) (.bool y.2.2.2.2)).put (some 8) (.pointer (some ⟨y.1, 0, none⟩))).put none undef).put (some 9) (.int .i64 (y.2.2.1 : Int))).put (some 10) (.int .i64 y.2.2.2.1)).put (some 11) (.bool y.2.2.2.2))) (fun (y : Nat × Array Value × Nat × Int × Bool) (w' : World) => (IBox w' y.1 25 y.2.1 ∧ w6.heap.size ≤ y.1 ∧ Below w6.heap.size w6 w' ∧ ((y.2.1 = zeroM ∧ Stp o2 ans ah2 y.2.2.1 y.2.2.2.1 y.2.2.2.2) ∨ (y.2.2.2.1 = 0 ∧ y.2.2.2.2 = false ∧ 0 < y.2.2.1 ∧ ∃ X : Mm, Atk o2 ans ah2 y.2.2.1 (eF ans ah2 y.2.2.1 X.m) ∧ y.2.1 = X.cells ∧ IsMm w' X ∧ ∀ q, X.hs.ownBlock = some q ∨ X.bd.ownBlock = some q → w6.heap.size ≤ q)))) (fun HT => ?_) ?_
      · refine wpAnyH_ready (rs := [8, 14]) (by kernel_rfl) (by simp) ?_
        refine AllReadyH.cons (o := ⟨some 40, _, _, _, _, _⟩) rfl (fun K hK => ?_) ?_
        · go_simp
          (go_at_call 50; (refine (one_any HROW6.out HCAP.out HAB6.out HO2L.out HNE.out ah2).mono ?_); rintro e w7 ⟨hb, mv, k, x, mo, rfl, hon⟩)
          have HB6 : Below w6.heap.size w6 w7 := hb
          have HON7 := Lib.hid hon
          replace HS0 : w7.cell? ⟨d, 0, none⟩ = some (.bool ans) ∧ w7.cell? ⟨d, 1, none⟩ = some (.slice A o2.length cp) := ⟨(Bes.box (X := fun _ => False) (Bes.of_heap HB6) M.box (fun x => x)).cell 0, (Bes.box (X := fun _ => False) (Bes.of_heap HB6) M.box (fun x => x)).cell 1⟩
          clear hb hon
          refine hK.out _ _ HS0 (fun hS2 => ?_)
          clear hK K hS2
          try simp only [Act.put, zA, zB, zC]
          refine TKC 9 31 rfl ?_
          try simp only [Act.put, zA, zB, zC]
          refine TKC 10 41 rfl ?_
          try simp only [Act.put, zA, zB, zC]
          refine TKC 11 42 rfl ?_
          try simp only [Act.put, zA, zB, zC]
          refine TKC 12 43 rfl ?_
          try simp only [Act.put, zA, zB, zC]
          refine TKC 13 44 rfl ?_
          try simp only [Act.put, zA, zB, zC]
          refine wpAnyH_ready (rs := [14]) (by kernel_rfl) (by simp) ?_
          refine AllReadyH.cons (o := ⟨some 8, _, _, _, _, _⟩) rfl (fun K hK => ?_) AllReadyH.nil
          simp only [Region.wanted, if_true]
          refine op_alloc_row 25 rfl zeroM zeroM_zero ?_
          intro w8 hw
          have hb := hid_grow hw
          have BXQ := (hid_alloc hw).1
          clear hw
          have HON : Hid ((mv = zeroM ∧ Stp o2 ans ah2 k x mo) ∨ (x = 0 ∧ mo = false ∧ 0 < k ∧ ∃ X : Mm, Atk o2 ans ah2 k (eF ans ah2 k X.m) ∧ mv = X.cells ∧ IsMm w8 X ∧ ∀ q, X.hs.ownBlock = some q ∨ X.bd.ownBlock = some q → w6.heap.size ≤ q)) := Lib.hid (HON7.out.imp id (fun ⟨h1, h2, h3, X, h4, h5, h6, h7⟩ => ⟨h1, h2, h3, X, h4, h5, h6.bes (X := fun _ => False) (Bes.of_heap hb) ⟨fun _ _ z => z, fun _ _ z => z⟩, h7⟩))
          have HMB : w6.heap.size ≤ w7.heap.size := HB6.size
          replace HB6 := zT HB6 hb
          replace HS0 : w8.cell? ⟨d, 0, none⟩ = some (.bool ans) ∧ w8.cell? ⟨d, 1, none⟩ = some (.slice A o2.length cp) := ⟨(Bes.box (X := fun _ => False) (Bes.of_heap HB6) M.box (fun x => x)).cell 0, (Bes.box (X := fun _ => False) (Bes.of_heap HB6) M.box (fun x => x)).cell 1⟩
          clear hb
          refine hK.out _ _ HS0 (fun hS2 => ?_)
          clear hK K hS2
          try simp only [Act.put, zA, zB, zC]
          refine wpAnyH_ready (rs := [15]) (by kernel_rfl) (by simp) ?_
          refine AllReadyH.cons (o := ⟨none, _, _, _, _, _⟩) rfl (fun K hK => ?_) AllReadyH.nil
          simp only [Region.wanted, if_true]
          obtain ⟨hsz, hone⟩ := on_cells HON.out
          refine op_store_at 25 _ _ rfl w7.heap.size mv rfl rfl _ _ BXQ (by rw [hsz]; exact info_msg) (by rw [hsz]; rfl) hone ?_
          intro w9 hw
          have hbr : Bes (fun q => q = w7.heap.size) w8 w9 := Bes.row hw rfl
          have BXF := hid_row hw BXQ
          have HONF : Hid ((mv = zeroM ∧ Stp o2 ans ah2 k x mo) ∨ (x = 0 ∧ mo = false ∧ 0 < k ∧ ∃ X : Mm, Atk o2 ans ah2 k (eF ans ah2 k X.m) ∧ mv = X.cells ∧ IsMm w9 X ∧ ∀ q, X.hs.ownBlock = some q ∨ X.bd.ownBlock = some q → w6.heap.size ≤ q)) := Lib.hid (HON.out.imp id (fun ⟨h1, h2, h3, X, h4, h5, h6, h7⟩ => ⟨h1, h2, h3, X, h4, h5, h6.bes hbr (mm_off h6 (fun q e => by cases (show q = w7.heap.size from e); exact ⟨_, _, BXQ⟩) (by decide) (by decide)), h7⟩))
          have HBF := HB6.trans (hbr.below (fun q e => by rw [show q = w7.heap.size from e]; exact HMB) HB6.size)
          replace HS0 : w9.cell? ⟨d, 0, none⟩ = some (.bool ans) ∧ w9.cell? ⟨d, 1, none⟩ = some (.slice A o2.length cp) := ⟨(Bes.box (X := fun _ => False) (Bes.of_heap HBF) M.box (fun x => x)).cell 0, (Bes.box (X := fun _ => False) (Bes.of_heap HBF) M.box (fun x => x)).cell 1⟩
          clear hw hbr
          refine hK.out _ _ HS0 (fun hS2 => ?_)
          clear hK K hS2
          try simp only [Act.put, zA, zB, zC]
          refine TKC 16 9 rfl ?_
          try simp only [Act.put, zA, zB, zC]
          refine TKC 17 10 rfl ?_
          try simp only [Act.put, zA, zB, zC]
          refine TKC 18 11 rfl ?_
          try simp only [Act.put, zA, zB, zC]
          refine wpAnyH_done (by kernel_rfl) ?_ _
          exact HT.out (w7.heap.size, mv, k, x, mo) _ _ ⟨BXF, HMB, HBF, HONF.out⟩ (by kernel_rfl)
        refine AllReadyH.cons (o := ⟨some 8, _, _, _, _, _⟩) rfl (fun K hK => ?_) AllReadyH.nil
        simp only [Region.wanted, if_true]
        refine op_alloc_row 25 rfl zeroM zeroM_zero ?_
        intro w7 hw
        have hb := hid_grow hw
        have BXQ := (hid_alloc hw).1
        clear hw
        have HB6 : Below w6.heap.size w6 w7 := hb
        have HMB : w6.heap.size ≤ w6.heap.size := Nat.le_refl _
        have HR7 : Hid (RowB w7 A o2) := Lib.hid (HROW6.out.bes (X := fun _ => False) (Bes.of_heap hb) (fun _ _ _ x => x))
        have HAB7 : Hid (∀ bb off, A = some ⟨bb, off, none⟩ → bb < w7.heap.size) := Lib.hid (fun bb off e => Nat.lt_of_lt_of_le (HAB6.out bb off e) hb.size)
        replace HS0 : w7.cell? ⟨d, 0, none⟩ = some (.bool ans) ∧ w7.cell? ⟨d, 1, none⟩ = some (.slice A o2.length cp) := ⟨(Bes.box (X := fun _ => False) (Bes.of_heap HB6) M.box (fun x => x)).cell 0, (Bes.box (X := fun _ => False) (Bes.of_heap HB6) M.box (fun x => x)).cell 1⟩
        clear hb
        refine hK.out _ _ HS0 (fun hS2 => ?_)
        clear hK K hS2
        try simp only [Act.put, zA, zB, zC]
        refine wpAnyH_ready (rs := [8]) (by kernel_rfl) (by simp) ?_
        refine AllReadyH.cons (o := ⟨some 40, _, _, _, _, _⟩) rfl (fun K hK => ?_) AllReadyH.nil
        go_simp
        (go_at_call 50; (refine (one_any HR7.out HCAP.out HAB7.out HO2L.out HNE.out ah2).mono ?_); rintro e w8 ⟨hb, mv, k, x, mo, rfl, hon⟩)
        have HON : Hid ((mv = zeroM ∧ Stp o2 ans ah2 k x mo) ∨ (x = 0 ∧ mo = false ∧ 0 < k ∧ ∃ X : Mm, Atk o2 ans ah2 k (eF ans ah2 k X.m) ∧ mv = X.cells ∧ IsMm w8 X ∧ ∀ q, X.hs.ownBlock = some q ∨ X.bd.ownBlock = some q → w6.heap.size ≤ q)) := Lib.hid (hon.imp id (fun ⟨h1, h2, h3, X, h4, h5, h6, h7⟩ => ⟨h1, h2, h3, X, h4, h5, h6, fun q e => Nat.le_trans HB6.size (h7 q e)⟩))
        replace BXQ := zI BXQ hb
        replace HB6 := zT HB6 hb
        replace HS0 : w8.cell? ⟨d, 0, none⟩ = some (.bool ans) ∧ w8.cell? ⟨d, 1, none⟩ = some (.slice A o2.length cp) := ⟨(Bes.box (X := fun _ => False) (Bes.of_heap HB6) M.box (fun x => x)).cell 0, (Bes.box (X := fun _ => False) (Bes.of_heap HB6) M.box (fun x => x)).cell 1⟩
        clear hb hon
        refine hK.out _ _ HS0 (fun hS2 => ?_)
        clear hK K hS2
        try simp only [Act.put, zA, zB, zC]
        refine TKC 9 31 rfl ?_
        try simp only [Act.put, zA, zB, zC]
        refine TKC 10 41 rfl ?_
        try simp only [Act.put, zA, zB, zC]
        refine TKC 11 42 rfl ?_
        try simp only [Act.put, zA, zB, zC]
        refine TKC 12 43 rfl ?_
        try simp only [Act.put, zA, zB, zC]
        refine TKC 13 44 rfl ?_
        try simp only [Act.put, zA, zB, zC]
        refine wpAnyH_ready (rs := [15]) (by kernel_rfl) (by simp) ?_
        refine AllReadyH.cons (o := ⟨none, _, _, _, _, _⟩) rfl (fun K hK => ?_) AllReadyH.nil
        simp only [Region.wanted, if_true]
        obtain ⟨hsz, hone⟩ := on_cells HON.out
        refine op_store_at 25 _ _ rfl w6.heap.size mv rfl rfl _ _ BXQ (by rw [hsz]; exact info_msg) (by rw [hsz]; rfl) hone ?_
        intro w9 hw
        have hbr : Bes (fun q => q = w6.heap.size) w8 w9 := Bes.row hw rfl
        have BXF := hid_row hw BXQ
        have HONF : Hid ((mv = zeroM ∧ Stp o2 ans ah2 k x mo) ∨ (x = 0 ∧ mo = false ∧ 0 < k ∧ ∃ X : Mm, Atk o2 ans ah2 k (eF ans ah2 k X.m) ∧ mv = X.cells ∧ IsMm w9 X ∧ ∀ q, X.hs.ownBlock = some q ∨ X.bd.ownBlock = some q → w6.heap.size ≤ q)) := Lib.hid (HON.out.imp id (fun ⟨h1, h2, h3, X, h4, h5, h6, h7⟩ => ⟨h1, h2, h3, X, h4, h5, h6.bes hbr (mm_off h6 (fun q e => by cases (show q = w6.heap.size from e); exact ⟨_, _, BXQ⟩) (by decide) (by decide)), h7⟩))
        have HBF := HB6.trans (hbr.below (fun q e => by rw [show q = w6.heap.size from e]; exact HMB) HB6.size)
        replace HS0 : w9.cell? ⟨d, 0, none⟩ = some (.bool ans) ∧ w9.cell? ⟨d, 1, none⟩ = some (.slice A o2.length cp) := ⟨(Bes.box (X := fun _ => False) (Bes.of_heap HBF) M.box (fun x => x)).cell 0, (Bes.box (X := fun _ => False) (Bes.of_heap HBF) M.box (fun x => x)).cell 1⟩
        clear hw hbr
        refine hK.out _ _ HS0 (fun hS2 => ?_)
        clear hK K hS2
        try simp only [Act.put, zA, zB, zC]
        refine TKC 16 9 rfl ?_
        try simp only [Act.put, zA, zB, zC]
        refine TKC 17 10 rfl ?_
        try simp only [Act.put, zA, zB, zC]
        refine TKC 18 11 rfl ?_
        try simp only [Act.put, zA, zB, zC]
        refine wpAnyH_done (by kernel_rfl) ?_ _
        exact HT.out (w6.heap.size, mv, k, x, mo) _ _ ⟨BXF, HMB, HBF, HONF.out⟩ (by kernel_rfl)
      · rintro ⟨mb, mv, k, x, mo⟩ w9 ⟨hbx, hmb, hb, hon⟩
        replace hbx : IBox w9 mb 25 mv := hbx
        replace hmb : w6.heap.size ≤ mb := hmb
        replace hon : (mv = zeroM ∧ Stp o2 ans ah2 k x mo) ∨ (x = 0 ∧ mo = false ∧ 0 < k ∧ ∃ X : Mm, Atk o2 ans ah2 k (eF ans ah2 k X.m) ∧ mv = X.cells ∧ IsMm w9 X ∧ ∀ q, X.hs.ownBlock = some q ∨ X.bd.ownBlock = some q → w6.heap.size ≤ q) := hon
        replace HI := Lib.hid (RfI.below HI.out hb)
        replace M := M.below hb
        have HBX9 := Lib.hid hbx
        have HMB := Lib.hid hmb
        have HW6 : Hid (w6.heap.size ≤ w9.heap.size) := Lib.hid hb.size
        clear hb hmb hbx HROW HROW6 HAB6
        rcases hon with ⟨rfl, hst⟩ | ⟨rfl, rfl, hk0, X, hat, rfl, hmm, hbl⟩
        · rcases hst.on with ⟨hx, rfl⟩ | ⟨rfl, rfl⟩
          · have hxb : (x == 0) = false := by rw [beq_eq_false_iff_ne]; exact hx
            have hxn : ¬ x = 0 := hx
            have HST := Lib.hid hst
            have c2 : w9.cell? ⟨d, 2, none⟩ = some (.int .i64 (ah2 : Int)) := M.box.cell 2
            clear hst hx
            go_wp2_with (first
              | ((with_reducible refine is_store ?_); refine wpl_store_cell rfl 4 (.tmp 49) _ rfl d 3 rfl (.bool true) rfl _ _ M.box (show 3 < 4 by decide) one_b rfl ?_; intro w10 hw; replace HI := Lib.hid (RfI.row HI.out M.box (Bes.row (X := fun q => q = d) hw rfl)); replace M : RfM n d ans o2 (.slice A o2.length cp) ah2 true w10 := RfM.set M.box M.gn M.own hw; clear hw c2))
            refine wp_region_S (S := fun w' => w'.cell? ⟨d, 2, none⟩ = some (.int .i64 (ah2 : Int))) (by kernel_rfl) (fun w11 hh => (box_heap hh M.box).cell 2) (fun w11 hh hbb HS0 => ?_)
            have hb := hbb _ (Nat.le_refl _)
            replace HI := Lib.hid (RfI.below HI.out hb)
            replace M := M.below hb
            clear hh hbb hb
            have hwr : IntKind.i64.wrap ((ah2 : Int) + (k : Int)) = ((ah2 + k : Nat) : Int) := by have := HAH.out; have := HI.out.2.2.2.2.2.1; have := HST.out.le; rw [IntKind.wrap_i64]; omega
            have hwk : IntKind.i64.wrap (k : Int) = (k : Int) := by have := HST.out.le; have := HO2L.out; rw [IntKind.wrap_i64]; omega
            refine TKC 0 50 rfl ?_
            try simp only [Act.put, zA, zB, zC]
            refine TKC 1 51 rfl ?_
            try simp only [Act.put, zA, zB, zC]
            refine TKC 2 52 rfl ?_
            try simp only [Act.put, zA, zB, zC]
            refine TKC 3 53 rfl ?_
            try simp only [Act.put, zA, zB, zC]
            refine TKC 4 54 rfl ?_
            try simp only [Act.put, zA, zB, zC]
            refine TKC 5 55 rfl ?_ (by (intro w hSw; (try dsimp only at hSw); have q1 := hSw; go_simp; try with_reducible rfl))
            try simp only [Act.put, zA, zB, zC]
            refine TKC 6 56 rfl ?_
            try simp only [Act.put, zA, zB, zC]
            refine TKC 7 57 (v := .int .i64 ((ah2 + k : Nat) : Int)) rfl ?_ (by (intro w hSw; (try dsimp only at hSw); have q1 := hwr; go_simp; try with_reducible rfl))
            try simp only [Act.put, zA, zB, zC]
            refine TKC 8 4 rfl ?_
            try simp only [Act.put, zA, zB, zC]
            refine TKC 9 5 rfl ?_
            try simp only [Act.put, zA, zB, zC]
            refine TKC 10 6 rfl ?_
            try simp only [Act.put, zA, zB, zC]
            refine wpAnyH_done (by kernel_rfl) ?_ _
            clear HS0
            go_wp2
            go_ret3
            obtain ⟨k1, k2, k3, k4, k5, k6, k7⟩ := HI.out
            refine ⟨o2, .slice A o2.length cp, outv, ah2, true, L, x, (ah2 + k), rfl, M, own_up k2 HW4.out, (fun y hy => ⟨(k3 y hy).1, fun q e => Nat.le_trans HW4.out ((k3 y hy).2 q e)⟩), (fun q e => RfW.ends HAT3.out HO3L.out k3 (k4 q e)), HB4.out.trans k1 (fun _ x => x) (fun i _ x => .inl x), (by omega), .inr ⟨hxn, rfl, (by rw [k7, HST.out.run_bad]; show Sum.inr (x, ah2 + k, L.map (·.m) ++ []) = _; rw [List.append_nil])⟩⟩
          · have HST := Lib.hid hst
            clear hst
            go_wp2
            go_ret3
            obtain ⟨F, f1, f2⟩ := HST.out.run_more
            obtain ⟨k1, k2, k3, k4, k5, k6, k7⟩ := HI.out
            refine ⟨o2, .slice A o2.length cp, outv, ah2, false, L, 0, 0, rfl, M, own_up k2 HW4.out, (fun y hy => ⟨(k3 y hy).1, fun q e => Nat.le_trans HW4.out ((k3 y hy).2 q e)⟩), (fun q e => RfW.ends HAT3.out HO3L.out k3 (k4 q e)), HB4.out.trans k1 (fun _ x => x) (fun i _ x => .inl x), (by omega), .inl ⟨rfl, rfl, rfl, F.pre (L.map (·.m)), (by rw [k7, f1]; rfl), (by show L.map (·.m) ++ F.whole = _; rw [f2, List.append_nil]), (by rw [f1]; congr 1; obtain ⟨⟩ := F; simp only at f2; subst f2; rfl), k6⟩⟩
        · have HAT := Lib.hid hat
          have HMM := Lib.hid hmm
          have HBL := Lib.hid hbl
          have HK0 := Lib.hid hk0
          clear hat hmm hbl hk0
          obtain ⟨iem, m1, m2, m3, m4⟩ := info_msgs
          have HKL : Hid (k ≤ o2.length) := Lib.hid HAT.out.1
          have HI46 : Hid (w4.heap.size ≤ w6.heap.size) := Lib.hid HW46.out
          have hk1 : (k : Int) ≤ 1099511627776 := by have := HKL.out; have := HO2L.out; omega
          have hah1 : (ah2 : Int) ≤ 4611686018427387904 := by have := HAH.out; have := HI.out.2.2.2.2.2.1; omega
          have hkc : (k : Int) ≤ (cp : Int) := by have := HKL.out; have := HCAP.out; omega
          have hko : (k : Int) ≤ (o2.length : Int) := by have := HKL.out; omega
          obtain ⟨b9, o9, hA9⟩ : ∃ b9 o9, A = some ⟨b9, o9, none⟩ := by
            have hw := M.own
            rcases hw with ⟨e, e2⟩ | ⟨g5, o5, c5, cur5, e, _⟩
            · exact absurd e2 HNE.out
            · injection e with e; exact ⟨_, _, e⟩
          subst hA9
          by_cases hck : cp = k
          · have HCUT : Hid (∀ wx, OwnO wx n (.slice (some ⟨b9, o9, none⟩) o2.length cp) o2 → OwnO wx n (.slice (some ⟨b9, o9, none⟩) 0 0) (o2.drop k)) := Lib.hid (fun wx h => (h.cut HKL.out).2 hck)
            have hol2 : o2.length = k := by have := HKL.out; have := HCAP.out; omega
            go_wp2_with (first
              | ((with_reducible refine is_load ?_); refine wpl_load_arr rfl 25 (.tmp 8) rfl mb 0 rfl X.cells _ (fun j v hv => by rw [Nat.zero_add, HBX9.out.cell, ← Array.getElem?_toList]; exact hv) Tryz.underlying25 rfl info_msg ?_)
              | ((with_reducible refine is_slice ?_); refine wpl_slice_at 1 [(0, .agg X.cells)] X.cells iem _ (by rw [m3]; exact msg_fill X) rfl 39 25 _ rfl rfl Tryz.underlying39 m1 m2 (by rw [m3]; decide) (by rw [m3]; decide) ?_; intro w10 hw; have hb := hid_grow hw; have B9 := (hid_alloc hw).1; replace HI := Lib.hid (RfI.below HI.out hb); replace HMM := Lib.hid (HMM.out.bes (X := fun _ => False) (Bes.of_heap hb) ⟨fun _ _ z => z, fun _ _ z => z⟩); replace M := M.below hb; have HW10 : Hid (w9.heap.size ≤ w10.heap.size) := Lib.hid hb.size; clear hw hb)
              | ((with_reducible refine is_app (.tmp 60) (.tmp 62) ?_); go_loud (refine wpl_grow rfl (.tmp 60) (.tmp 62) 39 rfl w4.heap.size 25 iem _ 6 104 Tryz.underlying39 m1 m2 m3 m4 rfl (by decide) _ L.length _ rfl HI.out.2.1 _ _ X.cells _ B9 rfl rfl (mm_oneX HMM.out) (by have := HI.out.2.2.2.2.1; have := HOL.out; unfold maxLen; omega) (by have := HI.out.2.2.2.2.1; have := HOL.out; omega) HI.out.1.size ?_; intro v11 w11 h11 hg11 hb11; obtain ⟨hbs, hi2⟩ := RfI.more HI.out HMM.out (fun q e => Nat.le_trans HI46.out (HBL.out q e)) HAT.out HK0.out h11 hg11; have M2 : RfM n d ans o2 (.slice (some ⟨b9, o9, none⟩) o2.length cp) ah2 false w11 := M.bes hbs (fun e => (ty_off (own_ty HI.out.2.1) M.box (by decide)) e) (fun q e x => by obtain ⟨a5, f5, h5⟩ := M.own.ty q e; exact ty_off (own_ty HI.out.2.1) h5 (by decide) x); have HI2 := Lib.hid hi2; clear h11 hg11 hb11 B9 hbs hi2 M; have M := M2; clear M2; have c1 : w11.cell? ⟨d, 1, none⟩ = some (.slice (some ⟨b9, o9, none⟩) o2.length cp) := M.box.cell 1; have c2 : w11.cell? ⟨d, 2, none⟩ = some (.int .i64 (ah2 : Int)) := M.box.cell 2))
              | ((with_reducible refine is_store ?_); refine wpl_store_cell rfl 23 (.tmp 72) _ rfl d 1 rfl (.slice (some ⟨b9, o9, none⟩) 0 0) rfl _ _ M.box (show 1 < 4 by decide) one_sb rfl ?_; intro w12 hw; replace HI2 := Lib.hid (RfI.row HI2.out M.box (Bes.row (X := fun q => q = d) hw rfl)); replace M : RfM n d ans (o2.drop k) (.slice (some ⟨b9, o9, none⟩) 0 0) ah2 false w12 := RfM.set M.box M.gn (HCUT.out _ M.own) hw; clear hw c1 c2; have c2 : w12.cell? ⟨d, 2, none⟩ = some (.int .i64 (ah2 : Int)) := M.box.cell 2)
              | ((with_reducible refine is_store ?_); refine wpl_store_cell rfl 3 (.tmp 81) _ rfl d 2 rfl (.int .i64 ((ah2 : Int) + (k : Int))) rfl _ _ M.box (show 2 < 4 by decide) one_i rfl ?_; intro w13 hw; replace HI2 := Lib.hid (RfI.row HI2.out M.box (Bes.row (X := fun q => q = d) hw rfl)); replace M : RfM n d ans (o2.drop k) _ (ah2 + k) false w13 := RfM.set M.box M.gn M.own hw; clear hw c2))
            go_roundw
            case rel => (first | exact ⟨o2.drop k, .slice (some ⟨b9, o9, none⟩) 0 0, v11, ah2 + k, L ++ [X], rfl, M, Lib.hid ⟨HI2.out.1, HI2.out.2.1, HI2.out.2.2.1, HI2.out.2.2.2.1, HI2.out.2.2.2.2⟩⟩ | ((repeat apply Exists.intro); exact ⟨⟨o2.drop k, .slice (some ⟨b9, o9, none⟩) 0 0, v11, ah2 + k, L ++ [X], rfl, M, Lib.hid ⟨HI2.out.1, HI2.out.2.1, HI2.out.2.2.1, HI2.out.2.2.2.1, HI2.out.2.2.2.2⟩⟩, rfl⟩))
            case measure => (rw [rfLen_of HM0.out, rfLen_of M, List.length_drop]; have := HK0.out; have := HKL.out; omega)
          · have HCUT : Hid (∀ wx, OwnO wx n (.slice (some ⟨b9, o9, none⟩) o2.length cp) o2 → OwnO wx n (.slice (some ⟨b9, o9 + k, none⟩) (o2.length - k) (cp - k)) (o2.drop k)) := Lib.hid (fun wx h => (h.cut HKL.out).1)
            go_wp2_with (first
              | ((with_reducible refine is_load ?_); refine wpl_load_arr rfl 25 (.tmp 8) rfl mb 0 rfl X.cells _ (fun j v hv => by rw [Nat.zero_add, HBX9.out.cell, ← Array.getElem?_toList]; exact hv) Tryz.underlying25 rfl info_msg ?_)
              | ((with_reducible refine is_slice ?_); refine wpl_slice_at 1 [(0, .agg X.cells)] X.cells iem _ (by rw [m3]; exact msg_fill X) rfl 39 25 _ rfl rfl Tryz.underlying39 m1 m2 (by rw [m3]; decide) (by rw [m3]; decide) ?_; intro w10 hw; have hb := hid_grow hw; have B9 := (hid_alloc hw).1; replace HI := Lib.hid (RfI.below HI.out hb); replace HMM := Lib.hid (HMM.out.bes (X := fun _ => False) (Bes.of_heap hb) ⟨fun _ _ z => z, fun _ _ z => z⟩); replace M := M.below hb; have HW10 : Hid (w9.heap.size ≤ w10.heap.size) := Lib.hid hb.size; clear hw hb)
              | ((with_reducible refine is_app (.tmp 60) (.tmp 62) ?_); go_loud (refine wpl_grow rfl (.tmp 60) (.tmp 62) 39 rfl w4.heap.size 25 iem _ 6 104 Tryz.underlying39 m1 m2 m3 m4 rfl (by decide) _ L.length _ rfl HI.out.2.1 _ _ X.cells _ B9 rfl rfl (mm_oneX HMM.out) (by have := HI.out.2.2.2.2.1; have := HOL.out; unfold maxLen; omega) (by have := HI.out.2.2.2.2.1; have := HOL.out; omega) HI.out.1.size ?_; intro v11 w11 h11 hg11 hb11; obtain ⟨hbs, hi2⟩ := RfI.more HI.out HMM.out (fun q e => Nat.le_trans HI46.out (HBL.out q e)) HAT.out HK0.out h11 hg11; have M2 : RfM n d ans o2 (.slice (some ⟨b9, o9, none⟩) o2.length cp) ah2 false w11 := M.bes hbs (fun e => (ty_off (own_ty HI.out.2.1) M.box (by decide)) e) (fun q e x => by obtain ⟨a5, f5, h5⟩ := M.own.ty q e; exact ty_off (own_ty HI.out.2.1) h5 (by decide) x); have HI2 := Lib.hid hi2; clear h11 hg11 hb11 B9 hbs hi2 M; have M := M2; clear M2; have c1 : w11.cell? ⟨d, 1, none⟩ = some (.slice (some ⟨b9, o9, none⟩) o2.length cp) := M.box.cell 1; have c2 : w11.cell? ⟨d, 2, none⟩ = some (.int .i64 (ah2 : Int)) := M.box.cell 2))
              | ((with_reducible refine is_store ?_); refine wpl_store_cell rfl 23 (.tmp 72) _ rfl d 1 rfl (.slice (some ⟨b9, o9 + k, none⟩) (o2.length - k) (cp - k)) rfl _ _ M.box (show 1 < 4 by decide) one_sb rfl ?_; intro w12 hw; replace HI2 := Lib.hid (RfI.row HI2.out M.box (Bes.row (X := fun q => q = d) hw rfl)); replace M : RfM n d ans (o2.drop k) (.slice (some ⟨b9, o9 + k, none⟩) (o2.length - k) (cp - k)) ah2 false w12 := RfM.set M.box M.gn (HCUT.out _ M.own) hw; clear hw c1 c2; have c2 : w12.cell? ⟨d, 2, none⟩ = some (.int .i64 (ah2 : Int)) := M.box.cell 2)
              | ((with_reducible refine is_store ?_); refine wpl_store_cell rfl 3 (.tmp 81) _ rfl d 2 rfl (.int .i64 ((ah2 : Int) + (k : Int))) rfl _ _ M.box (show 2 < 4 by decide) one_i rfl ?_; intro w13 hw; replace HI2 := Lib.hid (RfI.row HI2.out M.box (Bes.row (X := fun q => q = d) hw rfl)); replace M : RfM n d ans (o2.drop k) _ (ah2 + k) false w13 := RfM.set M.box M.gn M.own hw; clear hw c2))
            go_roundw
            case rel => (first | exact ⟨o2.drop k, .slice (some ⟨b9, o9 + k, none⟩) (o2.length - k) (cp - k), v11, ah2 + k, L ++ [X], rfl, M, Lib.hid ⟨HI2.out.1, HI2.out.2.1, HI2.out.2.2.1, HI2.out.2.2.2.1, HI2.out.2.2.2.2⟩⟩ | ((repeat apply Exists.intro); exact ⟨⟨o2.drop k, .slice (some ⟨b9, o9 + k, none⟩) (o2.length - k) (cp - k), v11, ah2 + k, L ++ [X], rfl, M, Lib.hid ⟨HI2.out.1, HI2.out.2.1, HI2.out.2.2.1, HI2.out.2.2.2.1, HI2.out.2.2.2.2⟩⟩, rfl⟩))
            case measure => (rw [rfLen_of HM0.out, rfLen_of M, List.length_drop]; have := HK0.out; have := HKL.out; omega)
    · obtain rfl : o2 = [] := List.eq_nil_of_length_eq_zero (by omega)
      clear HO2L
      go_wp2
      go_ret3
      obtain ⟨k1, k2, k3, k4, k5, k6, k7⟩ := HI.out
      refine ⟨[], .slice A 0 cp, outv, ah2, false, L, 0, 0, rfl, M, own_up k2 HW4.out, (fun x hx => ⟨(k3 x hx).1, fun q e => Nat.le_trans HW4.out ((k3 x hx).2 q e)⟩), ?_, HB4.out.trans k1 (fun _ x => x) (fun i _ x => .inl x), (by simp only [List.length_nil] at k5; omega), .inl ⟨rfl, rfl, rfl, (newA ans ah2).pre (L.map (·.m)), (by rw [k7]; rfl), (by show (L.map (·.m)) ++ _ = _; cases ans <;> exact List.append_nil _), (by rw [runS_nil]; cases ans <;> rfl), k6⟩⟩
      exact fun q e => RfW.ends HAT3.out HO3L.out k3 (k4 q e)
end
end Go.Proofs.YtbehakabglegjaaGreatDoor
