/- Layer 9: the document's examples at the head of each statement hold. Layer 9: a text as it stands in a target. -/
import Derived.Test.YtbehakabglegjaaGreatDoorQ21
import Derived.Test.YtbehakabglegjaaGreatDoorQ25
import Derived.Test.YtbehakabglegjaaGreatDoorQ20
namespace Go.Proofs.YtbehakabglegjaaGreatDoor
open Go.RowKit Go.PlainAid
set_option linter.unusedVariables false
set_option linter.unusedSimpArgs false
theorem FdM.live {base : Bs} {g : Nat} {F : Fs} {nx tk hs bd wh : Value} {L : List Mm} {w : World} (h : FdM base g F nx tk hs bd wh L w) : ∀ q, Live g tk hs bd wh q → q < w.heap.size := fun q hq => by
  rcases hq with rfl | hq | hq | hq | hq
  · exact h.2.gl.2
  · exact (own_in h.2.rt hq).2
  · exact (own_in h.2.rh hq).2
  · exact (own_in h.2.rb hq).2
  · exact (own_in h.2.rw_ hq).2
/-- Other blocks to be let be. -/
theorem FdM.av {n g : Nat} {P av : Nat → Prop} {F : Fs} {nx tk hs bd wh : Value} {L : List Mm} {w1 w2 : World} (h : FdM ⟨n, P⟩ g F nx tk hs bd wh L w1) (hb : Below w1.heap.size w1 w2) (hav : ∀ q, av q → q < w2.heap.size ∧ ¬ Live g tk hs bd wh q) : FdM ⟨n, av⟩ g F nx tk hs bd wh L w2 :=
  have r := h.2.below hb
  ⟨IBox.below h.1 hb (IBox.lt h.1), r.gl, r.rt, r.rh, r.rb, r.rw_, r.wl, r.ap, r.ms, fun q hl ha => (hav q ha).2 hl, fun q ha => (hav q ha).1⟩
theorem FdM.new {n g k : Nat} {P : Nat → Prop} {F : Fs} {nx tk hs bd wh : Value} {L : List Mm} {w1 w2 : World} (h : FdM ⟨n, P⟩ g F nx tk hs bd wh L w1) (hb : Below w1.heap.size w1 w2) (hk : w1.heap.size ≤ k) (hk2 : k < w2.heap.size) : FdM ⟨n, (· = k)⟩ g F nx tk hs bd wh L w2 :=
  h.av hb fun q e => by
    have e2 : q = k := e
    subst e2
    exact ⟨hk2, fun hl => by have := h.live q hl; omega⟩
def bytesA (l : List UInt8) : Array Value := (l.map fun u => Value.int .u8 (u.toNat : Int)).toArray
/-- A row of bytes, marked perhaps. -/
def RBox (w : World) (g : Nat) (arr : Array Value) : Prop := ∃ fz, w.heap[g]? = some (.cells arr 5 fz)
theorem RBox.lt {w : World} {g : Nat} {arr : Array Value} (h : RBox w g arr) : g < w.heap.size := by
  obtain ⟨fz, h⟩ := h
  exact (Array.getElem?_eq_some_iff.1 h).1
theorem bt_box {w : World} {g c : Nat} {l : List UInt8} (h : RBox w g (bytesA l)) : BtAt w (.slice (some ⟨g, 0, none⟩) l.length c) l := by
  obtain ⟨fz, h⟩ := h
  refine ⟨_, _, rfl, fun i u hu => ⟨g, 0, rfl, ?_⟩⟩
  rw [Nat.zero_add, Lib.cell_of_heap h]
  unfold bytesA
  simp [hu]
theorem bt_keep {base : Bs} {w w' : World} {g c : Nat} {l : List UInt8} (h : RBox w g (bytesA l)) (hg : base.av g) (hb : Bl base w w') : BtAt w' (.slice (some ⟨g, 0, none⟩) l.length c) l := bt_box (h.elim fun fz e => ⟨fz, (hb.k g hg).trans e⟩)
def ex1L : List UInt8 := [71, 69, 84, 32, 47, 97, 32, 72, 84, 84, 80, 47, 49, 46, 49, 13, 10, 72, 111, 115, 116, 58, 32, 98, 32, 13, 10, 13]
def ex1G : Fs := match feedS (newS false) ex1L with
  | .inl G => G
  | .inr _ => newS false
def ex2G : Fs := match feedS ex1G [10] with
  | .inl G => G
  | .inr _ => newS false
theorem ex1_fed : feedS (newS false) ex1L = .inl ex1G := by kernel_rfl
theorem ex2_fed : feedS ex1G [10] = .inl ex2G := by kernel_rfl
theorem ex1_whole : ex1G.whole = [] := by kernel_rfl
theorem ex1_open : openB ex1G = true := by kernel_rfl
theorem ex1_pos : ex1G.pos = 28 := by kernel_rfl
def exMs : Ms := ⟨⟨#[71, 69, 84]⟩, ⟨#[47, 97]⟩, 0, ⟨#[]⟩, [(⟨#[72, 111, 115, 116]⟩, ⟨#[98]⟩)], []⟩
theorem ex2_whole : ex2G.whole = [exMs] := by kernel_rfl
theorem ex1_bytes : bytesA ex1L = #[.int .u8 71, .int .u8 69, .int .u8 84, .int .u8 32, .int .u8 47, .int .u8 97, .int .u8 32, .int .u8 72, .int .u8 84, .int .u8 84, .int .u8 80, .int .u8 47, .int .u8 49, .int .u8 46, .int .u8 49, .int .u8 13, .int .u8 10, .int .u8 72, .int .u8 111, .int .u8 115, .int .u8 116, .int .u8 58, .int .u8 32, .int .u8 98, .int .u8 32, .int .u8 13, .int .u8 10, .int .u8 13] := by kernel_rfl
theorem ex2_bytes : bytesA [10] = #[.int .u8 10] := by kernel_rfl
theorem ex3_bytes : bytesA [104, 105] = #[.int .u8 104, .int .u8 105] := by kernel_rfl
theorem ex_split : splitS (bl (⟨#[47, 97, 37, 50, 70, 98, 47, 63, 120, 61, 49, 38, 121]⟩ : ByteArray)) = .inr ([⟨#[97, 47, 98]⟩, ⟨#[]⟩], [(⟨#[120]⟩, ⟨#[49]⟩), (⟨#[121]⟩, ⟨#[]⟩)]) := by kernel_rfl
def exW : Ms := ⟨⟨#[]⟩, ⟨#[]⟩, 200, ⟨#[79, 75]⟩, [], [104, 105]⟩
theorem ex_write : (writeS exW).1 = 0 := by kernel_rfl
theorem ex_long : decide (20 < (writeS exW).2.length) = true := by kernel_rfl
theorem ex_small : (topL exW).length + exW.body.length ≤ 140737488355328 := by
  exact of_decide_eq_true (by kernel_rfl)
theorem msg_build (g : Nat) (w : World) : (Instr.build 25 [(2, .int .i64 200), (3, .string ⟨#[79, 75]⟩), (5, .slice (some ⟨g, 0, none⟩) 2 2)].toArray).run Tryz.prog w = .ok (.agg #[.string ⟨#[]⟩, .string ⟨#[]⟩, .int .i64 200, .string ⟨#[79, 75]⟩, .slice none 0 0, .slice (some ⟨g, 0, none⟩) 2 2]) w := by kernel_rfl
theorem newS_HZ (b : Bool) : HZ (newS b) := by
  cases b <;> exact fun p hp => by cases hp
theorem conv_row {w : World} {g n c : Nat} {arr : Array Value} (h : IBox w g 5 arr) : (convert 23 23 (.slice (some ⟨g, 0, none⟩) n c)).run Tryz.prog w = .ok (.slice (some ⟨g, 0, none⟩) n c) (w.freeze ⟨g, arr.size, none⟩ 1) := by
  have h1 := Tryz.underlying23
  have h2 := Tryz.underlying5
  have hI : w.heap[g]? = some (.cells arr 5 (0, 0)) := h
  have hs : w.shape? g = some (5, arr.size) := by simp [World.shape?, hI]
  simp [convert, run_underlying h1, run_underlying h2, markStringish, hs]
theorem wpl_conv_row {ops : Array Oper} {rest : List Oper} {o : Oper} {a : Act} {w : World} {Q : Exit → Act → World → Prop} (hgd : o.guard = none) (x : Operand) (ho : o.op = .convert 23 23 x) {g n c : Nat} {arr : Array Value} (h : IBox w g 5 arr) (hx : a.eval x = .slice (some ⟨g, 0, none⟩) n c)
    (hQ : ∀ w', RBox w' g arr → Below g w w' → wpList Tryz.prog ops Q rest (a.put o.dst (.slice (some ⟨g, 0, none⟩) n c)) w') : wpList Tryz.prog ops Q (o :: rest) a w :=
  wpList_plain hgd fun _ hK => by
    have e := conv_row (n := n) (c := c) h
    have hI : w.heap[g]? = some (.cells arr 5 (0, 0)) := h
    have hr : RBox (w.freeze ⟨g, arr.size, none⟩ 1) g arr := ⟨_, by simp [World.freeze, Array.getElem?_modify, hI]; rfl⟩
    have hb := Lib.below_freeze (Below.refl g w) (p := ⟨g, arr.size, none⟩) (Nat.le_refl _) 1
    have hq := hQ _ hr hb
    generalize w.freeze ⟨g, arr.size, none⟩ 1 = w9 at *
    generalize hP : Tryz.prog = P at *
    unfold Oper.wp execOp
    simp only [ho, hx, Sem.run_bind, e, Result.andThen_ok, Sem.run_pure]
    exact hK _ _ hq
theorem ex_mg {w : World} {g : Nat} (h : RBox w g (bytesA [104, 105])) : MgAt w ⟨exW, .slice none 0 0, .slice (some ⟨g, 0, none⟩) 2 2⟩ where
  hd := ⟨none, 0, rfl, fun i p h => by simp [exW] at h⟩
  bt := bt_box (l := [104, 105]) h
  hl := Nat.zero_le _
  bz := show exW.body.length ≤ 140737488355328 by decide
  hz := fun p hp => by simp [exW] at hp
  mz := show exW.meth.size ≤ 140737488355328 ∧ exW.targ.size ≤ 140737488355328 ∧ exW.reas.size ≤ 140737488355328 by decide
  st := show -9223372036854775808 ≤ exW.stat ∧ exW.stat ≤ 9223372036854775807 by decide
/-- The message that is whole, as it lies. -/
structure ShM (w : World) (b hb off : Nat) (hc : Nat) : Prop where
  q0 : w.cell? ⟨b, 0, none⟩ = some (.string ⟨#[71, 69, 84]⟩)
  q1 : w.cell? ⟨b, 1, none⟩ = some (.string ⟨#[47, 97]⟩)
  q4 : w.cell? ⟨b, 4, none⟩ = some (.slice (some ⟨hb, off, none⟩) 1 hc)
  qh : w.cell? ⟨hb, off + 1, none⟩ = some (.string ⟨#[98]⟩)
theorem ShM.below {w w' : World} {b hb off hc : Nat} (h : ShM w b hb off hc) (k : Below w.heap.size w w') : ShM w' b hb off hc := ⟨cell_later k h.q0, cell_later k h.q1, cell_later k h.q4, cell_later k h.qh⟩
theorem ShM.of {base : Bs} {g : Nat} {F : Fs} {nx tk hs bd wh : Value} {L : List Mm} {w : World} (h : FdM base g F nx tk hs bd wh L w) (hw : F.whole = [exMs]) : ∃ b c hb off hc, wh = .slice (some ⟨b, 0, none⟩) 1 c ∧ ShM w b hb off hc := by
  have hl := h.2.wl
  rw [hw] at hl
  have hl1 : L.length = 1 := by
    have := congrArg List.length hl
    simpa using this
  obtain ⟨x, rfl⟩ := List.length_eq_one_iff.1 hl1
  · have hx : x.m = exMs := by simpa using hl
    obtain ⟨A, c, rfl, hcells⟩ := own_slice h.2.rw_
    obtain ⟨b, rfl, h0⟩ := hcells 0 (.string x.m.meth) rfl
    obtain ⟨b1, e1, h1⟩ := hcells 1 (.string x.m.targ) rfl
    obtain ⟨b4, e4, h4⟩ := hcells 4 x.hs rfl
    obtain rfl : b = b1 := by injection e1 with e; injection e
    obtain rfl : b = b4 := by injection e4 with e; injection e
    obtain ⟨hI, _⟩ := h.2.ms x (by simp)
    obtain ⟨hA, hc, hhs, hhc⟩ := hI.1
    rw [hx] at h0 h1 hhs hhc
    obtain ⟨hb, off, rfl, _, hq⟩ := hhc 0 _ rfl
    rw [hhs] at h4
    refine ⟨b, c, hb, off, hc, rfl, h0, h1, h4, ?_⟩
    simpa using hq
set_option maxRecDepth 100000 in
set_option maxHeartbeats 16000000 in
theorem shown_any {w : World} (hw : Wh w w.heap.size) : Calls Tryz.prog 9 #[] w fun e w' => e = .returned (.bool true) ∧ Below w.heap.size w w' := by
  have HW := Lib.hid hw
  obtain ⟨ie, hie1, hie2, hie3, hie4⟩ := u8_info
  have HLG : Hid ((20 : Int) < ((writeS exW).2.length : Int)) := Lib.hid (by have h := of_decide_eq_true ex_long; omega)
  clear hw
  go_enter Tryz.func9, Tryz.ntmps9
  go_wp2_with (first
    | (go_at_call 13; go_loud (refine (new_any false _).mono ?_); rintro e w1 ⟨rfl, hM, hb⟩; have HM := Lib.hid hM; have HB := hb; clear hM hb)
    | ((with_reducible refine is_slice ?_); refine wpl_slice_at 28 [(0, .int .u8 71), (1, .int .u8 69), (2, .int .u8 84), (3, .int .u8 32), (4, .int .u8 47), (5, .int .u8 97), (6, .int .u8 32), (7, .int .u8 72), (8, .int .u8 84), (9, .int .u8 84), (10, .int .u8 80), (11, .int .u8 47), (12, .int .u8 49), (13, .int .u8 46), (14, .int .u8 49), (15, .int .u8 13), (16, .int .u8 10), (17, .int .u8 72), (18, .int .u8 111), (19, .int .u8 115), (20, .int .u8 116), (21, .int .u8 58), (22, .int .u8 32), (23, .int .u8 98), (24, .int .u8 32), (25, .int .u8 13), (26, .int .u8 10), (27, .int .u8 13)] #[.int .u8 71, .int .u8 69, .int .u8 84, .int .u8 32, .int .u8 47, .int .u8 97, .int .u8 32, .int .u8 72, .int .u8 84, .int .u8 84, .int .u8 80, .int .u8 47, .int .u8 49, .int .u8 46, .int .u8 49, .int .u8 13, .int .u8 10, .int .u8 72, .int .u8 111, .int .u8 115, .int .u8 116, .int .u8 58, .int .u8 32, .int .u8 98, .int .u8 32, .int .u8 13, .int .u8 10, .int .u8 13] ie _ (by rw [hie3]; kernel_rfl) rfl 23 5 _ rfl rfl Tryz.underlying23 hie1 hie2 (by rw [hie3]; decide) (by rw [hie3]; decide) ?_; intro w2 hw; have hb := hid_grow hw; have B9 := (hid_alloc hw).1; rw [← ex1_bytes] at B9; have hbS := hb; clear hw hb)
    | ((with_reducible refine is_convert ?_); refine wpl_conv_row rfl (.tmp 17) rfl B9 rfl ?_; intro w2c hr hbC; have hb := hbS.trans hbC; clear B9 hbS hbC; have B9 := hr; replace HM := Lib.hid (HM.out.new hb (Nat.le_refl _) (RBox.lt B9)); replace HB := HB.trans (hb.mono HB.size); clear hb hr)
    | (go_at_call 14; go_loud (refine (feed_any (l := ex1L) HM.out rfl (FI.new false) (newS_HZ false) (HW.out.below HB) (by decide) (by decide) (fun w' hbl => bt_keep B9 rfl hbl)).mono ?_); rintro e w3 hq; unfold FeV at hq; rw [ex1_fed] at hq; obtain ⟨hbl, nx, tk, hs, bd, wh, L, rfl, hM, hnx, hI, hZ⟩ := hq; replace HB := HB.trans hbl.b; replace HM := Lib.hid hM; have HNX := Lib.hid hnx; have HI := Lib.hid hI; have HZ := Lib.hid hZ; clear hM hnx hI hZ hbl B9; obtain ⟨A0, k0, rfl, -⟩ := own_slice HM.out.2.rw_; (have hL := HM.out.2.wl); rw [ex1_whole] at hL; obtain rfl : L = [] := List.map_eq_nil_iff.1 hL; clear hL)
    | (go_at_call 16; go_loud (refine (open_any HM.out).mono ?_); rintro e w4 ⟨rfl, rfl⟩; rw [ex1_open])
    | ((with_reducible refine is_slice ?_); refine wpl_slice_at 1 [(0, .int .u8 10)] #[.int .u8 10] ie _ (by rw [hie3]; kernel_rfl) rfl 23 5 _ rfl rfl Tryz.underlying23 hie1 hie2 (by rw [hie3]; decide) (by rw [hie3]; decide) ?_; intro w4b hw; have hb := hid_grow hw; have B9 := (hid_alloc hw).1; rw [← ex2_bytes] at B9; have hbS := hb; clear hw hb)
    | ((with_reducible refine is_convert ?_); refine wpl_conv_row rfl (.tmp 26) rfl B9 rfl ?_; intro w4c hr hbC; have hb := hbS.trans hbC; clear B9 hbS hbC; have B9 := hr; replace HM := Lib.hid (HM.out.new hb (Nat.le_refl _) (RBox.lt B9)); replace HB := HB.trans (hb.mono HB.size); clear hb hr)
    | (go_at_call 14; go_loud (refine (feed_any (l := [10]) HM.out HNX.out HI.out HZ.out (HW.out.below HB) (by decide) (by rw [ex1_pos]; decide) (fun w' hbl => bt_keep B9 rfl hbl)).mono ?_); rintro e w5 hq; unfold FeV at hq; rw [ex2_fed] at hq; obtain ⟨hbl, nx, tk, hs, bd, wh, L, rfl, hM, hnx, hI, hZ⟩ := hq; replace HB := HB.trans hbl.b; replace HM := Lib.hid hM; have HNX := Lib.hid hnx; have HI := Lib.hid hI; have HZ := Lib.hid hZ; clear hM hnx hI hZ hbl B9; obtain ⟨mb, mc, mh, mo, mk, rfl, hsh⟩ := ShM.of HM.out ex2_whole; have HSH := Lib.hid hsh; have q0 := hsh.q0; have q1 := hsh.q1; have q4 := hsh.q4; have qh := hsh.qh; clear hsh HM HI HZ HNX)
    | (go_at_call 21; go_loud (refine (split_any (s := ⟨#[47, 97, 37, 50, 70, 98, 47, 63, 120, 61, 49, 38, 121]⟩) (by decide) ((HW.out.below HB).up HB.size)).mono ?_); rintro e w6 ⟨hv, hb⟩; rw [ex_split] at hv; obtain ⟨pv, qv, rfl, hT, hP⟩ := hv; obtain ⟨pA, pc, rfl, hpc⟩ := own_slice hT; obtain ⟨pb, rfl, qp⟩ := hpc 0 (.string ⟨#[97, 47, 98]⟩) rfl; obtain ⟨qA, qc, rfl, -⟩ := own_slice hP; clear hpc hT hP; replace HSH := Lib.hid (HSH.out.below hb); clear q0 q1 q4 qh; have q0 := HSH.out.q0; have q1 := HSH.out.q1; have q4 := HSH.out.q4; have qh := HSH.out.qh; replace HB := HB.trans (hb.mono HB.size); clear hb)
    | ((with_reducible refine is_slice ?_); refine wpl_slice_at 2 [(0, .int .u8 104), (1, .int .u8 105)] #[.int .u8 104, .int .u8 105] ie _ (by rw [hie3]; kernel_rfl) rfl 23 5 _ rfl rfl Tryz.underlying23 hie1 hie2 (by rw [hie3]; decide) (by rw [hie3]; decide) ?_; intro w7b hw; have hb := hid_grow hw; have B9 := (hid_alloc hw).1; rw [← ex3_bytes] at B9; have hbS := hb; clear hw hb)
    | ((with_reducible refine is_convert ?_); refine wpl_conv_row rfl (.tmp 65) rfl B9 rfl ?_; intro w7 hr hbC; have hb := hbS.trans hbC; clear B9 hbS hbC; have B9 := hr; replace HSH := Lib.hid (HSH.out.below hb); clear q0 q1 q4 qh; have q0 := HSH.out.q0; have q1 := HSH.out.q1; have q4 := HSH.out.q4; have qh := HSH.out.qh; replace qp := cell_later hb qp;  replace HB := HB.trans (hb.mono HB.size); clear hb hr)
    | ((with_reducible refine is_build2 _ ?_); refine wpl_build_at (vals := [(2, .int .i64 200), (3, .string ⟨#[79, 75]⟩), (5, .slice (some ⟨w6.heap.size, 0, none⟩) 2 2)]) (msg_build w6.heap.size) rfl _ rfl rfl ?_)
    | (go_at_call 10; (have hm := ex_mg B9); go_loud (refine (write_any hm (show exW.meth.size ≤ 1099511627776 by decide) (show exW.targ.size ≤ 1099511627776 by decide) (show exW.reas.size ≤ 1099511627776 by decide) ((HW.out.below HB).up HB.size) (Lib.hid ex_small)).mono ?_); rintro e w8 ⟨hv, hb⟩; obtain ⟨v, rfl, hv⟩ := hv; obtain ⟨wA, wc, rfl⟩ : ∃ A c, v = .tuple #[.slice A (writeS exW).2.length c, .nilIface] := (by (rcases hv with ⟨_, b, rfl, ho⟩ | ⟨k, e1, e2, _⟩); (obtain ⟨A, c, rfl⟩ := ho.slice; exact ⟨A, c, rfl⟩); (exact absurd (show (writeS exW).1 = k by rw [e1]) (by rw [ex_write]; exact fun e => e2 e.symm))); generalize (writeS exW).2.length = wl at HLG ⊢; have hlg := HLG.out; replace HSH := Lib.hid (HSH.out.below hb); clear q0 q1 q4 qh; have q0 := HSH.out.q0; have q1 := HSH.out.q1; have q4 := HSH.out.q4; have qh := HSH.out.qh; replace qp := cell_later hb qp; replace HB := HB.trans (hb.mono HB.size); clear hb hv hm B9))
  go_ret
  exact ⟨rfl, HB⟩
end Go.Proofs.YtbehakabglegjaaGreatDoor
namespace Go.Proofs.YtbehakabglegjaaGreatDoor
open Go.RowKit Go.PlainAid
set_option linter.unusedVariables false
set_option linter.unusedSimpArgs false
def digT : ByteArray := (⟨#[48, 49, 50, 51, 52, 53, 54, 55, 56, 57, 65, 66, 67, 68, 69, 70]⟩ : ByteArray)
set_option maxRecDepth 100000 in
theorem esc_text : ∀ n : Fin 256, (((⟨#[37]⟩ : ByteArray) ++ digT.extract (n.val / 16) (n.val / 16 + 1)) ++ digT.extract (n.val % 16) (n.val % 16 + 1)).data.toList = [37, digU (n.val / 16), digU (n.val % 16)] := by decide +kernel
theorem esc_bytes (c : UInt8) : (((⟨#[37]⟩ : ByteArray) ++ digT.extract (c.toNat / 16) (c.toNat / 16 + 1)) ++ digT.extract (c.toNat % 16) (c.toNat % 16 + 1)).data.toList = [37, digU (c.toNat / 16), digU (c.toNat % 16)] := esc_text ⟨c.toNat, c.toNat_lt⟩
theorem esc_take {s : ByteArray} {i : Nat} {c : UInt8} (h : (bl s)[i]? = some c) : ((bl s).take (i + 1)).flatMap escB = ((bl s).take i).flatMap escB ++ escB c := by
  rw [List.take_add_one, h, List.flatMap_append]
  simp
theorem esc_len (l : List UInt8) : (l.flatMap escB).length ≤ 3 * l.length := by
  induction l with
  | nil => exact Nat.le_refl _
  | cons c r ih =>
    rw [List.flatMap_cons, List.length_append, List.length_cons]
    have : (escB c).length ≤ 3 := by
      unfold escB
      split <;> simp
    omega
theorem and_15t : ∀ n : Fin 256, bits BinOp.and IntKind.u8 (n.val : Int) 15 = ((n.val % 16 : Nat) : Int) := by decide +kernel
theorem and_15 (c : UInt8) : bits BinOp.and IntKind.u8 (c.toNat : Int) 15 = ((c.toNat % 16 : Nat) : Int) := and_15t ⟨c.toNat, c.toNat_lt⟩
theorem u8_small (n : Nat) (h : n < 256) : IntKind.u8.wrap (n : Int) = (n : Int) := by
  have e : IntKind.u8.wrap (n : Int) = (n : Int) % 256 := by simp [IntKind.wrap, IntKind.bits, IntKind.signed]
  omega
theorem kw_isB {B b : Nat} {w w' : World} (h : KW B b w w') : w.heap.size ≤ w'.heap.size := h.1.size
set_option maxRecDepth 100000 in
set_option maxHeartbeats 8000000 in
theorem escape_any {B b : Nat} {acc : List UInt8} {s : ByteArray} {w : World} (HI : IsB B b (Lib.byteCells acc) w) (hB : B ≤ w.heap.size) (hl : acc.length + 3 * s.size ≤ wTop) :
    Calls Tryz.prog 48 #[At b, .string s] w fun e w' => e = .returned (.tuple #[]) ∧ IsB B b (Lib.byteCells (acc ++ escL s)) w' ∧ KW B b w w' := by
  have HL := Lib.hid hl
  have HS : Hid (s.size ≤ 70368744177664) := Lib.hid (by unfold wTop at hl; omega)
  have hbs := get_bt s
  have HK : KW B b w w := KW.refl hB
  have HBB := Lib.hid hB
  clear hl hB
  go_enter Tryz.func48, Tryz.ntmps48
  go_wp2
  go_loopw [8] (fun iv wr => ∃ i : Nat, iv = .int .i64 (i : Int) ∧ i ≤ s.size ∧ IsB B b (Lib.byteCells (acc ++ ((bl s).take i).flatMap escB)) wr ∧ KW B b w wr) (fun iv _ => match iv with | .int _ i => (s.size - i.toNat) | _ => 0)
  case atStart => exact ⟨0, rfl, Nat.zero_le _, by simpa using HI, HK⟩
  case round =>
    clear HI HK
    obtain ⟨i, rfl, hi, HI, HK⟩ := hrel
    by_cases hlt : i < s.size
    · obtain ⟨c, hc⟩ : ∃ c, (bl s)[i]? = some c := ⟨_, List.getElem?_eq_getElem (show i < (bl s).length from hlt)⟩
      have hcb := bt_in hc
      have hsz := HS.out
      have HT := Lib.hid (esc_take hc)
      have HLN : Hid ((acc ++ ((bl s).take i).flatMap escB).length + 3 ≤ wTop) := Lib.hid (by
        have h1 := esc_len ((bl s).take i)
        have h2 : ((bl s).take i).length = i := by rw [List.length_take]; exact Nat.min_eq_left hi
        have h3 := HL.out
        rw [List.length_append]
        omega)
      have HA : Hid (acc ++ ((bl s).take (i + 1)).flatMap escB = (acc ++ ((bl s).take i).flatMap escB) ++ escB c) := Lib.hid (by rw [HT.out, List.append_assoc])
      generalize acc ++ ((bl s).take i).flatMap escB = ac at HI HLN HA
      clear HT
      have hix := ix_has plainMarks c
      have HX : Hid (∀ w, Calls Tryz.prog 58 #[.string ⟨#[45, 46, 95, 126, 33, 36, 58, 64]⟩, .int .u8 (c.toNat : Int)] w fun e w' => e = .returned (.int .i64 (Lib.indexByte plainMarks c)) ∧ w = w') := Lib.hid (fun w => (ix_any (⟨#[45, 46, 95, 126, 33, 36, 58, 64]⟩ : ByteArray) c w).mono fun e w' h => ⟨h.1, h.2.symm⟩)
      generalize Lib.indexByte plainMarks c = ix at HX hix
      cases hw : isWordB c
      · have HWD := Lib.hid hw
        cases hp : plainMarks.contains c
        · have HE : Hid (escB c = [37, digU (c.toNat / 16), digU (c.toNat % 16)]) := Lib.hid (by unfold escB; rw [hw, hp]; rfl)
          have hx : ¬ 0 ≤ ix := by
            intro h
            have := hix.1.1 h
            rw [hp] at this
            cases this
          clear hix hp hw hc
          have hc8 := c.toNat_lt
          obtain ⟨hN, hH⟩ : ∃ hN : Nat, c.toNat / 16 = hN := ⟨_, rfl⟩
          obtain ⟨lN, hLo⟩ : ∃ lN : Nat, c.toNat % 16 = lN := ⟨_, rfl⟩
          have hEB := esc_bytes c
          rw [hH, hLo] at hEB
          have HEB := Lib.hid hEB
          have HEL : Hid (escB c = [37, digU hN, digU lN]) := Lib.hid (by rw [HE.out, hH, hLo])
          have HH : Hid ((c.toNat : Int) / 16 = (hN : Int)) := Lib.hid (by omega)
          have HAN : Hid (bits BinOp.and IntKind.u8 (c.toNat : Int) 15 = (lN : Int)) := Lib.hid (by rw [and_15 c, hLo])
          have hh : hN ≤ 15 := by omega
          have hl : lN ≤ 15 := by omega
          have W1 : Hid (IntKind.u8.wrap ((hN : Int) + 1) = (hN : Int) + 1) := Lib.hid (u8_small (hN + 1) (by omega))
          have W2 : Hid (IntKind.u8.wrap ((lN : Int) + 1) = (lN : Int) + 1) := Lib.hid (u8_small (lN + 1) (by omega))
          have t1 : ((hN : Int) + 1).toNat = hN + 1 := by omega
          have t2 : ((lN : Int) + 1).toNat = lN + 1 := by omega
          have l1 : (hN : Int) + 1 ≤ 16 := by omega
          have l2 : (lN : Int) + 1 ≤ 16 := by omega
          have g1 : 0 ≤ (hN : Int) + 1 := by omega
          have g2 : (hN : Int) ≤ (hN : Int) + 1 := by omega
          have g3 : 0 ≤ (lN : Int) + 1 := by omega
          have g4 : (lN : Int) ≤ (lN : Int) + 1 := by omega
          have HZ : Hid ((((⟨#[37]⟩ : ByteArray) ++ digT.extract hN (hN + 1)) ++ digT.extract lN (lN + 1)).size = 3) := Lib.hid (congrArg List.length hEB)
          clear hEB hH hLo
          go_wp2_with (first
            | (go_at_call 57; (with_reducible refine (word_any _ _).mono ?_); rintro e w' ⟨rfl, rfl⟩; rw [HWD.out])
            | (go_at_call 58; (with_reducible refine (HX.out _).mono ?_); rintro e w' ⟨rfl, rfl⟩))
          refine wp_region_S (S := fun _ => True) (by kernel_rfl) (fun w2 hh => trivial) (fun w2 hh hbb HS0 => ?_)
          replace HI := isB_heap hh HI
          replace HK := HK.trans (KW.of (hbb _ (Nat.le_refl _)) (HK.up HBB.out))
          clear hh hbb
          refine TKC 0 24 rfl ?_
          try simp only [Act.put, zA, zB, zC]
          refine TKC 1 25 rfl ?_
          try simp only [Act.put, zA, zB, zC]
          refine TKC 2 26 (v := .int .u8 (hN : Int)) rfl ?_ (by (intro w hSw; (try dsimp only at hSw); have q1 := HH.out; go_simp; try with_reducible rfl))
          try simp only [Act.put, zA, zB, zC]
          refine TKC 3 27 rfl ?_
          try simp only [Act.put, zA, zB, zC]
          refine TKC 4 28 (v := .int .u8 (hN : Int)) rfl ?_ (by (intro w hSw; (try dsimp only at hSw); have q1 := HH.out; go_simp; try with_reducible rfl))
          try simp only [Act.put, zA, zB, zC]
          refine TKC 5 29 (v := .int .u8 ((hN : Int) + 1)) rfl ?_ (by (intro w hSw; (try dsimp only at hSw); have q1 := W1.out; go_simp; try with_reducible rfl))
          try simp only [Act.put, zA, zB, zC]
          refine TKC 6 30 (v := .string ((⟨#[48, 49, 50, 51, 52, 53, 54, 55, 56, 57, 65, 66, 67, 68, 69, 70]⟩ : ByteArray).extract hN (hN + 1))) rfl ?_
          try simp only [Act.put, zA, zB, zC]
          refine TKC 7 31 rfl ?_
          try simp only [Act.put, zA, zB, zC]
          refine TKC 8 32 rfl ?_
          try simp only [Act.put, zA, zB, zC]
          refine TKC 9 33 (v := .int .u8 (lN : Int)) rfl ?_ (by (intro w hSw; (try dsimp only at hSw); have q1 := HAN.out; go_simp; try with_reducible rfl))
          try simp only [Act.put, zA, zB, zC]
          refine TKC 10 34 rfl ?_
          try simp only [Act.put, zA, zB, zC]
          refine TKC 11 35 (v := .int .u8 (lN : Int)) rfl ?_ (by (intro w hSw; (try dsimp only at hSw); have q1 := HAN.out; go_simp; try with_reducible rfl))
          try simp only [Act.put, zA, zB, zC]
          refine TKC 12 36 (v := .int .u8 ((lN : Int) + 1)) rfl ?_ (by (intro w hSw; (try dsimp only at hSw); have q1 := W2.out; go_simp; try with_reducible rfl))
          try simp only [Act.put, zA, zB, zC]
          refine TKC 13 37 (v := .string ((⟨#[48, 49, 50, 51, 52, 53, 54, 55, 56, 57, 65, 66, 67, 68, 69, 70]⟩ : ByteArray).extract lN (lN + 1))) rfl ?_
          try simp only [Act.put, zA, zB, zC]
          refine TKC 14 38 rfl ?_
          try simp only [Act.put, zA, zB, zC]
          refine wpAnyH_ready (rs := [15]) (by kernel_rfl) (by simp) ?_
          refine AllReadyH.cons (o := ⟨some 39, _, _, _, _, _⟩) rfl (fun K hK => ?_) AllReadyH.nil
          go_simp
          (go_at_call 76; (refine (wtext_any (s := ((⟨#[37]⟩ : ByteArray) ++ digT.extract hN (hN + 1)) ++ digT.extract lN (lN + 1)) HI (by have h1 := HLN.out; have h2 := HZ.out; omega) (HK.up HBB.out)).mono ?_); rintro e w9 ⟨rfl, hi9, hk9⟩)
          rw [HEB.out] at hi9
          replace HI := hi9
          replace HK := HK.trans hk9
          clear hi9 hk9
          refine hK.out _ _ HS0 (fun hS2 => ?_)
          clear hK K hS2
          try simp only [Act.put, zA, zB, zC]
          refine wpAnyH_done (by kernel_rfl) ?_ _
          go_wp2
          go_roundw
          case rel => first | exact ⟨i + 1, rfl, by omega, (by rw [HA.out, HEL.out]; exact HI), HK⟩ | ((repeat apply Exists.intro); exact ⟨⟨i + 1, rfl, by omega, (by rw [HA.out, HEL.out]; exact HI), HK⟩, rfl⟩)
          case measure => (simp only; omega)
        · have HE : Hid (escB c = [c]) := Lib.hid (by unfold escB; rw [hw, hp]; rfl)
          have hx : 0 ≤ ix := hix.1.2 hp
          clear hix hp hw hc
          go_wp2_with (first
            | (go_at_call 57; (with_reducible refine (word_any _ _).mono ?_); rintro e w' ⟨rfl, rfl⟩; rw [HWD.out])
            | (go_at_call 58; (with_reducible refine (HX.out _).mono ?_); rintro e w' ⟨rfl, rfl⟩)
            | (go_at_call 47; (with_reducible refine (wbyte_any (n := (c.toNat : Int)) (c := c) rfl HI (by have := HLN.out; omega) (HK.up HBB.out)).mono ?_); rintro e w9 ⟨rfl, hi9, hk9⟩; replace HI := hi9; replace HK := HK.trans hk9; clear hi9 hk9))
          go_roundw
          case rel => first | exact ⟨i + 1, rfl, by omega, (by rw [HA.out, HE.out]; exact HI), HK⟩ | ((repeat apply Exists.intro); exact ⟨⟨i + 1, rfl, by omega, (by rw [HA.out, HE.out]; exact HI), HK⟩, rfl⟩)
          case measure => (simp only; omega)
      · have HWD := Lib.hid hw
        have HE : Hid (escB c = [c]) := Lib.hid (by unfold escB; rw [hw]; rfl)
        clear hix hw hc HX
        go_wp2_with (first
          | (go_at_call 57; (with_reducible refine (word_any _ _).mono ?_); rintro e w' ⟨rfl, rfl⟩; rw [HWD.out])
          | (go_at_call 47; (with_reducible refine (wbyte_any (n := (c.toNat : Int)) (c := c) rfl HI (by have := HLN.out; omega) (HK.up HBB.out)).mono ?_); rintro e w9 ⟨rfl, hi9, hk9⟩; replace HI := hi9; replace HK := HK.trans hk9; clear hi9 hk9))
        go_roundw
        case rel => first | exact ⟨i + 1, rfl, by omega, (by rw [HA.out, HE.out]; exact HI), HK⟩ | ((repeat apply Exists.intro); exact ⟨⟨i + 1, rfl, by omega, (by rw [HA.out, HE.out]; exact HI), HK⟩, rfl⟩)
        case measure => (simp only; omega)
    · obtain rfl : i = s.size := by omega
      have HE : Hid (((bl s).take s.size).flatMap escB = escL s) := Lib.hid (by
        unfold escL
        rw [show s.size = (bl s).length from rfl, List.take_length])
      go_wp2
      go_end0
      exact ⟨rfl, by rw [← HE.out]; exact HI, HK⟩
end Go.Proofs.YtbehakabglegjaaGreatDoor
