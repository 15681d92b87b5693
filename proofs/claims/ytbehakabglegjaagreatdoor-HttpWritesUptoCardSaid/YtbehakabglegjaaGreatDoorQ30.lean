/- Layer 9: the document's examples at the head of each statement hold. Layer 9: the document's decimal: a number's text. -/
import Derived.Test.YtbehakabglegjaaGreatDoorQ28
import Derived.Test.YtbehakabglegjaaGreatDoorQ29
import Derived.Test.YtbehakabglegjaaGreatDoorQ25
import Derived.Test.YtbehakabglegjaaGreatDoorQ27
namespace Go.Proofs.YtbehakabglegjaaGreatDoor
open Go.RowKit Go.PlainAid
set_option linter.unusedVariables false
set_option linter.unusedSimpArgs false
theorem FdM.live {base : Bs} {g : Nat} {F : Fs} {nx tk hs bd wh : Value} {L : List Mm} {w : World} (h : FdM base g F nx tk hs bd wh L w) : ∀ q, Live g tk hs bd wh q → q < w.heap.size := fun q hq => by
  rcases hq with rfl | hq | hq | hq | hq
  · exact h.2.gl.2
  · exact (own_in h.2.rt hq).2
  · exact (own_in h.2.rh hq).2
  · exact (own_in h.2.rb hq).2
  · exact (own_in h.2.rw_ hq).2
/-- Other blocks to be let be. -/
theorem FdM.av {n g : Nat} {P av : Nat → Prop} {F : Fs} {nx tk hs bd wh : Value} {L : List Mm} {w1 w2 : World} (h : FdM ⟨n, P⟩ g F nx tk hs bd wh L w1) (hb : Below w1.heap.size w1 w2) (hav : ∀ q, av q → q < w2.heap.size ∧ ¬ Live g tk hs bd wh q) : FdM ⟨n, av⟩ g F nx tk hs bd wh L w2 :=
  have r := h.2.below hb
  ⟨IBox.below h.1 hb (IBox.lt h.1), r.gl, r.rt, r.rh, r.rb, r.rw_, r.wl, r.ap, r.ms, fun q hl ha => (hav q ha).2 hl, fun q ha => (hav q ha).1⟩
theorem FdM.new {n g k : Nat} {P : Nat → Prop} {F : Fs} {nx tk hs bd wh : Value} {L : List Mm} {w1 w2 : World} (h : FdM ⟨n, P⟩ g F nx tk hs bd wh L w1) (hb : Below w1.heap.size w1 w2) (hk : w1.heap.size ≤ k) (hk2 : k < w2.heap.size) : FdM ⟨n, (· = k)⟩ g F nx tk hs bd wh L w2 :=
  h.av hb fun q e => by
    have e2 : q = k := e
    subst e2
    exact ⟨hk2, fun hl => by have := h.live q hl; omega⟩
def bytesA (l : List UInt8) : Array Value := (l.map fun u => Value.int .u8 (u.toNat : Int)).toArray
/-- A row of bytes, marked perhaps. -/
def RBox (w : World) (g : Nat) (arr : Array Value) : Prop := ∃ fz, w.heap[g]? = some (.cells arr 5 fz)
theorem RBox.lt {w : World} {g : Nat} {arr : Array Value} (h : RBox w g arr) : g < w.heap.size := by
  obtain ⟨fz, h⟩ := h
  exact (Array.getElem?_eq_some_iff.1 h).1
theorem bt_box {w : World} {g c : Nat} {l : List UInt8} (h : RBox w g (bytesA l)) : BtAt w (.slice (some ⟨g, 0, none⟩) l.length c) l := by
  obtain ⟨fz, h⟩ := h
  refine ⟨_, _, rfl, fun i u hu => ⟨g, 0, rfl, ?_⟩⟩
  rw [Nat.zero_add, Lib.cell_of_heap h]
  unfold bytesA
  simp [hu]
theorem bt_keep {base : Bs} {w w' : World} {g c : Nat} {l : List UInt8} (h : RBox w g (bytesA l)) (hg : base.av g) (hb : Bl base w w') : BtAt w' (.slice (some ⟨g, 0, none⟩) l.length c) l := bt_box (h.elim fun fz e => ⟨fz, (hb.k g hg).trans e⟩)
def ex1L : List UInt8 := [71, 69, 84, 32, 47, 97, 32, 72, 84, 84, 80, 47, 49, 46, 49, 13, 10, 72, 111, 115, 116, 58, 32, 98, 32, 13, 10, 13]
def ex1G : Fs := match feedS (newS false) ex1L with
  | .inl G => G
  | .inr _ => newS false
def ex2G : Fs := match feedS ex1G [10] with
  | .inl G => G
  | .inr _ => newS false
theorem ex1_fed : feedS (newS false) ex1L = .inl ex1G := by kernel_rfl
theorem ex2_fed : feedS ex1G [10] = .inl ex2G := by kernel_rfl
theorem ex1_whole : ex1G.whole = [] := by kernel_rfl
theorem ex1_open : openB ex1G = true := by kernel_rfl
theorem ex1_pos : ex1G.pos = 28 := by kernel_rfl
def exMs : Ms := ⟨⟨#[71, 69, 84]⟩, ⟨#[47, 97]⟩, 0, ⟨#[]⟩, [(⟨#[72, 111, 115, 116]⟩, ⟨#[98]⟩)], []⟩
theorem ex2_whole : ex2G.whole = [exMs] := by kernel_rfl
theorem ex1_bytes : bytesA ex1L = #[.int .u8 71, .int .u8 69, .int .u8 84, .int .u8 32, .int .u8 47, .int .u8 97, .int .u8 32, .int .u8 72, .int .u8 84, .int .u8 84, .int .u8 80, .int .u8 47, .int .u8 49, .int .u8 46, .int .u8 49, .int .u8 13, .int .u8 10, .int .u8 72, .int .u8 111, .int .u8 115, .int .u8 116, .int .u8 58, .int .u8 32, .int .u8 98, .int .u8 32, .int .u8 13, .int .u8 10, .int .u8 13] := by kernel_rfl
theorem ex2_bytes : bytesA [10] = #[.int .u8 10] := by kernel_rfl
theorem ex3_bytes : bytesA [104, 105] = #[.int .u8 104, .int .u8 105] := by kernel_rfl
theorem ex_split : splitS (bl (⟨#[47, 97, 37, 50, 70, 98, 47, 63, 120, 61, 49, 38, 121]⟩ : ByteArray)) = .inr ([⟨#[97, 47, 98]⟩, ⟨#[]⟩], [(⟨#[120]⟩, ⟨#[49]⟩), (⟨#[121]⟩, ⟨#[]⟩)]) := by kernel_rfl
def exW : Ms := ⟨⟨#[]⟩, ⟨#[]⟩, 200, ⟨#[79, 75]⟩, [], [104, 105]⟩
theorem ex_write : (writeS exW).1 = 0 := by kernel_rfl
theorem ex_long : decide (20 < (writeS exW).2.length) = true := by kernel_rfl
theorem ex_small : (topL exW).length + exW.body.length ≤ 140737488355328 := by
  exact of_decide_eq_true (by kernel_rfl)
theorem msg_build (g : Nat) (w : World) : (Instr.build 25 [(2, .int .i64 200), (3, .string ⟨#[79, 75]⟩), (5, .slice (some ⟨g, 0, none⟩) 2 2)].toArray).run Tryz.prog w = .ok (.agg #[.string ⟨#[]⟩, .string ⟨#[]⟩, .int .i64 200, .string ⟨#[79, 75]⟩, .slice none 0 0, .slice (some ⟨g, 0, none⟩) 2 2]) w := by kernel_rfl
theorem newS_HZ (b : Bool) : HZ (newS b) := by
  cases b <;> exact fun p hp => by cases hp
theorem conv_row {w : World} {g n c : Nat} {arr : Array Value} (h : IBox w g 5 arr) : (convert 23 23 (.slice (some ⟨g, 0, none⟩) n c)).run Tryz.prog w = .ok (.slice (some ⟨g, 0, none⟩) n c) (w.freeze ⟨g, arr.size, none⟩ 1) := by
  have h1 := Tryz.underlying23
  have h2 := Tryz.underlying5
  have hI : w.heap[g]? = some (.cells arr 5 (0, 0)) := h
  have hs : w.shape? g = some (5, arr.size) := by simp [World.shape?, hI]
  simp [convert, run_underlying h1, run_underlying h2, markStringish, hs]
theorem wpl_conv_row {ops : Array Oper} {rest : List Oper} {o : Oper} {a : Act} {w : World} {Q : Exit → Act → World → Prop} (hgd : o.guard = none) (x : Operand) (ho : o.op = .convert 23 23 x) {g n c : Nat} {arr : Array Value} (h : IBox w g 5 arr) (hx : a.eval x = .slice (some ⟨g, 0, none⟩) n c)
    (hQ : ∀ w', RBox w' g arr → Below g w w' → wpList Tryz.prog ops Q rest (a.put o.dst (.slice (some ⟨g, 0, none⟩) n c)) w') : wpList Tryz.prog ops Q (o :: rest) a w :=
  wpList_plain hgd fun _ hK => by
    have e := conv_row (n := n) (c := c) h
    have hI : w.heap[g]? = some (.cells arr 5 (0, 0)) := h
    have hr : RBox (w.freeze ⟨g, arr.size, none⟩ 1) g arr := ⟨_, by simp [World.freeze, Array.getElem?_modify, hI]; rfl⟩
    have hb := Lib.below_freeze (Below.refl g w) (p := ⟨g, arr.size, none⟩) (Nat.le_refl _) 1
    have hq := hQ _ hr hb
    generalize w.freeze ⟨g, arr.size, none⟩ 1 = w9 at *
    generalize hP : Tryz.prog = P at *
    unfold Oper.wp execOp
    simp only [ho, hx, Sem.run_bind, e, Result.andThen_ok, Sem.run_pure]
    exact hK _ _ hq
theorem ex_mg {w : World} {g : Nat} (h : RBox w g (bytesA [104, 105])) : MgAt w ⟨exW, .slice none 0 0, .slice (some ⟨g, 0, none⟩) 2 2⟩ where
  hd := ⟨none, 0, rfl, fun i p h => by simp [exW] at h⟩
  bt := bt_box (l := [104, 105]) h
  hl := Nat.zero_le _
  bz := show exW.body.length ≤ 140737488355328 by decide
  hz := fun p hp => by simp [exW] at hp
  mz := show exW.meth.size ≤ 140737488355328 ∧ exW.targ.size ≤ 140737488355328 ∧ exW.reas.size ≤ 140737488355328 by decide
  st := show -9223372036854775808 ≤ exW.stat ∧ exW.stat ≤ 9223372036854775807 by decide
/-- The message that is whole, as it lies. -/
structure ShM (w : World) (b hb off : Nat) (hc : Nat) : Prop where
  q0 : w.cell? ⟨b, 0, none⟩ = some (.string ⟨#[71, 69, 84]⟩)
  q1 : w.cell? ⟨b, 1, none⟩ = some (.string ⟨#[47, 97]⟩)
  q4 : w.cell? ⟨b, 4, none⟩ = some (.slice (some ⟨hb, off, none⟩) 1 hc)
  qh : w.cell? ⟨hb, off + 1, none⟩ = some (.string ⟨#[98]⟩)
theorem ShM.below {w w' : World} {b hb off hc : Nat} (h : ShM w b hb off hc) (k : Below w.heap.size w w') : ShM w' b hb off hc := ⟨cell_later k h.q0, cell_later k h.q1, cell_later k h.q4, cell_later k h.qh⟩
theorem ShM.of {base : Bs} {g : Nat} {F : Fs} {nx tk hs bd wh : Value} {L : List Mm} {w : World} (h : FdM base g F nx tk hs bd wh L w) (hw : F.whole = [exMs]) : ∃ b c hb off hc, wh = .slice (some ⟨b, 0, none⟩) 1 c ∧ ShM w b hb off hc := by
  have hl := h.2.wl
  rw [hw] at hl
  have hl1 : L.length = 1 := by
    have := congrArg List.length hl
    simpa using this
  obtain ⟨x, rfl⟩ := List.length_eq_one_iff.1 hl1
  · have hx : x.m = exMs := by simpa using hl
    obtain ⟨A, c, rfl, hcells⟩ := own_slice h.2.rw_
    obtain ⟨b, rfl, h0⟩ := hcells 0 (.string x.m.meth) rfl
    obtain ⟨b1, e1, h1⟩ := hcells 1 (.string x.m.targ) rfl
    obtain ⟨b4, e4, h4⟩ := hcells 4 x.hs rfl
    obtain rfl : b = b1 := by injection e1 with e; injection e
    obtain rfl : b = b4 := by injection e4 with e; injection e
    obtain ⟨hI, _⟩ := h.2.ms x (by simp)
    obtain ⟨hA, hc, hhs, hhc⟩ := hI.1
    rw [hx] at h0 h1 hhs hhc
    obtain ⟨hb, off, rfl, _, hq⟩ := hhc 0 _ rfl
    rw [hhs] at h4
    refine ⟨b, c, hb, off, hc, rfl, h0, h1, h4, ?_⟩
    simpa using hq
set_option maxRecDepth 100000 in
set_option maxHeartbeats 16000000 in
theorem shown_any {w : World} (hw : Wh w w.heap.size) : Calls Tryz.prog 9 #[] w fun e w' => e = .returned (.bool true) ∧ Below w.heap.size w w' := by
  have HW := Lib.hid hw
  obtain ⟨ie, hie1, hie2, hie3, hie4⟩ := u8_info
  have HLG : Hid ((20 : Int) < ((writeS exW).2.length : Int)) := Lib.hid (by have h := of_decide_eq_true ex_long; omega)
  clear hw
  go_enter Tryz.func9, Tryz.ntmps9
  go_wp2_with (first
    | (go_at_call 13; go_loud (refine (new_any false _).mono ?_); rintro e w1 ⟨rfl, hM, hb⟩; have HM := Lib.hid hM; have HB := hb; clear hM hb)
    | ((with_reducible refine is_slice ?_); refine wpl_slice_at 28 [(0, .int .u8 71), (1, .int .u8 69), (2, .int .u8 84), (3, .int .u8 32), (4, .int .u8 47), (5, .int .u8 97), (6, .int .u8 32), (7, .int .u8 72), (8, .int .u8 84), (9, .int .u8 84), (10, .int .u8 80), (11, .int .u8 47), (12, .int .u8 49), (13, .int .u8 46), (14, .int .u8 49), (15, .int .u8 13), (16, .int .u8 10), (17, .int .u8 72), (18, .int .u8 111), (19, .int .u8 115), (20, .int .u8 116), (21, .int .u8 58), (22, .int .u8 32), (23, .int .u8 98), (24, .int .u8 32), (25, .int .u8 13), (26, .int .u8 10), (27, .int .u8 13)] #[.int .u8 71, .int .u8 69, .int .u8 84, .int .u8 32, .int .u8 47, .int .u8 97, .int .u8 32, .int .u8 72, .int .u8 84, .int .u8 84, .int .u8 80, .int .u8 47, .int .u8 49, .int .u8 46, .int .u8 49, .int .u8 13, .int .u8 10, .int .u8 72, .int .u8 111, .int .u8 115, .int .u8 116, .int .u8 58, .int .u8 32, .int .u8 98, .int .u8 32, .int .u8 13, .int .u8 10, .int .u8 13] ie _ (by rw [hie3]; kernel_rfl) rfl 23 5 _ rfl rfl Tryz.underlying23 hie1 hie2 (by rw [hie3]; decide) (by rw [hie3]; decide) ?_; intro w2 hw; have hb := hid_grow hw; have B9 := (hid_alloc hw).1; rw [← ex1_bytes] at B9; have hbS := hb; clear hw hb)
    | ((with_reducible refine is_convert ?_); refine wpl_conv_row rfl (.tmp 17) rfl B9 rfl ?_; intro w2c hr hbC; have hb := hbS.trans hbC; clear B9 hbS hbC; have B9 := hr; replace HM := Lib.hid (HM.out.new hb (Nat.le_refl _) (RBox.lt B9)); replace HB := HB.trans (hb.mono HB.size); clear hb hr)
    | (go_at_call 14; go_loud (refine (feed_any (l := ex1L) HM.out rfl (FI.new false) (newS_HZ false) (HW.out.below HB) (by decide) (by decide) (fun w' hbl => bt_keep B9 rfl hbl)).mono ?_); rintro e w3 hq; unfold FeV at hq; rw [ex1_fed] at hq; obtain ⟨hbl, nx, tk, hs, bd, wh, L, rfl, hM, hnx, hI, hZ⟩ := hq; replace HB := HB.trans hbl.b; replace HM := Lib.hid hM; have HNX := Lib.hid hnx; have HI := Lib.hid hI; have HZ := Lib.hid hZ; clear hM hnx hI hZ hbl B9; obtain ⟨A0, k0, rfl, -⟩ := own_slice HM.out.2.rw_; (have hL := HM.out.2.wl); rw [ex1_whole] at hL; obtain rfl : L = [] := List.map_eq_nil_iff.1 hL; clear hL)
    | (go_at_call 16; go_loud (refine (open_any HM.out).mono ?_); rintro e w4 ⟨rfl, rfl⟩; rw [ex1_open])
    | ((with_reducible refine is_slice ?_); refine wpl_slice_at 1 [(0, .int .u8 10)] #[.int .u8 10] ie _ (by rw [hie3]; kernel_rfl) rfl 23 5 _ rfl rfl Tryz.underlying23 hie1 hie2 (by rw [hie3]; decide) (by rw [hie3]; decide) ?_; intro w4b hw; have hb := hid_grow hw; have B9 := (hid_alloc hw).1; rw [← ex2_bytes] at B9; have hbS := hb; clear hw hb)
    | ((with_reducible refine is_convert ?_); refine wpl_conv_row rfl (.tmp 26) rfl B9 rfl ?_; intro w4c hr hbC; have hb := hbS.trans hbC; clear B9 hbS hbC; have B9 := hr; replace HM := Lib.hid (HM.out.new hb (Nat.le_refl _) (RBox.lt B9)); replace HB := HB.trans (hb.mono HB.size); clear hb hr)
    | (go_at_call 14; go_loud (refine (feed_any (l := [10]) HM.out HNX.out HI.out HZ.out (HW.out.below HB) (by decide) (by rw [ex1_pos]; decide) (fun w' hbl => bt_keep B9 rfl hbl)).mono ?_); rintro e w5 hq; unfold FeV at hq; rw [ex2_fed] at hq; obtain ⟨hbl, nx, tk, hs, bd, wh, L, rfl, hM, hnx, hI, hZ⟩ := hq; replace HB := HB.trans hbl.b; replace HM := Lib.hid hM; have HNX := Lib.hid hnx; have HI := Lib.hid hI; have HZ := Lib.hid hZ; clear hM hnx hI hZ hbl B9; obtain ⟨mb, mc, mh, mo, mk, rfl, hsh⟩ := ShM.of HM.out ex2_whole; have HSH := Lib.hid hsh; have q0 := hsh.q0; have q1 := hsh.q1; have q4 := hsh.q4; have qh := hsh.qh; clear hsh HM HI HZ HNX)
    | (go_at_call 21; go_loud (refine (split_any (s := ⟨#[47, 97, 37, 50, 70, 98, 47, 63, 120, 61, 49, 38, 121]⟩) (by decide) ((HW.out.below HB).up HB.size)).mono ?_); rintro e w6 ⟨hv, hb⟩; rw [ex_split] at hv; obtain ⟨pv, qv, rfl, hT, hP⟩ := hv; obtain ⟨pA, pc, rfl, hpc⟩ := own_slice hT; obtain ⟨pb, rfl, qp⟩ := hpc 0 (.string ⟨#[97, 47, 98]⟩) rfl; obtain ⟨qA, qc, rfl, -⟩ := own_slice hP; clear hpc hT hP; replace HSH := Lib.hid (HSH.out.below hb); clear q0 q1 q4 qh; have q0 := HSH.out.q0; have q1 := HSH.out.q1; have q4 := HSH.out.q4; have qh := HSH.out.qh; replace HB := HB.trans (hb.mono HB.size); clear hb)
    | ((with_reducible refine is_slice ?_); refine wpl_slice_at 2 [(0, .int .u8 104), (1, .int .u8 105)] #[.int .u8 104, .int .u8 105] ie _ (by rw [hie3]; kernel_rfl) rfl 23 5 _ rfl rfl Tryz.underlying23 hie1 hie2 (by rw [hie3]; decide) (by rw [hie3]; decide) ?_; intro w7b hw; have hb := hid_grow hw; have B9 := (hid_alloc hw).1; rw [← ex3_bytes] at B9; have hbS := hb; clear hw hb)
    | ((with_reducible refine is_convert ?_); refine wpl_conv_row rfl (.tmp 65) rfl B9 rfl ?_; intro w7 hr hbC; have hb := hbS.trans hbC; clear B9 hbS hbC; have B9 := hr; replace HSH := Lib.hid (HSH.out.below hb); clear q0 q1 q4 qh; have q0 := HSH.out.q0; have q1 := HSH.out.q1; have q4 := HSH.out.q4; have qh := HSH.out.qh; replace qp := cell_later hb qp;  replace HB := HB.trans (hb.mono HB.size); clear hb hr)
    | ((with_reducible refine is_build2 _ ?_); refine wpl_build_at (vals := [(2, .int .i64 200), (3, .string ⟨#[79, 75]⟩), (5, .slice (some ⟨w6.heap.size, 0, none⟩) 2 2)]) (msg_build w6.heap.size) rfl _ rfl rfl ?_)
    | (go_at_call 10; (have hm := ex_mg B9); go_loud (refine (write_any hm (show exW.meth.size ≤ 1099511627776 by decide) (show exW.targ.size ≤ 1099511627776 by decide) (show exW.reas.size ≤ 1099511627776 by decide) ((HW.out.below HB).up HB.size) (Lib.hid ex_small)).mono ?_); rintro e w8 ⟨hv, hb⟩; obtain ⟨v, rfl, hv⟩ := hv; obtain ⟨wA, wc, rfl⟩ : ∃ A c, v = .tuple #[.slice A (writeS exW).2.length c, .nilIface] := (by (rcases hv with ⟨_, b, rfl, ho⟩ | ⟨k, e1, e2, _⟩); (obtain ⟨A, c, rfl⟩ := ho.slice; exact ⟨A, c, rfl⟩); (exact absurd (show (writeS exW).1 = k by rw [e1]) (by rw [ex_write]; exact fun e => e2 e.symm))); generalize (writeS exW).2.length = wl at HLG ⊢; have hlg := HLG.out; replace HSH := Lib.hid (HSH.out.below hb); clear q0 q1 q4 qh; have q0 := HSH.out.q0; have q1 := HSH.out.q1; have q4 := HSH.out.q4; have qh := HSH.out.qh; replace qp := cell_later hb qp; replace HB := HB.trans (hb.mono HB.size); clear hb hv hm B9))
  go_ret
  exact ⟨rfl, HB⟩
end Go.Proofs.YtbehakabglegjaaGreatDoor
namespace Go.Proofs.YtbehakabglegjaaGreatDoor
open Go.RowKit Go.PlainAid
set_option linter.unusedVariables false
set_option linter.unusedSimpArgs false
theorem wpl_bt_text {ops : Array Oper} {rest : List Oper} {o : Oper} {a : Act} {w : World} {Q : Exit → Act → World → Prop} (hgd : o.guard = none) (x : Operand) (ho : o.op = .convert 23 9 x) {v : Value} {l : List UInt8} (h : BtAt w v l) (hx : a.eval x = v)
    (hQ : wpList Tryz.prog ops Q rest (a.put o.dst (.string (txt l))) w) : wpList Tryz.prog ops Q (o :: rest) a w :=
  wpList_plain hgd fun _ hK => by
    have e := bt_text h
    generalize hP : Tryz.prog = P at *
    unfold Oper.wp execOp
    simp only [ho, hx, Sem.run_bind, e, Result.andThen_ok, Sem.run_pure]
    exact hK _ _ hQ
/-- What is still to be told of a number, and what is told. -/
def decR (m : Nat) (acc : List UInt8) : List UInt8 := if m = 0 ∧ acc ≠ [] then acc else Lib.decDigits m ++ acc
theorem decR_step {m : Nat} {acc : List UInt8} (h : ¬ (m = 0 ∧ acc ≠ [])) : decR (m / 10) (UInt8.ofNat (48 + m % 10) :: acc) = decR m acc := by
  unfold decR
  rw [if_neg h]
  conv => rhs; rw [Lib.decDigits]
  by_cases hm : m < 10
  · rw [dif_pos hm, if_pos ⟨by omega, by simp⟩, Nat.mod_eq_of_lt hm]
    rfl
  · rw [dif_neg hm, if_neg (by omega)]
    simp
theorem decR_len (m : Nat) (acc : List UInt8) : acc.length ≤ (decR m acc).length := by
  unfold decR
  split
  · exact Nat.le_refl _
  · rw [List.length_append]
    omega
def strN (v : Value) : Nat := match v with
  | .string s => if s.size = 0 then 1 else 0
  | _ => 0
theorem txt_nil : txt [] = (⟨#[]⟩ : ByteArray) := rfl
theorem txt_cons (c : UInt8) (l : List UInt8) : txt [c] ++ txt l = txt (c :: l) := by
  apply ByteArray.ext
  apply Array.toList_inj.1
  rw [ByteArray.data_append, Array.toList_append]
  rfl
theorem strN_cons (c : UInt8) (l : List UInt8) : strN (.string (txt [c] ++ txt l)) = 0 := by
  rw [txt_cons]
  show (if (txt (c :: l)).size = 0 then 1 else 0) = 0
  rw [txt_size, if_neg (by simp)]
theorem strN_nil : strN (.string (txt [])) = 1 := rfl
theorem u8_fill (n : Int) : Instr.fill (fun i => some (i * 1, 1)) ((Array.range (1 * 1)).map ((Value.int .u8 0).cells[· % (Value.int .u8 0).cells.size]!)) [(0, .int .u8 n)] = some #[.int .u8 n] := by kernel_rfl
set_option maxRecDepth 100000 in
set_option maxHeartbeats 4000000 in
theorem decimal_any {n : Nat} {w : World} (hn : n ≤ 9223372036854775807) : Calls Tryz.prog 40 #[.int .i64 (n : Int)] w fun e w' => e = .returned (.string (txt (Lib.itoa (n : Int)))) ∧ Below w.heap.size w w' := by
  have HD : Hid (Lib.itoa (n : Int) = Lib.decDigits n) := Lib.hid (by unfold Lib.itoa; rw [if_neg (by omega)]; rfl)
  have HL : Hid ((Lib.decDigits n).length ≤ 20) := Lib.hid (by have := itoa_len (n := (n : Int)) (by omega); rw [HD.out] at this; exact this)
  have HB := Below.refl w.heap.size w
  obtain ⟨ie, hie1, hie2, hie3, hie4⟩ := u8_info
  go_enter Tryz.func40, Tryz.ntmps40
  go_wp2
  go_loopw [0, 3] (fun nv sv wr => ∃ (m : Nat) (acc : List UInt8), nv = .int .i64 (m : Int) ∧ sv = .string (txt acc) ∧ m ≤ n ∧ Hid (decR m acc = Lib.decDigits n) ∧ Below w.heap.size w wr) (fun nv sv _ => 2 * ivN nv + strN sv)
  case atStart => exact ⟨n, [], rfl, rfl, Nat.le_refl _, Lib.hid (by unfold decR; rw [if_neg (fun h => h.2 rfl), List.append_nil]), HB⟩
  case round =>
    clear HB
    obtain ⟨m, acc, rfl, rfl, hmn, HR, HB⟩ := hrel
    have HAL : Hid (acc.length ≤ 20) := Lib.hid (Nat.le_trans (decR_len m acc) (by rw [HR.out]; exact HL.out))
    have hm63 : m ≤ 9223372036854775807 := by omega
    by_cases hend : m = 0 ∧ acc ≠ []
    · obtain ⟨hm0, hac⟩ := hend
      have HF : Hid (acc = Lib.decDigits n) := Lib.hid (by rw [← HR.out]; unfold decR; rw [if_pos ⟨hm0, hac⟩])
      have hmi : ¬ 0 < m := by omega
      have hne := ne_empty (s := txt acc) (by rw [txt_size]; intro e; exact hac (List.eq_nil_of_length_eq_zero e))
      clear hm0 hac
      go_wp2
      go_ret
      exact ⟨by (show Ending.returned (.string (txt acc)) = _); rw [HD.out, ← HF.out], HB⟩
    · have HS := Lib.hid (decR_step hend)
      have hq1 : (m : Int).tmod 10 = ((m % 10 : Nat) : Int) := by have h := Int.tmod_eq_emod_of_nonneg (a := (m : Int)) (b := 10) (by omega); omega
      have hq2 : (m : Int).tdiv 10 = ((m / 10 : Nat) : Int) := by have h := Int.tdiv_eq_ediv_of_nonneg (a := (m : Int)) (b := 10) (by omega); omega
      have hd10 : m % 10 < 10 := Nat.mod_lt _ (by decide)
      obtain ⟨dg, hdg⟩ : ∃ dg : UInt8, dg = UInt8.ofNat (48 + m % 10) := ⟨_, rfl⟩
      have hdv : (dg.toNat : Int) = 48 + ((m % 10 : Nat) : Int) := by rw [hdg, UInt8.toNat_ofNat']; omega
      have hu8 : IntKind.u8.wrap (48 + ((m % 10 : Nat) : Int)) = (dg.toNat : Int) := by
        have e : IntKind.u8.wrap (48 + ((m % 10 : Nat) : Int)) = (48 + ((m % 10 : Nat) : Int)) % 256 := by simp [IntKind.wrap, IntKind.bits, IntKind.signed]
        omega
      rw [← hdg] at HS
      generalize hmq : m / 10 = mq at HS hq2
      generalize hmr : m % 10 = mr at hq1 hu8 hd10 hdv
      have HMQ : Hid (mq ≤ m ∧ (m ≠ 0 → mq < m)) := Lib.hid (by omega)
      have HEN := Lib.hid hend
      have hw1 : IntKind.i64.wrap (mq : Int) = (mq : Int) := i64_small mq (by omega)
      have hs1 : ¬ 9223372036854775807 < 1 + (txt acc).size := by have := HAL.out; rw [txt_size]; omega
      clear hdg hmq hmr hend hdv
      by_cases hm0 : 0 < m
      · go_wp2_with (first
          | ((with_reducible refine is_slice ?_); refine wpl_slice_at 1 [(0, .int .u8 (dg.toNat : Int))] (bytesA [dg]) ie _ (by rw [hie3]; kernel_rfl) rfl 23 5 _ rfl rfl Tryz.underlying23 hie1 hie2 (by rw [hie3]; decide) (by rw [hie3]; decide) ?_; intro w5 hw; have hb := hid_grow hw; have B9 := (hid_alloc hw).1; replace HB := HB.trans (hb.mono HB.size); clear hw hb)
          | ((with_reducible refine is_convert ?_); refine wpl_bt_text rfl (.tmp 14) rfl (l := [dg]) (bt_box (l := [dg]) ⟨_, B9⟩) rfl ?_))
        go_roundw
        case rel => first | exact ⟨mq, dg :: acc, rfl, (by rw [txt_cons]), by have := HMQ.out.1; omega, Lib.hid (by rw [HS.out]; exact HR.out), HB⟩ | ((repeat apply Exists.intro); refine ⟨?_, rfl⟩; exact ⟨mq, dg :: acc, rfl, (by rw [txt_cons]), by have := HMQ.out.1; omega, Lib.hid (by rw [HS.out]; exact HR.out), HB⟩)
        case measure => (have h1 := HMQ.out.2 (by omega); have h2 := strN_cons dg acc; show 2 * ((mq : Int)).toNat + strN (.string (txt [dg] ++ txt acc)) < 2 * ((m : Int)).toNat + _; rw [h2]; omega)
      · have hac : acc = [] := by
          by_cases e : acc = []
          · exact e
          · exact absurd ⟨by omega, e⟩ HEN.out
        subst hac
        have hemp := is_empty (s := txt []) rfl
        go_wp2_with (first
          | ((with_reducible refine is_slice ?_); refine wpl_slice_at 1 [(0, .int .u8 (dg.toNat : Int))] (bytesA [dg]) ie _ (by rw [hie3]; kernel_rfl) rfl 23 5 _ rfl rfl Tryz.underlying23 hie1 hie2 (by rw [hie3]; decide) (by rw [hie3]; decide) ?_; intro w5 hw; have hb := hid_grow hw; have B9 := (hid_alloc hw).1; replace HB := HB.trans (hb.mono HB.size); clear hw hb)
          | ((with_reducible refine is_convert ?_); refine wpl_bt_text rfl (.tmp 14) rfl (l := [dg]) (bt_box (l := [dg]) ⟨_, B9⟩) rfl ?_))
        go_roundw
        case rel => first | exact ⟨mq, dg :: [], rfl, (by rw [txt_cons]), by have := HMQ.out.1; omega, Lib.hid (by rw [HS.out]; exact HR.out), HB⟩ | ((repeat apply Exists.intro); refine ⟨?_, rfl⟩; exact ⟨mq, dg :: [], rfl, (by rw [txt_cons]), by have := HMQ.out.1; omega, Lib.hid (by rw [HS.out]; exact HR.out), HB⟩)
        case measure => (have h1 := HMQ.out.1; have h2 := strN_cons dg []; show 2 * ((mq : Int)).toNat + strN (.string (txt [dg] ++ txt [])) < 2 * ((m : Int)).toNat + strN (.string (txt [])); rw [h2, strN_nil]; omega)
end Go.Proofs.YtbehakabglegjaaGreatDoor
