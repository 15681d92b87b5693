/- Layer 9: the document's examples at the head of each statement hold. Layer 9: the document's decimal: a number's text. Layer 9: the document's trimmed: a row of bytes without blanks at both ends. -/
import Derived.Test.YtbehakabglegjaaGreatDoorQ28
import Derived.Test.YtbehakabglegjaaGreatDoorQ29
import Derived.Test.YtbehakabglegjaaGreatDoorQ25
import Derived.Test.YtbehakabglegjaaGreatDoorQ27
import Derived.Test.YtbehakabglegjaaGreatDoorQZip
namespace Go.Proofs.YtbehakabglegjaaGreatDoor
open Go.RowKit Go.PlainAid
set_option linter.unusedVariables false
set_option linter.unusedSimpArgs false
theorem FdM.live {base : Bs} {g : Nat} {F : Fs} {nx tk hs bd wh : Value} {L : List Mm} {w : World} (h : FdM base g F nx tk hs bd wh L w) : ∀ q, Live g tk hs bd wh q → q < w.heap.size := fun q hq => by
  rcases hq with rfl | hq | hq | hq | hq
  · exact h.2.gl.2
  · exact (own_in h.2.rt hq).2
  · exact (own_in h.2.rh hq).2
  · exact (own_in h.2.rb hq).2
  · exact (own_in h.2.rw_ hq).2
/-- Other blocks to be let be. -/
theorem FdM.av {n g : Nat} {P av : Nat → Prop} {F : Fs} {nx tk hs bd wh : Value} {L : List Mm} {w1 w2 : World} (h : FdM ⟨n, P⟩ g F nx tk hs bd wh L w1) (hb : Below w1.heap.size w1 w2) (hav : ∀ q, av q → q < w2.heap.size ∧ ¬ Live g tk hs bd wh q) (hma : ∀ x ∈ L, MOff av x) : FdM ⟨n, av⟩ g F nx tk hs bd wh L w2 :=
  have r := h.2.below hb
  ⟨IBox.below h.1 hb (IBox.lt h.1), r.gl, r.rt, r.rh, r.rb, r.rw_, r.wl, r.ap, r.ms, fun q hl ha => (hav q ha).2 hl, fun q ha => (hav q ha).1, hma⟩
theorem FdM.new {n g k : Nat} {P : Nat → Prop} {F : Fs} {nx tk hs bd wh : Value} {L : List Mm} {w1 w2 : World} (h : FdM ⟨n, P⟩ g F nx tk hs bd wh L w1) (hb : Below w1.heap.size w1 w2) (hk : w1.heap.size ≤ k) (hk2 : k < w2.heap.size) : FdM ⟨n, (· = k)⟩ g F nx tk hs bd wh L w2 :=
  h.av hb (fun q e => by
    have e2 : q = k := e
    subst e2
    exact ⟨hk2, fun hl => by have := h.live q hl; omega⟩) fun x hx => ms_live (h.2.ms x hx).1 (h.2.ms x hx).2 hk fun q e => .inr e
def bytesA (l : List UInt8) : Array Value := (l.map fun u => Value.int .u8 (u.toNat : Int)).toArray
/-- A row of bytes, marked perhaps. -/
def RBox (w : World) (g : Nat) (arr : Array Value) : Prop := ∃ fz, w.heap[g]? = some (.cells arr 5 fz)
theorem RBox.lt {w : World} {g : Nat} {arr : Array Value} (h : RBox w g arr) : g < w.heap.size := by
  obtain ⟨fz, h⟩ := h
  exact (Array.getElem?_eq_some_iff.1 h).1
theorem bt_box {w : World} {g c : Nat} {l : List UInt8} (h : RBox w g (bytesA l)) : BtAt w (.slice (some ⟨g, 0, none⟩) l.length c) l := by
  obtain ⟨fz, h⟩ := h
  refine ⟨_, _, rfl, fun i u hu => ⟨g, 0, rfl, ?_⟩⟩
  rw [Nat.zero_add, Lib.cell_of_heap h]
  unfold bytesA
  simp [hu]
theorem bt_keep {base : Bs} {w w' : World} {g c : Nat} {l : List UInt8} (h : RBox w g (bytesA l)) (hg : base.av g) (hb : Bl base w w') : BtAt w' (.slice (some ⟨g, 0, none⟩) l.length c) l := bt_box (h.elim fun fz e => ⟨fz, (hb.k g hg).trans e⟩)
def ex1L : List UInt8 := [71, 69, 84, 32, 47, 97, 32, 72, 84, 84, 80, 47, 49, 46, 49, 13, 10, 72, 111, 115, 116, 58, 32, 98, 32, 13, 10, 13]
def ex1G : Fs := match feedS (newS false) ex1L with
  | .inl G => G
  | .inr _ => newS false
def ex2G : Fs := match feedS ex1G [10] with
  | .inl G => G
  | .inr _ => newS false
theorem ex1_fed : feedS (newS false) ex1L = .inl ex1G := by kernel_rfl
theorem ex2_fed : feedS ex1G [10] = .inl ex2G := by kernel_rfl
theorem ex1_whole : ex1G.whole = [] := by kernel_rfl
theorem ex1_open : openB ex1G = true := by kernel_rfl
theorem ex1_pos : ex1G.pos = 28 := by kernel_rfl
def exMs : Ms := ⟨⟨#[71, 69, 84]⟩, ⟨#[47, 97]⟩, 0, ⟨#[]⟩, [(⟨#[72, 111, 115, 116]⟩, ⟨#[98]⟩)], []⟩
theorem ex2_whole : ex2G.whole = [exMs] := by kernel_rfl
theorem ex1_bytes : bytesA ex1L = #[.int .u8 71, .int .u8 69, .int .u8 84, .int .u8 32, .int .u8 47, .int .u8 97, .int .u8 32, .int .u8 72, .int .u8 84, .int .u8 84, .int .u8 80, .int .u8 47, .int .u8 49, .int .u8 46, .int .u8 49, .int .u8 13, .int .u8 10, .int .u8 72, .int .u8 111, .int .u8 115, .int .u8 116, .int .u8 58, .int .u8 32, .int .u8 98, .int .u8 32, .int .u8 13, .int .u8 10, .int .u8 13] := by kernel_rfl
theorem ex2_bytes : bytesA [10] = #[.int .u8 10] := by kernel_rfl
theorem ex3_bytes : bytesA [104, 105] = #[.int .u8 104, .int .u8 105] := by kernel_rfl
theorem ex_split : splitS (bl (⟨#[47, 97, 37, 50, 70, 98, 47, 63, 120, 61, 49, 38, 121]⟩ : ByteArray)) = .inr ([⟨#[97, 47, 98]⟩, ⟨#[]⟩], [(⟨#[120]⟩, ⟨#[49]⟩), (⟨#[121]⟩, ⟨#[]⟩)]) := by kernel_rfl
def exW : Ms := ⟨⟨#[]⟩, ⟨#[]⟩, 200, ⟨#[79, 75]⟩, [], [104, 105]⟩
theorem ex_write : (writeS exW).1 = 0 := by kernel_rfl
theorem ex_long : decide (20 < (writeS exW).2.length) = true := by kernel_rfl
theorem ex_small : (topL exW).length + exW.body.length ≤ 140737488355328 := by
  exact of_decide_eq_true (by kernel_rfl)
theorem msg_build (g : Nat) (w : World) : (Instr.build 25 [(2, .int .i64 200), (3, .string ⟨#[79, 75]⟩), (5, .slice (some ⟨g, 0, none⟩) 2 2)].toArray).run Tryz.prog w = .ok (.agg #[.string ⟨#[]⟩, .string ⟨#[]⟩, .int .i64 200, .string ⟨#[79, 75]⟩, .slice none 0 0, .slice (some ⟨g, 0, none⟩) 2 2]) w := by kernel_rfl
theorem newS_HZ (b : Bool) : HZ (newS b) := by
  cases b <;> exact fun p hp => by cases hp
theorem conv_row {w : World} {g n c : Nat} {arr : Array Value} (h : IBox w g 5 arr) : (convert 23 23 (.slice (some ⟨g, 0, none⟩) n c)).run Tryz.prog w = .ok (.slice (some ⟨g, 0, none⟩) n c) (w.freeze ⟨g, arr.size, none⟩ 1) := by
  have h1 := Tryz.underlying23
  have h2 := Tryz.underlying5
  have hI : w.heap[g]? = some (.cells arr 5 (0, 0)) := h
  have hs : w.shape? g = some (5, arr.size) := by simp [World.shape?, hI]
  simp [convert, run_underlying h1, run_underlying h2, markStringish, hs]
theorem wpl_conv_row {ops : Array Oper} {rest : List Oper} {o : Oper} {a : Act} {w : World} {Q : Exit → Act → World → Prop} (hgd : o.guard = none) (x : Operand) (ho : o.op = .convert 23 23 x) {g n c : Nat} {arr : Array Value} (h : IBox w g 5 arr) (hx : a.eval x = .slice (some ⟨g, 0, none⟩) n c)
    (hQ : ∀ w', RBox w' g arr → Below g w w' → wpList Tryz.prog ops Q rest (a.put o.dst (.slice (some ⟨g, 0, none⟩) n c)) w') : wpList Tryz.prog ops Q (o :: rest) a w :=
  wpList_plain hgd fun _ hK => by
    have e := conv_row (n := n) (c := c) h
    have hI : w.heap[g]? = some (.cells arr 5 (0, 0)) := h
    have hr : RBox (w.freeze ⟨g, arr.size, none⟩ 1) g arr := ⟨_, by simp [World.freeze, Array.getElem?_modify, hI]; rfl⟩
    have hb := Lib.below_freeze (Below.refl g w) (p := ⟨g, arr.size, none⟩) (Nat.le_refl _) 1
    have hq := hQ _ hr hb
    generalize w.freeze ⟨g, arr.size, none⟩ 1 = w9 at *
    generalize hP : Tryz.prog = P at *
    unfold Oper.wp execOp
    simp only [ho, hx, Sem.run_bind, e, Result.andThen_ok, Sem.run_pure]
    exact hK _ _ hq
theorem ex_mg {w : World} {g : Nat} (h : RBox w g (bytesA [104, 105])) : MgAt w ⟨exW, .slice none 0 0, .slice (some ⟨g, 0, none⟩) 2 2⟩ where
  hd := ⟨none, 0, rfl, fun i p h => by simp [exW] at h⟩
  bt := bt_box (l := [104, 105]) h
  hl := Nat.zero_le _
  bz := show exW.body.length ≤ 140737488355328 by decide
  hz := fun p hp => by simp [exW] at hp
  mz := show exW.meth.size ≤ 140737488355328 ∧ exW.targ.size ≤ 140737488355328 ∧ exW.reas.size ≤ 140737488355328 by decide
  st := show -9223372036854775808 ≤ exW.stat ∧ exW.stat ≤ 9223372036854775807 by decide
/-- The message that is whole, as it lies. -/
structure ShM (w : World) (b hb off : Nat) (hc : Nat) : Prop where
  q0 : w.cell? ⟨b, 0, none⟩ = some (.string ⟨#[71, 69, 84]⟩)
  q1 : w.cell? ⟨b, 1, none⟩ = some (.string ⟨#[47, 97]⟩)
  q4 : w.cell? ⟨b, 4, none⟩ = some (.slice (some ⟨hb, off, none⟩) 1 hc)
  qh : w.cell? ⟨hb, off + 1, none⟩ = some (.string ⟨#[98]⟩)
theorem ShM.below {w w' : World} {b hb off hc : Nat} (h : ShM w b hb off hc) (k : Below w.heap.size w w') : ShM w' b hb off hc := ⟨cell_later k h.q0, cell_later k h.q1, cell_later k h.q4, cell_later k h.qh⟩
theorem ShM.of {base : Bs} {g : Nat} {F : Fs} {nx tk hs bd wh : Value} {L : List Mm} {w : World} (h : FdM base g F nx tk hs bd wh L w) (hw : F.whole = [exMs]) : ∃ b c hb off hc, wh = .slice (some ⟨b, 0, none⟩) 1 c ∧ ShM w b hb off hc := by
  have hl := h.2.wl
  rw [hw] at hl
  have hl1 : L.length = 1 := by
    have := congrArg List.length hl
    simpa using this
  obtain ⟨x, rfl⟩ := List.length_eq_one_iff.1 hl1
  · have hx : x.m = exMs := by simpa using hl
    obtain ⟨A, c, rfl, hcells⟩ := own_slice h.2.rw_
    obtain ⟨b, rfl, h0⟩ := hcells 0 (.string x.m.meth) rfl
    obtain ⟨b1, e1, h1⟩ := hcells 1 (.string x.m.targ) rfl
    obtain ⟨b4, e4, h4⟩ := hcells 4 x.hs rfl
    obtain rfl : b = b1 := by injection e1 with e; injection e
    obtain rfl : b = b4 := by injection e4 with e; injection e
    obtain ⟨hI, _⟩ := h.2.ms x (by simp)
    obtain ⟨hA, hc, hhs, hhc⟩ := hI.1
    rw [hx] at h0 h1 hhs hhc
    obtain ⟨hb, off, rfl, _, hq⟩ := hhc 0 _ rfl
    rw [hhs] at h4
    refine ⟨b, c, hb, off, hc, rfl, h0, h1, h4, ?_⟩
    simpa using hq
set_option maxRecDepth 100000 in
set_option maxHeartbeats 16000000 in
theorem shown_any {w : World} (hw : Wh w w.heap.size) : Calls Tryz.prog 9 #[] w fun e w' => e = .returned (.bool true) ∧ Below w.heap.size w w' := by
  have HW := Lib.hid hw
  obtain ⟨ie, hie1, hie2, hie3, hie4⟩ := u8_info
  have HLG : Hid ((20 : Int) < ((writeS exW).2.length : Int)) := Lib.hid (by have h := of_decide_eq_true ex_long; omega)
  clear hw
  go_enter Tryz.func9, Tryz.ntmps9
  go_wp2_with (first
    | (go_at_call 13; go_loud (refine (new_any false _).mono ?_); rintro e w1 ⟨rfl, hM, hb⟩; have HM := Lib.hid hM; have HB := hb; clear hM hb)
    | ((with_reducible refine is_slice ?_); refine wpl_slice_at 28 [(0, .int .u8 71), (1, .int .u8 69), (2, .int .u8 84), (3, .int .u8 32), (4, .int .u8 47), (5, .int .u8 97), (6, .int .u8 32), (7, .int .u8 72), (8, .int .u8 84), (9, .int .u8 84), (10, .int .u8 80), (11, .int .u8 47), (12, .int .u8 49), (13, .int .u8 46), (14, .int .u8 49), (15, .int .u8 13), (16, .int .u8 10), (17, .int .u8 72), (18, .int .u8 111), (19, .int .u8 115), (20, .int .u8 116), (21, .int .u8 58), (22, .int .u8 32), (23, .int .u8 98), (24, .int .u8 32), (25, .int .u8 13), (26, .int .u8 10), (27, .int .u8 13)] #[.int .u8 71, .int .u8 69, .int .u8 84, .int .u8 32, .int .u8 47, .int .u8 97, .int .u8 32, .int .u8 72, .int .u8 84, .int .u8 84, .int .u8 80, .int .u8 47, .int .u8 49, .int .u8 46, .int .u8 49, .int .u8 13, .int .u8 10, .int .u8 72, .int .u8 111, .int .u8 115, .int .u8 116, .int .u8 58, .int .u8 32, .int .u8 98, .int .u8 32, .int .u8 13, .int .u8 10, .int .u8 13] ie _ (by rw [hie3]; kernel_rfl) rfl 23 5 _ rfl rfl Tryz.underlying23 hie1 hie2 (by rw [hie3]; decide) (by rw [hie3]; decide) ?_; intro w2 hw; have hb := hid_grow hw; have B9 := (hid_alloc hw).1; rw [← ex1_bytes] at B9; have hbS := hb; clear hw hb)
    | ((with_reducible refine is_convert ?_); refine wpl_conv_row rfl (.tmp 17) rfl B9 rfl ?_; intro w2c hr hbC; have hb := hbS.trans hbC; clear B9 hbS hbC; have B9 := hr; replace HM := Lib.hid (HM.out.new hb (Nat.le_refl _) (RBox.lt B9)); replace HB := zT HB hb; clear hb hr)
    | (go_at_call 14; go_loud (refine (feed_any (l := ex1L) HM.out rfl (FI.new false) (newS_HZ false) (HW.out.below HB) (by decide) (by decide) (fun w' hbl => bt_keep B9 rfl hbl)).mono ?_); rintro e w3 hq; unfold FeV at hq; rw [ex1_fed] at hq; obtain ⟨hbl, nx, tk, hs, bd, wh, L, rfl, hM, hnx, hI, hZ⟩ := hq; replace HB := HB.trans hbl.b; replace HM := Lib.hid hM; have HNX := Lib.hid hnx; have HI := Lib.hid hI; have HZ := Lib.hid hZ; clear hM hnx hI hZ hbl B9; obtain ⟨A0, k0, rfl, -⟩ := own_slice HM.out.2.rw_; (have hL := HM.out.2.wl); rw [ex1_whole] at hL; obtain rfl : L = [] := List.map_eq_nil_iff.1 hL; clear hL)
    | (go_at_call 16; go_loud (refine (open_any HM.out).mono ?_); rintro e w4 ⟨rfl, rfl⟩; rw [ex1_open])
    | ((with_reducible refine is_slice ?_); refine wpl_slice_at 1 [(0, .int .u8 10)] #[.int .u8 10] ie _ (by rw [hie3]; kernel_rfl) rfl 23 5 _ rfl rfl Tryz.underlying23 hie1 hie2 (by rw [hie3]; decide) (by rw [hie3]; decide) ?_; intro w4b hw; have hb := hid_grow hw; have B9 := (hid_alloc hw).1; rw [← ex2_bytes] at B9; have hbS := hb; clear hw hb)
    | ((with_reducible refine is_convert ?_); refine wpl_conv_row rfl (.tmp 26) rfl B9 rfl ?_; intro w4c hr hbC; have hb := hbS.trans hbC; clear B9 hbS hbC; have B9 := hr; replace HM := Lib.hid (HM.out.new hb (Nat.le_refl _) (RBox.lt B9)); replace HB := zT HB hb; clear hb hr)
    | (go_at_call 14; go_loud (refine (feed_any (l := [10]) HM.out HNX.out HI.out HZ.out (HW.out.below HB) (by decide) (by rw [ex1_pos]; decide) (fun w' hbl => bt_keep B9 rfl hbl)).mono ?_); rintro e w5 hq; unfold FeV at hq; rw [ex2_fed] at hq; obtain ⟨hbl, nx, tk, hs, bd, wh, L, rfl, hM, hnx, hI, hZ⟩ := hq; replace HB := HB.trans hbl.b; replace HM := Lib.hid hM; have HNX := Lib.hid hnx; have HI := Lib.hid hI; have HZ := Lib.hid hZ; clear hM hnx hI hZ hbl B9; obtain ⟨mb, mc, mh, mo, mk, rfl, hsh⟩ := ShM.of HM.out ex2_whole; have HSH := Lib.hid hsh; have q0 := hsh.q0; have q1 := hsh.q1; have q4 := hsh.q4; have qh := hsh.qh; clear hsh HM HI HZ HNX)
    | (go_at_call 21; go_loud (refine (split_any (s := ⟨#[47, 97, 37, 50, 70, 98, 47, 63, 120, 61, 49, 38, 121]⟩) (by decide) ((HW.out.below HB).up HB.size)).mono ?_); rintro e w6 ⟨hv, hb⟩; rw [ex_split] at hv; obtain ⟨pv, qv, rfl, hT, hP⟩ := hv; obtain ⟨pA, pc, rfl, hpc⟩ := own_slice hT; obtain ⟨pb, rfl, qp⟩ := hpc 0 (.string ⟨#[97, 47, 98]⟩) rfl; obtain ⟨qA, qc, rfl, -⟩ := own_slice hP; clear hpc hT hP; replace HSH := Lib.hid (HSH.out.below hb); clear q0 q1 q4 qh; have q0 := HSH.out.q0; have q1 := HSH.out.q1; have q4 := HSH.out.q4; have qh := HSH.out.qh; replace HB := zT HB hb; clear hb)
    | ((with_reducible refine is_slice ?_); refine wpl_slice_at 2 [(0, .int .u8 104), (1, .int .u8 105)] #[.int .u8 104, .int .u8 105] ie _ (by rw [hie3]; kernel_rfl) rfl 23 5 _ rfl rfl Tryz.underlying23 hie1 hie2 (by rw [hie3]; decide) (by rw [hie3]; decide) ?_; intro w7b hw; have hb := hid_grow hw; have B9 := (hid_alloc hw).1; rw [← ex3_bytes] at B9; have hbS := hb; clear hw hb)
    | ((with_reducible refine is_convert ?_); refine wpl_conv_row rfl (.tmp 65) rfl B9 rfl ?_; intro w7 hr hbC; have hb := hbS.trans hbC; clear B9 hbS hbC; have B9 := hr; replace HSH := Lib.hid (HSH.out.below hb); clear q0 q1 q4 qh; have q0 := HSH.out.q0; have q1 := HSH.out.q1; have q4 := HSH.out.q4; have qh := HSH.out.qh; replace qp := cell_later hb qp;  replace HB := zT HB hb; clear hb hr)
    | ((with_reducible refine is_build2 _ ?_); refine wpl_build_at (vals := [(2, .int .i64 200), (3, .string ⟨#[79, 75]⟩), (5, .slice (some ⟨w6.heap.size, 0, none⟩) 2 2)]) (msg_build w6.heap.size) rfl _ rfl rfl ?_)
    | (go_at_call 10; (have hm := ex_mg B9); go_loud (refine (write_any hm (show exW.meth.size ≤ 1099511627776 by decide) (show exW.targ.size ≤ 1099511627776 by decide) (show exW.reas.size ≤ 1099511627776 by decide) ((HW.out.below HB).up HB.size) (Lib.hid ex_small)).mono ?_); rintro e w8 ⟨hv, hb⟩; obtain ⟨v, rfl, hv⟩ := hv; obtain ⟨wA, wc, rfl⟩ : ∃ A c, v = .tuple #[.slice A (writeS exW).2.length c, .nilIface] := (by (rcases hv with ⟨_, b, rfl, ho⟩ | ⟨k, e1, e2, _⟩); (obtain ⟨A, c, rfl⟩ := ho.slice; exact ⟨A, c, rfl⟩); (exact absurd (show (writeS exW).1 = k by rw [e1]) (by rw [ex_write]; exact fun e => e2 e.symm))); generalize (writeS exW).2.length = wl at HLG ⊢; have hlg := HLG.out; replace HSH := Lib.hid (HSH.out.below hb); clear q0 q1 q4 qh; have q0 := HSH.out.q0; have q1 := HSH.out.q1; have q4 := HSH.out.q4; have qh := HSH.out.qh; replace qp := cell_later hb qp; replace HB := zT HB hb; clear hb hv hm B9))
  go_ret
  exact ⟨rfl, HB⟩
end Go.Proofs.YtbehakabglegjaaGreatDoor
namespace Go.Proofs.YtbehakabglegjaaGreatDoor
open Go.RowKit Go.PlainAid
set_option linter.unusedVariables false
set_option linter.unusedSimpArgs false
theorem wpl_bt_text {ops : Array Oper} {rest : List Oper} {o : Oper} {a : Act} {w : World} {Q : Exit → Act → World → Prop} (hgd : o.guard = none) (x : Operand) (ho : o.op = .convert 23 9 x) {v : Value} {l : List UInt8} (h : BtAt w v l) (hx : a.eval x = v)
    (hQ : wpList Tryz.prog ops Q rest (a.put o.dst (.string (txt l))) w) : wpList Tryz.prog ops Q (o :: rest) a w :=
  wpList_plain hgd fun _ hK => by
    have e := bt_text h
    generalize hP : Tryz.prog = P at *
    unfold Oper.wp execOp
    simp only [ho, hx, Sem.run_bind, e, Result.andThen_ok, Sem.run_pure]
    exact hK _ _ hQ
/-- What is still to be told of a number, and what is told. -/
def decR (m : Nat) (acc : List UInt8) : List UInt8 := if m = 0 ∧ acc ≠ [] then acc else Lib.decDigits m ++ acc
def strN (v : Value) : Nat := match v with
  | .string s => if s.size = 0 then 1 else 0
  | _ => 0
end Go.Proofs.YtbehakabglegjaaGreatDoor
namespace Go.Proofs.YtbehakabglegjaaGreatDoor
open Go.RowKit Go.PlainAid
set_option linter.unusedVariables false
set_option linter.unusedSimpArgs false
def isBk (c : UInt8) : Bool := c == 32 || c == 9
theorem bk_is (c : UInt8) : ([32, 9] : List UInt8).contains c = isBk c := by
  unfold isBk
  by_cases h : c = 32 <;> by_cases k : c = 9 <;> simp [h, k]
theorem trim_is {l : List UInt8} {i k : Nat} (hik : i ≤ k) (hk : k ≤ l.length) (h1 : ∀ j x, j < i → l[j]? = some x → isBk x = true) (h2 : i < k → ∀ x, l[i]? = some x → isBk x = false) (h3 : ∀ j x, k ≤ j → l[j]? = some x → isBk x = true) (h4 : i < k → ∀ x, l[k - 1]? = some x → isBk x = false) : trimL l = (l.take k).drop i := by
  unfold trimL Lib.trimS
  by_cases h : i < k
  · rw [Lib.trimRightS_take l _ k hk (fun j b hj hb => by rw [bk_is]; exact h3 j b hj hb) (fun b _ hb => by rw [bk_is]; exact h4 h b hb)]
    refine Lib.trimLeftS_drop _ _ i (by rw [List.length_take]; omega) (fun j b hj hb => ?_) (fun b hb => ?_)
    · rw [List.getElem?_take, if_pos (by omega)] at hb
      rw [bk_is]
      exact h1 j b hj hb
    · rw [List.getElem?_take, if_pos h] at hb
      rw [bk_is]
      exact h2 h b hb
  · obtain rfl : i = k := by omega
    have hall : ∀ (j : Nat) (b : UInt8), l[j]? = some b → ([32, 9] : List UInt8).contains b = true := fun j b hb => by
      rw [bk_is]
      by_cases hj : j < i
      · exact h1 j b hj hb
      · exact h3 j b (by omega) hb
    rw [Lib.trimRightS_take l _ 0 (Nat.zero_le _) (fun j b _ hb => hall j b hb) (fun b h0 => absurd h0 (Nat.lt_irrefl _))]
    rw [List.drop_eq_nil_iff.2 (by rw [List.length_take]; omega)]
    rfl
theorem bt_sub {w : World} {A : Option Addr} {c i k : Nat} {l : List UInt8} (h : BtAt w (.slice A l.length c) l) (hik : i ≤ k) (hk : k ≤ l.length) (c2 : Nat) : ∀ b off, A = some ⟨b, off, none⟩ → BtAt w (.slice (some ⟨b, off + i, none⟩) (k - i) c2) ((l.take k).drop i) := by
  intro b off hA
  refine ⟨_, _, by rw [List.length_drop, List.length_take, Nat.min_eq_left hk], fun j u hu => ⟨b, off + i, rfl, ?_⟩⟩
  rw [List.getElem?_drop, List.getElem?_take] at hu
  split at hu
  · obtain ⟨A2, c3, e, hc⟩ := h
    injection e with e1 e2 e3
    subst e1
    obtain ⟨b2, o2, e4, h4⟩ := hc (i + j) u hu
    rw [hA] at e4
    injection e4 with e4
    injection e4 with e5 e6
    subst e5
    subst e6
    rw [← Nat.add_assoc] at h4
    exact h4
  · cases hu
theorem bt_nil (w : World) (A : Option Addr) (c : Nat) : BtAt w (.slice A 0 c) [] := ⟨A, c, rfl, fun i u h => by simp at h⟩
theorem byte_ne {x y : UInt8} (h : x ≠ y) : ((x.toNat : Int) == (y.toNat : Int)) = false := by
  rw [beq_eq_false_iff_ne]
  intro e
  exact h (UInt8.toNat_inj.1 (by omega))
set_option maxRecDepth 100000 in
set_option maxHeartbeats 4000000 in
theorem trimmed_any {A : Option Addr} {c : Nat} {l : List UInt8} {w : World} (hv : BtAt w (.slice A l.length c) l) (hl : l.length ≤ 140737488355328) (hcap : l.length ≤ c) :
    Calls Tryz.prog 69 #[.slice A l.length c] w fun e w' => e = .returned (.string (txt (trimL l))) ∧ w = w' := by
  have hcells : ∀ i u, l[i]? = some u → ∃ b off, A = some ⟨b, off, none⟩ ∧ w.cell? ⟨b, off + i, none⟩ = some (.int .u8 (u.toNat : Int)) := by
    obtain ⟨A2, c2, e, hc⟩ := hv
    injection e with e1 e2 e3
    subst e1
    exact hc
  have HV := Lib.hid hv
  have HCP := Lib.hid hcap
  have HL := Lib.hid hl
  have HC := Lib.hid hcells
  clear hv hl hcells hcap
  go_enter Tryz.func69, Tryz.ntmps69
  go_wp2
  go_loopw [3] (fun iv wr => ∃ i : Nat, iv = .int .i64 (i : Int) ∧ i ≤ l.length ∧ Hid (∀ j x, j < i → l[j]? = some x → isBk x = true) ∧ w = wr) (fun iv _ => l.length - ivN iv)
  case atStart => exact ⟨0, rfl, Nat.zero_le _, Lib.hid (fun j x h => absurd h (Nat.not_lt_zero _)), rfl⟩
  case round =>
    obtain ⟨i, rfl, hi, H1, rfl⟩ := hrel
    have hl1 := HL.out
    by_cases hlt : i < l.length
    · obtain ⟨x, hx⟩ : ∃ x, l[i]? = some x := ⟨_, List.getElem?_eq_getElem hlt⟩
      obtain ⟨b, off, rfl, cx⟩ := HC.out i x hx
      have hi1 : (i : Int) < (l.length : Int) := by omega
      by_cases h32 : x = 32
      · have hq : ((x.toNat : Int) == 32) = true := by rw [h32]; rfl
        have HN : Hid (∀ j y, j < i + 1 → l[j]? = some y → isBk y = true) := Lib.hid (fun j y hj hy => by
          by_cases e : j = i
          · subst e
            rw [hx] at hy
            rw [← Option.some.inj hy]
            unfold isBk
            simp [h32]
          · exact H1.out j y (by omega) hy)
        clear hx
        go_wp2
        go_roundw
        case rel => first | exact ⟨i + 1, rfl, by omega, HN, rfl⟩ | exact ⟨i + 1, rfl, by omega, HN, trivial⟩
        case measure => (show l.length - ((i : Int) + 1).toNat < l.length - (i : Int).toNat; omega)
      · have hq : ((x.toNat : Int) == 32) = false := byte_ne h32
        by_cases h9 : x = 9
        · have hq9 : ((x.toNat : Int) == 9) = true := by rw [h9]; rfl
          have HN : Hid (∀ j y, j < i + 1 → l[j]? = some y → isBk y = true) := Lib.hid (fun j y hj hy => by
            by_cases e : j = i
            · subst e
              rw [hx] at hy
              rw [← Option.some.inj hy]
              unfold isBk
              simp [h9]
            · exact H1.out j y (by omega) hy)
          clear hx
          go_wp2
          go_roundw
          case rel => first | exact ⟨i + 1, rfl, by omega, HN, rfl⟩ | exact ⟨i + 1, rfl, by omega, HN, trivial⟩
          case measure => (show l.length - ((i : Int) + 1).toNat < l.length - (i : Int).toNat; omega)
        · have hq9 : ((x.toNat : Int) == 9) = false := byte_ne h9
          have H2 : Hid (i < l.length → ∀ y, l[i]? = some y → isBk y = false) := Lib.hid (fun _ y hy => by
            rw [hx] at hy
            rw [← Option.some.inj hy]
            unfold isBk
            simp [h32, h9])
          clear hx h32 h9
          go_wp2
          go_loopw [4] (fun iv wr => ∃ k : Nat, iv = .int .i64 (k : Int) ∧ i ≤ k ∧ k ≤ l.length ∧ Hid (∀ j x, k ≤ j → l[j]? = some x → isBk x = true) ∧ w = wr) (fun iv _ => ivN iv)
          case atStart => exact ⟨l.length, rfl, hi, Nat.le_refl _, Lib.hid (fun j x hj hx => by have := (List.getElem?_eq_some_iff.1 hx).1; omega), rfl⟩
          case round =>
            obtain ⟨k, rfl, hik, hkl, H3, rfl⟩ := hrel
            by_cases hk : i < k
            · obtain ⟨k1, rfl⟩ : ∃ k1, k = k1 + 1 := ⟨k - 1, by omega⟩
              obtain ⟨y, hy⟩ : ∃ y, l[k1]? = some y := ⟨_, List.getElem?_eq_getElem (by omega)⟩
              obtain ⟨b2, off2, hA2, cy⟩ := HC.out k1 y hy
              injection hA2 with hA2
              injection hA2 with e1 e2
              subst e1
              subst e2
              have hk1 : (i : Int) < (k1 : Int) + 1 := by omega
              have hk2 : (k1 : Int) < (l.length : Int) := by omega
              by_cases y32 : y = 32
              · have hr : ((y.toNat : Int) == 32) = true := by rw [y32]; rfl
                have HN : Hid (∀ j z, k1 ≤ j → l[j]? = some z → isBk z = true) := Lib.hid (fun j z hj hz => by
                  by_cases e : j = k1
                  · subst e
                    rw [hy] at hz
                    rw [← Option.some.inj hz]
                    unfold isBk
                    simp [y32]
                  · exact H3.out j z (by omega) hz)
                clear hy
                go_wp2
                go_roundw
                case rel => first | exact ⟨k1, rfl, by omega, by omega, HN, rfl⟩ | exact ⟨k1, rfl, by omega, by omega, HN, trivial⟩
                case measure => (show (k1 : Int).toNat < ((k1 : Int) + 1).toNat; omega)
              · have hr : ((y.toNat : Int) == 32) = false := byte_ne y32
                by_cases y9 : y = 9
                · have hr9 : ((y.toNat : Int) == 9) = true := by rw [y9]; rfl
                  have HN : Hid (∀ j z, k1 ≤ j → l[j]? = some z → isBk z = true) := Lib.hid (fun j z hj hz => by
                    by_cases e : j = k1
                    · subst e
                      rw [hy] at hz
                      rw [← Option.some.inj hz]
                      unfold isBk
                      simp [y9]
                    · exact H3.out j z (by omega) hz)
                  clear hy
                  go_wp2
                  go_roundw
                  case rel => first | exact ⟨k1, rfl, by omega, by omega, HN, rfl⟩ | exact ⟨k1, rfl, by omega, by omega, HN, trivial⟩
                  case measure => (show (k1 : Int).toNat < ((k1 : Int) + 1).toNat; omega)
                · have hr9 : ((y.toNat : Int) == 9) = false := byte_ne y9
                  have HT := Lib.hid (trim_is (Nat.le_of_lt hk) hkl H1.out (fun _ => H2.out hlt) H3.out (fun _ z hz => by
                    rw [Nat.add_sub_cancel, hy] at hz
                    rw [← Option.some.inj hz]
                    unfold isBk
                    simp [y32, y9]))
                  clear hy y32 y9
                  have hcI : (k1 : Int) + 1 ≤ (c : Int) := by have := HCP.out; omega
                  have hik2 : (i : Int) ≤ (k1 : Int) + 1 := by omega
                  have hcN : k1 + 1 ≤ c := by have := HCP.out; omega
                  have hiN : i ≤ k1 + 1 := by omega
                  go_wp2_with ((with_reducible refine is_convert ?_); refine wpl_bt_text rfl (.tmp 50) rfl (bt_sub HV.out (Nat.le_of_lt hk) hkl (c - i) _ _ rfl) rfl ?_)
                  go_ret
                  exact ⟨by (rw [HT.out]; try rfl), rfl⟩
            · obtain rfl : i = k := by omega
              have hkI : ¬ (i : Int) < (i : Int) := by omega
              have HT := Lib.hid (trim_is (Nat.le_refl i) hi H1.out (fun h => absurd h (Nat.lt_irrefl _)) H3.out (fun h => absurd h (Nat.lt_irrefl _)))
              have HT0 : Hid (trimL l = []) := Lib.hid (by rw [HT.out]; exact List.drop_eq_nil_iff.2 (by rw [List.length_take]; omega))
              have hcI : (i : Int) ≤ (c : Int) := by have := HCP.out; omega
              have hcN : i ≤ c := by have := HCP.out; omega
              go_wp2_with ((with_reducible refine is_convert ?_); refine wpl_bt_text rfl (.tmp 50) rfl (l := []) (bt_nil _ _ _) rfl ?_)
              all_goals
                go_ret
                exact ⟨by (rw [HT0.out]; try rfl), rfl⟩
    · have H2 : Hid (i < l.length → ∀ y, l[i]? = some y → isBk y = false) := Lib.hid (fun h => absurd h hlt)
      have hi1 : ¬ (i : Int) < (l.length : Int) := by omega
      go_wp2
      go_loopw [4] (fun iv wr => ∃ k : Nat, iv = .int .i64 (k : Int) ∧ i ≤ k ∧ k ≤ l.length ∧ Hid (∀ j x, k ≤ j → l[j]? = some x → isBk x = true) ∧ w = wr) (fun iv _ => ivN iv)
      case atStart => exact ⟨l.length, rfl, hi, Nat.le_refl _, Lib.hid (fun j x hj hx => by have := (List.getElem?_eq_some_iff.1 hx).1; omega), rfl⟩
      case round =>
        obtain ⟨k, rfl, hik, hkl, H3, rfl⟩ := hrel
        by_cases hk : i < k
        · omega
        · obtain rfl : i = k := by omega
          have hkI : ¬ (i : Int) < (i : Int) := by omega
          have HT := Lib.hid (trim_is (Nat.le_refl i) hi H1.out (fun h => absurd h (Nat.lt_irrefl _)) H3.out (fun h => absurd h (Nat.lt_irrefl _)))
          have HT0 : Hid (trimL l = []) := Lib.hid (by rw [HT.out]; exact List.drop_eq_nil_iff.2 (by rw [List.length_take]; omega))
          have hcI : (i : Int) ≤ (c : Int) := by have := HCP.out; omega
          have hcN : i ≤ c := by have := HCP.out; omega
          cases A with
          | none =>
            have h0 : i = 0 := by
              by_cases e : i = 0
              · exact e
              · obtain ⟨u, hu⟩ : ∃ u, l[0]? = some u := ⟨_, List.getElem?_eq_getElem (by omega)⟩
                obtain ⟨_, _, e2, _⟩ := HC.out 0 u hu
                cases e2
            subst h0
            go_wp2_with ((with_reducible refine is_convert ?_); refine wpl_bt_text rfl (.tmp 50) rfl (l := []) (bt_nil _ _ _) rfl ?_)
            all_goals
              go_ret
              exact ⟨by (rw [HT0.out]; try rfl), rfl⟩
          | some ad =>
            go_wp2_with ((with_reducible refine is_convert ?_); refine wpl_bt_text rfl (.tmp 50) rfl (l := []) (bt_nil _ _ _) rfl ?_)
            all_goals
              go_ret
              exact ⟨by (rw [HT0.out]; try rfl), rfl⟩
end Go.Proofs.YtbehakabglegjaaGreatDoor
