/- Layer 9: a feed in memory: its box, its own rows, the messages that are whole. -/
import Derived.Maps.AppendAt
import Derived.Test.YtbehakabglegjaaGreatDoorQ00
import Derived.Test.YtbehakabglegjaaGreatDoorQ03
namespace Go.Proofs.YtbehakabglegjaaGreatDoor
open Go.RowKit
set_option linter.unusedVariables false
set_option linter.unusedSimpArgs false
/-- Which function takes the next byte. -/
def stepId : Nat → Nat
  | 0 => 70
  | 1 => 102
  | 2 => 71
  | 3 => 103
  | 4 => 124
  | 5 => 104
  | 6 => 125
  | 7 => 139
  | 8 => 143
  | 9 => 141
  | 10 => 152
  | 11 => 158
  | 12 => 157
  | _ => 159
def stepV (k : Nat) : Value := .func (.func (stepId k)) #[] #[]
/-- A feed's cells. -/
def FdC (F : Fs) (nx tk hs bd wh : Value) : Array Value := #[.bool F.ans, .bool F.shut, .int .i64 F.pos, .int .i64 F.head, nx, tk, .string F.m.meth, .string F.m.targ, .int .i64 F.m.stat, .string F.m.reas, hs, bd, wh, .int .i64 F.left, .int .i64 F.size, .int .i64 F.about]
def hdsL (l : List (ByteArray × ByteArray)) : List Value := l.flatMap fun p => [.string p.1, .string p.2]
/-- A message in memory. -/
structure Mm where
  m : Ms
  hs : Value
  bd : Value
def Mm.cells (x : Mm) : Array Value := #[.string x.m.meth, .string x.m.targ, .int .i64 x.m.stat, .string x.m.reas, x.hs, x.bd]
def mmsL (l : List Mm) : List Value := l.flatMap fun x => x.cells.toList
/-- Headers, bytes that can be read. -/
def HdAt (w : World) (v : Value) (l : List (ByteArray × ByteArray)) : Prop := ∃ A c, v = .slice A l.length c ∧ ∀ i p, l[i]? = some p → ∃ b off, A = some ⟨b, off, none⟩ ∧ w.cell? ⟨b, off + i * 2, none⟩ = some (.string p.1) ∧ w.cell? ⟨b, off + i * 2 + 1, none⟩ = some (.string p.2)
def BtAt (w : World) (v : Value) (l : List UInt8) : Prop := ∃ A c, v = .slice A l.length c ∧ ∀ i u, l[i]? = some u → ∃ b off, A = some ⟨b, off, none⟩ ∧ w.cell? ⟨b, off + i, none⟩ = some (.int .u8 (u.toNat : Int))
/-- The row lies in none of these blocks. -/
def VOff (X : Nat → Prop) (v : Value) : Prop := ∀ q, v.ownBlock = some q → ¬ X q
def CapOk (v : Value) : Prop := ∃ A n c, v = .slice A n c ∧ n ≤ c
/-- What lies in the row's block. -/
def TyB (w : World) (v : Value) (T : TypeId) : Prop := ∀ q, v.ownBlock = some q → ∃ arr fz, w.heap[q]? = some (.cells arr T fz)
def IsMm (w : World) (x : Mm) : Prop := HdAt w x.hs x.m.heads ∧ BtAt w x.bd x.m.body ∧ (∀ q, x.hs.ownBlock = some q ∨ x.bd.ownBlock = some q → q < w.heap.size) ∧ x.m.heads.length ≤ 64 ∧ x.m.body.length ≤ 65536 ∧ TyB w x.hs 51 ∧ TyB w x.bd 5 ∧ CapOk x.hs
def MOff (X : Nat → Prop) (x : Mm) : Prop := VOff X x.hs ∧ VOff X x.bd
theorem cell_bes {X : Nat → Prop} {w w' : World} (hb : Bes X w w') {a : Addr} {v : Value} (h : w.cell? a = some v) (hx : ¬ X a.block) (hs : a.spot = none) : w'.cell? a = some v := by
  obtain ⟨b, o, s⟩ := a
  simp only at hs
  subst hs
  rw [World.cell?_of_block (hb.block b (block_lt_of_cell h) hx)]
  exact h
theorem own_slice {w : World} {base : Nat} {E : TypeId} {size : Nat} {v : Value} {n : Nat} {xs : List Value} (h : w.ownsRow base E size v n xs) : ∃ A c, v = .slice A n c ∧ ∀ i u, xs[i]? = some u → ∃ b, A = some ⟨b, 0, none⟩ ∧ w.cell? ⟨b, i, none⟩ = some u := by
  obtain ⟨hl, h⟩ := h
  rcases h with ⟨hv, h0⟩ | ⟨g, cap, cur, hv, hb, hg, hn, hc, hs, ht⟩
  · subst h0
    exact ⟨none, 0, hv, fun i u hu => by rw [Nat.zero_mul] at hl; rw [List.eq_nil_of_length_eq_zero hl] at hu; simp at hu⟩
  · refine ⟨_, _, hv, fun i u hu => ⟨g, rfl, ?_⟩⟩
    have hI : IBox w g E cur := hg
    rw [hI.cell]
    rw [← ht, List.getElem?_take] at hu
    split at hu
    · simpa using hu
    · cases hu
theorem bt_own {w : World} {base : Nat} {v : Value} {l : List UInt8} (h : OwnB w base v l) : BtAt w v l := by
  obtain ⟨A, c, hv, hc⟩ := own_slice h
  refine ⟨A, c, hv, fun i u hu => ?_⟩
  obtain ⟨b, hA, hw⟩ := hc i (.int .u8 (u.toNat : Int)) (by unfold Lib.byteCells; rw [List.getElem?_map, hu]; rfl)
  exact ⟨b, 0, hA, by rw [Nat.zero_add]; exact hw⟩
theorem hdsL_get : ∀ {l : List (ByteArray × ByteArray)} {i : Nat} {p : ByteArray × ByteArray}, l[i]? = some p → (hdsL l)[i * 2]? = some (.string p.1) ∧ (hdsL l)[i * 2 + 1]? = some (.string p.2)
  | [], i, p, h => by simp at h
  | q :: r, 0, p, h => by
    obtain rfl : q = p := by simpa using h
    exact ⟨rfl, rfl⟩
  | q :: r, i + 1, p, h => by
    have h2 : r[i]? = some p := by simpa using h
    obtain ⟨a, b⟩ := hdsL_get h2
    have e : hdsL (q :: r) = .string q.1 :: .string q.2 :: hdsL r := rfl
    rw [e, show (i + 1) * 2 = i * 2 + 1 + 1 by omega]
    exact ⟨by simpa using a, by simpa using b⟩
theorem hdsL_app (l m : List (ByteArray × ByteArray)) : hdsL (l ++ m) = hdsL l ++ hdsL m := by unfold hdsL; exact List.flatMap_append
theorem mmsL_app (l m : List Mm) : mmsL (l ++ m) = mmsL l ++ mmsL m := by unfold mmsL; exact List.flatMap_append
theorem hd_own {w : World} {base : Nat} {v : Value} {l : List (ByteArray × ByteArray)} (h : w.ownsRow base 51 2 v l.length (hdsL l)) : HdAt w v l := by
  obtain ⟨A, c, hv, hc⟩ := own_slice h
  refine ⟨A, c, hv, fun i p hp => ?_⟩
  obtain ⟨h1, h2⟩ := hdsL_get hp
  obtain ⟨b, hA, hw⟩ := hc _ _ h1
  obtain ⟨b2, hA2, hw2⟩ := hc _ _ h2
  obtain rfl : b = b2 := by rw [hA] at hA2; injection hA2 with e; injection e
  exact ⟨b, 0, hA, by rw [Nat.zero_add]; exact hw, by rw [Nat.zero_add]; exact hw2⟩
theorem HdAt.bes {X : Nat → Prop} {w w' : World} (hb : Bes X w w') {v : Value} {l : List (ByteArray × ByteArray)} (h : HdAt w v l) (ho : VOff X v) : HdAt w' v l := by
  obtain ⟨A, c, hv, hc⟩ := h
  refine ⟨A, c, hv, fun i p hp => ?_⟩
  obtain ⟨b, off, hA, h1, h2⟩ := hc i p hp
  have hn : ¬ X b := ho b (by rw [hv, hA]; rfl)
  exact ⟨b, off, hA, cell_bes hb h1 hn rfl, cell_bes hb h2 hn rfl⟩
theorem BtAt.bes {X : Nat → Prop} {w w' : World} (hb : Bes X w w') {v : Value} {l : List UInt8} (h : BtAt w v l) (ho : VOff X v) : BtAt w' v l := by
  obtain ⟨A, c, hv, hc⟩ := h
  refine ⟨A, c, hv, fun i p hp => ?_⟩
  obtain ⟨b, off, hA, h1⟩ := hc i p hp
  exact ⟨b, off, hA, cell_bes hb h1 (ho b (by rw [hv, hA]; rfl)) rfl⟩
theorem TyB.bes {X : Nat → Prop} {w w' : World} (hb : Bes X w w') {v : Value} {T : TypeId} (h : TyB w v T) (ho : VOff X v) : TyB w' v T := fun q e => by
  obtain ⟨arr, fz, hq⟩ := h q e
  exact ⟨arr, fz, (hb.block q (Array.getElem?_eq_some_iff.1 hq).1 (ho q e)).trans hq⟩
theorem own_ty {w : World} {base : Nat} {E : TypeId} {size : Nat} {v : Value} {n : Nat} {xs : List Value} (h : w.ownsRow base E size v n xs) : TyB w v E := fun q e => by
  obtain ⟨hl, h⟩ := h
  rcases h with ⟨hv, h0⟩ | ⟨g, cap, cur, hv, hb, hg, hn, hc, hs, ht⟩
  · rw [hv] at e; cases e
  · have hI : IBox w g E cur := hg
    rw [hv] at e
    obtain rfl : g = q := by simpa [Value.ownBlock] using e
    exact ⟨cur, _, hI⟩
theorem own_capok {w : World} {base : Nat} {E : TypeId} {size : Nat} {v : Value} {n : Nat} {xs : List Value} (h : w.ownsRow base E size v n xs) : CapOk v := by
  rcases h.2 with ⟨hv, h0⟩ | ⟨g, cp, cur, hv, _, _, hn, _⟩
  · exact ⟨none, 0, 0, hv, Nat.le_refl _⟩
  · exact ⟨_, _, _, hv, hn⟩
theorem IsMm.bes {X : Nat → Prop} {w w' : World} (hb : Bes X w w') {x : Mm} (h : IsMm w x) (ho : MOff X x) : IsMm w' x := ⟨h.1.bes hb ho.1, h.2.1.bes hb ho.2, fun q e => Nat.lt_of_lt_of_le (h.2.2.1 q e) hb.size, h.2.2.2.1, h.2.2.2.2.1, h.2.2.2.2.2.1.bes hb ho.1, h.2.2.2.2.2.2.1.bes hb ho.2, h.2.2.2.2.2.2.2⟩
theorem MOff.mono {X Y : Nat → Prop} (h : ∀ q, Y q → X q) {x : Mm} (ho : MOff X x) : MOff Y x := ⟨fun q e y => ho.1 q e (h q y), fun q e y => ho.2 q e (h q y)⟩
/-- Four rows in blocks apart, none in block g. -/
def Apart (g : Nat) (a b c d : Option Nat) : Prop := ∀ q, (a = some q → q ≠ g ∧ b ≠ some q ∧ c ≠ some q ∧ d ≠ some q) ∧ (b = some q → q ≠ g ∧ a ≠ some q ∧ c ≠ some q ∧ d ≠ some q) ∧ (c = some q → q ≠ g ∧ a ≠ some q ∧ b ≠ some q ∧ d ≠ some q) ∧ (d = some q → q ≠ g ∧ a ≠ some q ∧ b ≠ some q ∧ c ≠ some q)
theorem Apart.s2 {g : Nat} {a b c d : Option Nat} (h : Apart g a b c d) : Apart g b a c d := fun q => by
  obtain ⟨h1, h2, h3, h4⟩ := h q
  exact ⟨h2, h1, fun e => ⟨(h3 e).1, (h3 e).2.2.1, (h3 e).2.1, (h3 e).2.2.2⟩, fun e => ⟨(h4 e).1, (h4 e).2.2.1, (h4 e).2.1, (h4 e).2.2.2⟩⟩
theorem Apart.s3 {g : Nat} {a b c d : Option Nat} (h : Apart g a b c d) : Apart g c b a d := fun q => by
  obtain ⟨h1, h2, h3, h4⟩ := h q
  exact ⟨fun e => ⟨(h3 e).1, (h3 e).2.2.1, (h3 e).2.1, (h3 e).2.2.2⟩, fun e => ⟨(h2 e).1, (h2 e).2.2.1, (h2 e).2.1, (h2 e).2.2.2⟩, fun e => ⟨(h1 e).1, (h1 e).2.2.1, (h1 e).2.1, (h1 e).2.2.2⟩, fun e => ⟨(h4 e).1, (h4 e).2.2.2, (h4 e).2.2.1, (h4 e).2.1⟩⟩
theorem Apart.s4 {g : Nat} {a b c d : Option Nat} (h : Apart g a b c d) : Apart g d b c a := fun q => by
  obtain ⟨h1, h2, h3, h4⟩ := h q
  exact ⟨fun e => ⟨(h4 e).1, (h4 e).2.2.1, (h4 e).2.2.2, (h4 e).2.1⟩, fun e => ⟨(h2 e).1, (h2 e).2.2.2, (h2 e).2.2.1, (h2 e).2.1⟩, fun e => ⟨(h3 e).1, (h3 e).2.2.2, (h3 e).2.2.1, (h3 e).2.1⟩, fun e => ⟨(h1 e).1, (h1 e).2.2.2, (h1 e).2.1, (h1 e).2.2.1⟩⟩
/-- One of them grows: it stays where it lies, lies anew, or is gone. -/
theorem Apart.new {g n : Nat} {a b c d a' : Option Nat} (h : Apart g a b c d) (hg : g < n) (hb : ∀ q, b = some q → q < n) (hc : ∀ q, c = some q → q < n) (hd : ∀ q, d = some q → q < n) (ha : a' = a ∨ a' = some n ∨ a' = none) : Apart g a' b c d := fun q => by
  rcases ha with rfl | rfl | rfl
  · exact h q
  · obtain ⟨h1, h2, h3, h4⟩ := h q
    have hbq := hb q
    have hcq := hc q
    have hdq := hd q
    refine ⟨fun e => ?_, fun e => ⟨(h2 e).1, fun e2 => ?_, (h2 e).2.2⟩, fun e => ⟨(h3 e).1, fun e2 => ?_, (h3 e).2.2⟩, fun e => ⟨(h4 e).1, fun e2 => ?_, (h4 e).2.2⟩⟩
    · injection e with e
      exact ⟨by omega, fun x => by have := hbq x; omega, fun x => by have := hcq x; omega, fun x => by have := hdq x; omega⟩
    · injection e2 with e2; have := hbq e; omega
    · injection e2 with e2; have := hcq e; omega
    · injection e2 with e2; have := hdq e; omega
  · obtain ⟨h1, h2, h3, h4⟩ := h q
    exact ⟨fun e => (by cases e), fun e => ⟨(h2 e).1, fun x => (by cases x), (h2 e).2.2⟩, fun e => ⟨(h3 e).1, fun x => (by cases x), (h3 e).2.2⟩, fun e => ⟨(h4 e).1, fun x => (by cases x), (h4 e).2.2⟩⟩
/-- The blocks that the feed writes to. -/
def Live (g : Nat) (tk hs bd wh : Value) (q : Nat) : Prop := q = g ∨ tk.ownBlock = some q ∨ hs.ownBlock = some q ∨ bd.ownBlock = some q ∨ wh.ownBlock = some q
/-- Where the feed's own blocks begin; blocks that it lets be. -/
structure Bs where
  n : Nat
  av : Nat → Prop
/-- From w to w' nothing below has changed, nor what is to be let be. -/
structure Bl (base : Bs) (w w' : World) : Prop where
  b : Below base.n w w'
  k : ∀ q, base.av q → w'.heap[q]? = w.heap[q]?
theorem Bl.refl (base : Bs) (w : World) : Bl base w w := ⟨Below.refl _ _, fun _ _ => rfl⟩
theorem Bl.trans {base : Bs} {a b c : World} (h : Bl base a b) (k : Bl base b c) : Bl base a c := ⟨h.b.trans k.b, fun q e => (k.k q e).trans (h.k q e)⟩
theorem Bl.of {base : Bs} {w w' : World} (h : Below w.heap.size w w') (hz : base.n ≤ w.heap.size) (ha : ∀ q, base.av q → q < w.heap.size) : Bl base w w' := ⟨h.mono hz, fun q e => h.block q (ha q e)⟩
theorem Bl.bes {base : Bs} {X : Nat → Prop} {w w' : World} (h : Bes X w w') (hX : ∀ q, X q → base.n ≤ q ∧ ¬ base.av q) (hz : base.n ≤ w.heap.size) (ha : ∀ q, base.av q → q < w.heap.size) : Bl base w w' :=
  ⟨h.below (fun q e => (hX q e).1) hz, fun q e => h.block q (ha q e) (fun x => (hX q x).2 e)⟩
/-- The feed's rows: each in a block of its own, none in the feed's box; the messages that are whole lie in none of these. -/
structure FdR (base : Bs) (g : Nat) (F : Fs) (tk hs bd wh : Value) (L : List Mm) (w : World) : Prop where
  gl : base.n ≤ g ∧ g < w.heap.size
  rt : OwnB w base.n tk F.tok
  rh : w.ownsRow base.n 51 2 hs F.m.heads.length (hdsL F.m.heads)
  rb : OwnB w base.n bd F.m.body
  rw_ : w.ownsRow base.n 25 6 wh L.length (mmsL L)
  wl : L.map (·.m) = F.whole
  ap : Apart g tk.ownBlock hs.ownBlock bd.ownBlock wh.ownBlock
  ms : ∀ x ∈ L, IsMm w x ∧ MOff (Live g tk hs bd wh) x
  off : ∀ q, Live g tk hs bd wh q → ¬ base.av q
  avl : ∀ q, base.av q → q < w.heap.size
  ma : ∀ x ∈ L, MOff base.av x
def FdM (base : Bs) (g : Nat) (F : Fs) (nx tk hs bd wh : Value) (L : List Mm) (w : World) : Prop := IBox w g 81 (FdC F nx tk hs bd wh) ∧ FdR base g F tk hs bd wh L w
section
variable {base : Bs} {g : Nat} {F : Fs} {tk hs bd wh v : Value} {L : List Mm} {w w' : World}
/-- New blocks lie apart from a message that is whole. -/
theorem ms_live {X Y : Nat → Prop} {x : Mm} {n : Nat} (h : IsMm w x) (ho : MOff X x) (hn : w.heap.size ≤ n) (hY : ∀ q, Y q → X q ∨ q = n) : MOff Y x :=
  ⟨fun q e y => (hY q y).elim (ho.1 q e) (fun z => by have := h.2.2.1 q (.inl e); omega), fun q e y => (hY q y).elim (ho.2 q e) (fun z => by have := h.2.2.1 q (.inr e); omega)⟩
theorem FdR.below (h : FdR base g F tk hs bd wh L w) (hb : Below w.heap.size w w') : FdR base g F tk hs bd wh L w' :=
  have hz := hb.size
  ⟨⟨h.gl.1, Nat.lt_of_lt_of_le h.gl.2 hz⟩, own_below h.rt hb, own_below h.rh hb, own_below h.rb hb, own_below h.rw_ hb, h.wl, h.ap, fun x hx => ⟨(h.ms x hx).1.bes (X := fun _ => False) (Bes.of_below hb) ⟨fun _ _ z => z, fun _ _ z => z⟩, (h.ms x hx).2⟩, h.off, fun q e => Nat.lt_of_lt_of_le (h.avl q e) hz, h.ma⟩
/-- A store into the feed's box. -/
theorem FdR.row (h : FdR base g F tk hs bd wh L w) (hb : Bes (fun q => q = g) w w') : FdR base g F tk hs bd wh L w' :=
  ⟨⟨h.gl.1, Nat.lt_of_lt_of_le h.gl.2 hb.size⟩, Bes.own hb h.rt (fun k e x => ((h.ap k).1 e).1 x), Bes.own hb h.rh (fun k e x => ((h.ap k).2.1 e).1 x), Bes.own hb h.rb (fun k e x => ((h.ap k).2.2.1 e).1 x), Bes.own hb h.rw_ (fun k e x => ((h.ap k).2.2.2 e).1 x), h.wl, h.ap,
    fun x hx => ⟨(h.ms x hx).1.bes hb ((h.ms x hx).2.mono (fun q e => .inl e)), (h.ms x hx).2⟩, h.off, fun q e => Nat.lt_of_lt_of_le (h.avl q e) hb.size, h.ma⟩
/-- The token's row changes. -/
theorem FdR.tok (h : FdR base g F tk hs bd wh L w) {l : List UInt8} (ho : OwnB w' base.n v l) (hb : Bes (fun q => tk.ownBlock = some q) w w') (hat : v.ownBlock = tk.ownBlock ∨ v.ownBlock = some w.heap.size ∨ v.ownBlock = none) : FdR base g { F with tok := l } v hs bd wh L w' :=
  have hlive : ∀ q, Live g v hs bd wh q → Live g tk hs bd wh q ∨ q = w.heap.size := fun q y => by
      rcases y with y | y | y | y | y
      · exact .inl (.inl y)
      · rcases hat with e | e | e
        · exact .inl (.inr (.inl (e ▸ y)))
        · rw [e] at y; exact .inr (Option.some.inj y).symm
        · rw [e] at y; cases y
      · exact .inl (.inr (.inr (.inl y)))
      · exact .inl (.inr (.inr (.inr (.inl y))))
      · exact .inl (.inr (.inr (.inr (.inr y))))
  ⟨⟨h.gl.1, Nat.lt_of_lt_of_le h.gl.2 hb.size⟩, ho, Bes.own hb h.rh (fun k e x => ((h.ap k).1 x).2.1 e), Bes.own hb h.rb (fun k e x => ((h.ap k).1 x).2.2.1 e), Bes.own hb h.rw_ (fun k e x => ((h.ap k).1 x).2.2.2 e), h.wl,
    h.ap.new h.gl.2 (fun q e => (own_in h.rh e).2) (fun q e => (own_in h.rb e).2) (fun q e => (own_in h.rw_ e).2) hat,
    fun x hx => ⟨(h.ms x hx).1.bes hb ((h.ms x hx).2.mono (fun q e => .inr (.inl e))), ms_live (h.ms x hx).1 (h.ms x hx).2 (Nat.le_refl _) hlive⟩, fun q y => (hlive q y).elim (h.off q) (fun e a => by have := h.avl q a; omega), fun q e => Nat.lt_of_lt_of_le (h.avl q e) hb.size, h.ma⟩
theorem FdR.heads (h : FdR base g F tk hs bd wh L w) {l : List (ByteArray × ByteArray)} (ho : w'.ownsRow base.n 51 2 v l.length (hdsL l)) (hb : Bes (fun q => hs.ownBlock = some q) w w') (hat : v.ownBlock = hs.ownBlock ∨ v.ownBlock = some w.heap.size ∨ v.ownBlock = none) : FdR base g { F with m := { F.m with heads := l } } tk v bd wh L w' :=
  have hlive : ∀ q, Live g tk v bd wh q → Live g tk hs bd wh q ∨ q = w.heap.size := fun q y => by
      rcases y with y | y | y | y | y
      · exact .inl (.inl y)
      · exact .inl (.inr (.inl y))
      · rcases hat with e | e | e
        · exact .inl (.inr (.inr (.inl (e ▸ y))))
        · rw [e] at y; exact .inr (Option.some.inj y).symm
        · rw [e] at y; cases y
      · exact .inl (.inr (.inr (.inr (.inl y))))
      · exact .inl (.inr (.inr (.inr (.inr y))))
  ⟨⟨h.gl.1, Nat.lt_of_lt_of_le h.gl.2 hb.size⟩, Bes.own hb h.rt (fun k e x => ((h.ap k).1 e).2.1 x), ho, Bes.own hb h.rb (fun k e x => ((h.ap k).2.2.1 e).2.2.1 x), Bes.own hb h.rw_ (fun k e x => ((h.ap k).2.2.2 e).2.2.1 x), h.wl,
    (h.ap.s2.new h.gl.2 (fun q e => (own_in h.rt e).2) (fun q e => (own_in h.rb e).2) (fun q e => (own_in h.rw_ e).2) hat).s2,
    fun x hx => ⟨(h.ms x hx).1.bes hb ((h.ms x hx).2.mono (fun q e => .inr (.inr (.inl e)))), ms_live (h.ms x hx).1 (h.ms x hx).2 (Nat.le_refl _) hlive⟩, fun q y => (hlive q y).elim (h.off q) (fun e a => by have := h.avl q a; omega), fun q e => Nat.lt_of_lt_of_le (h.avl q e) hb.size, h.ma⟩
theorem FdR.body (h : FdR base g F tk hs bd wh L w) {l : List UInt8} (ho : OwnB w' base.n v l) (hb : Bes (fun q => bd.ownBlock = some q) w w') (hat : v.ownBlock = bd.ownBlock ∨ v.ownBlock = some w.heap.size ∨ v.ownBlock = none) : FdR base g { F with m := { F.m with body := l } } tk hs v wh L w' :=
  have hlive : ∀ q, Live g tk hs v wh q → Live g tk hs bd wh q ∨ q = w.heap.size := fun q y => by
      rcases y with y | y | y | y | y
      · exact .inl (.inl y)
      · exact .inl (.inr (.inl y))
      · exact .inl (.inr (.inr (.inl y)))
      · rcases hat with e | e | e
        · exact .inl (.inr (.inr (.inr (.inl (e ▸ y)))))
        · rw [e] at y; exact .inr (Option.some.inj y).symm
        · rw [e] at y; cases y
      · exact .inl (.inr (.inr (.inr (.inr y))))
  ⟨⟨h.gl.1, Nat.lt_of_lt_of_le h.gl.2 hb.size⟩, Bes.own hb h.rt (fun k e x => ((h.ap k).1 e).2.2.1 x), Bes.own hb h.rh (fun k e x => ((h.ap k).2.1 e).2.2.1 x), ho, Bes.own hb h.rw_ (fun k e x => ((h.ap k).2.2.2 e).2.2.2 x), h.wl,
    (h.ap.s3.new h.gl.2 (fun q e => (own_in h.rh e).2) (fun q e => (own_in h.rt e).2) (fun q e => (own_in h.rw_ e).2) hat).s3,
    fun x hx => ⟨(h.ms x hx).1.bes hb ((h.ms x hx).2.mono (fun q e => .inr (.inr (.inr (.inl e))))), ms_live (h.ms x hx).1 (h.ms x hx).2 (Nat.le_refl _) hlive⟩, fun q y => (hlive q y).elim (h.off q) (fun e a => by have := h.avl q a; omega), fun q e => Nat.lt_of_lt_of_le (h.avl q e) hb.size, h.ma⟩
/-- What the rows say does not hang on the numbers. -/
theorem FdR.same (h : FdR base g F tk hs bd wh L w) {G : Fs} (h1 : G.tok = F.tok) (h2 : G.m.heads = F.m.heads) (h3 : G.m.body = F.m.body) (h4 : G.whole = F.whole) : FdR base g G tk hs bd wh L w :=
  ⟨h.gl, h1 ▸ h.rt, by rw [h2]; exact h.rh, h3 ▸ h.rb, h.rw_, h.wl.trans h4.symm, h.ap, h.ms, h.off, h.avl, h.ma⟩
end
end Go.Proofs.YtbehakabglegjaaGreatDoor
