/- Layer 9: the two feeds side by side: what holds in each round of the law HttpFeeds. -/
import Derived.Test.YtbehakabglegjaaGreatDoorQ39
import Derived.Test.YtbehakabglegjaaGreatDoorQ37
namespace Go.Proofs.YtbehakabglegjaaGreatDoor
open Go.RowKit
set_option linter.unusedVariables false
set_option linter.unusedSimpArgs false
structure RfM (n d : Nat) (ans : Bool) (o : List UInt8) (ov : Value) (ah : Nat) (sh : Bool) (w : World) : Prop where
  box : IBox w d 100 #[.bool ans, ov, .int .i64 (ah : Int), .bool sh]
  gn : n ≤ d
  own : OwnO w n ov o
section
variable {n d : Nat} {ans : Bool} {o p : List UInt8} {ov v v2 : Value} {ah : Nat} {sh : Bool} {w w' w2 : World}
theorem RfM.bes {X : Nat → Prop} (h : RfM n d ans o ov ah sh w) (hb : Bes X w w') (hd : ¬ X d) (ho : ∀ q, ov.ownBlock = some q → ¬ X q) : RfM n d ans o ov ah sh w' := ⟨Bes.box hb h.box hd, h.gn, h.own.bes hb ho⟩
theorem RfM.below (h : RfM n d ans o ov ah sh w) (hb : Below w.heap.size w w') : RfM n d ans o ov ah sh w' := h.bes (X := fun _ => False) (Bes.of_below hb) (fun x => x) (fun _ _ x => x)
theorem RfM.lt (h : RfM n d ans o ov ah sh w) : d < w.heap.size := IBox.lt h.box
theorem RfM.nw (h : RfM n d ans o ov ah sh w) : n ≤ w.heap.size := Nat.le_of_lt (Nat.lt_of_le_of_lt h.gn h.lt)
/-- Messages of the call's own: in blocks that are new. -/
def MsO (w : World) (base : Nat) (L : List Mm) : Prop := ∀ x ∈ L, IsMm w x ∧ ∀ q, x.hs.ownBlock = some q ∨ x.bd.ownBlock = some q → base ≤ q
/-- What Feed gives. -/
def RfV (n d : Nat) (ans : Bool) (o p : List UInt8) (ov : Value) (ah : Nat) (w : World) (e : Ending) (w' : World) : Prop := ∃ (o' : List UInt8) (ov' outv : Value) (ah' : Nat) (sh' : Bool) (L : List Mm) (x : Int) (pos : Nat),
  e = .returned (.tuple #[outv, .int .i64 x, .int .i64 (pos : Int)]) ∧ RfM n d ans o' ov' ah' sh' w' ∧ w'.ownsRow w.heap.size 25 6 outv L.length (mmsL L) ∧ MsO w' w.heap.size L ∧ (∀ q, ov'.ownBlock = some q → (ov.ownBlock = some q ∨ w.heap.size ≤ q) ∧ ∀ y ∈ L, y.hs.ownBlock ≠ some q ∧ y.bd.ownBlock ≠ some q) ∧ Bes (fun q => q = d ∨ ov.ownBlock = some q) w w' ∧ L.length ≤ o.length + p.length ∧
  ((x = 0 ∧ pos = 0 ∧ sh' = false ∧ ∃ F, runS (newA ans ah) (o ++ p) = .inl F ∧ F.whole = L.map (·.m) ∧ runS (newA ans ah') o' = .inl { F with whole := [] } ∧ ah' + o'.length = ah + (o.length + p.length)) ∨ (x ≠ 0 ∧ sh' = true ∧ runS (newA ans ah) (o ++ p) = .inr (x, pos, L.map (·.m))))
end
/-- What Feed of the program gives, told at once. -/
def FedB (n : Nat) (av : Nat → Prop) (g : Nat) (F : Fs) (l : List UInt8) (w : World) (e : Ending) (w' : World) : Prop := ∃ G nx tk hs bd wh L ev, e = .returned (.tuple #[wh, ev]) ∧ FdM ⟨n, fun _ => False⟩ g G nx tk hs bd wh L w' ∧ (∀ q, Live g tk hs bd wh q → ¬ av q) ∧ (∀ x ∈ L, MOff av x) ∧ Bl ⟨n, av⟩ w w' ∧
  ((feedS F l = .inl G ∧ ev = .nilIface ∧ nx = stepV G.next ∧ FI G ∧ HZ G) ∨ ∃ (c : Int) (p N : Nat), feedS F l = .inr (c, p, G.whole) ∧ ev = .iface 83 (.pointer (some ⟨N, 0, none⟩)) ∧ IBox w' N 85 (FaultA p c) ∧ G.shut = true)
/-- The two feeds, what came out of each, apart. -/
structure FsP (b0 n1 n2 g1 d : Nat) (ans : Bool) (G : Fs) (nx tk hs bd wh : Value) (Lf : List Mm) (o : List UInt8) (ov : Value) (ah : Nat) (sh : Bool) (tv wv : Value) (M N : List Mm) (w : World) : Prop where
  f : FdM ⟨n1, fun _ => False⟩ g1 G nx tk hs bd wh Lf w
  r : RfM n2 d ans o ov ah sh w
  fd : ∀ q, Live g1 tk hs bd wh q → ¬ (q = d ∨ ov.ownBlock = some q)
  t : w.ownsRow b0 25 6 tv M.length (mmsL M)
  u : w.ownsRow b0 25 6 wv N.length (mmsL N)
  tf : VOff (Live g1 tk hs bd wh) tv
  uf : VOff (Live g1 tk hs bd wh) wv
  tu : ∀ q, tv.ownBlock = some q → wv.ownBlock ≠ some q
  m : ∀ x ∈ M, IsMm w x ∧ MOff (Live g1 tk hs bd wh) x ∧ MOff (fun q => ov.ownBlock = some q) x
  k : ∀ x ∈ N, IsMm w x ∧ MOff (Live g1 tk hs bd wh) x ∧ MOff (fun q => ov.ownBlock = some q) x
section
variable {b0 n1 n2 g1 d : Nat} {ans : Bool} {G G2 : Fs} {nx tk hs bd wh nx2 tk2 hs2 bd2 wh2 : Value} {Lf L2 : List Mm} {o o2 : List UInt8} {ov ov2 : Value} {ah ah2 : Nat} {sh sh2 : Bool} {tv wv tv2 wv2 : Value} {M N K : List Mm} {w w' : World}
theorem FdM.live2 {base : Bs} {F : Fs} (h : FdM base g1 F nx tk hs bd wh Lf w) : ∀ q, Live g1 tk hs bd wh q → q < w.heap.size := fun q y => by
  rcases y with y | y | y | y | y
  · rw [y]; exact h.2.gl.2
  · exact (own_in h.2.rt y).2
  · exact (own_in h.2.rh y).2
  · exact (own_in h.2.rb y).2
  · exact (own_in h.2.rw_ y).2
/-- Other blocks change. -/
theorem FsP.bes {X : Nat → Prop} (h : FsP b0 n1 n2 g1 d ans G nx tk hs bd wh Lf o ov ah sh tv wv M N w) (hb : Bes X w w') (hX : ∀ q, X q → ¬ Live g1 tk hs bd wh q ∧ q ≠ d ∧ ov.ownBlock ≠ some q ∧ tv.ownBlock ≠ some q ∧ wv.ownBlock ≠ some q) (h1 : ∀ x ∈ Lf, MOff X x) (h2 : ∀ x ∈ M, MOff X x) (h3 : ∀ x ∈ N, MOff X x) : FsP b0 n1 n2 g1 d ans G nx tk hs bd wh Lf o ov ah sh tv wv M N w' :=
  ⟨h.f.bes hb (fun q x => (hX q x).1) h1, h.r.bes hb (fun x => (hX d x).2.1 rfl) (fun q e x => (hX q x).2.2.1 e), h.fd, Bes.own hb h.t (fun q e x => (hX q x).2.2.2.1 e), Bes.own hb h.u (fun q e x => (hX q x).2.2.2.2 e), h.tf, h.uf, h.tu, fun x hx => ⟨(h.m x hx).1.bes hb (h2 x hx), (h.m x hx).2⟩, fun x hx => ⟨(h.k x hx).1.bes hb (h3 x hx), (h.k x hx).2⟩⟩
theorem FsP.below (h : FsP b0 n1 n2 g1 d ans G nx tk hs bd wh Lf o ov ah sh tv wv M N w) (hb : Below w.heap.size w w') : FsP b0 n1 n2 g1 d ans G nx tk hs bd wh Lf o ov ah sh tv wv M N w' :=
  h.bes (X := fun _ => False) (Bes.of_below hb) (fun q x => x.elim) (fun x _ => ⟨fun _ _ z => z, fun _ _ z => z⟩) (fun x _ => ⟨fun _ _ z => z, fun _ _ z => z⟩) (fun x _ => ⟨fun _ _ z => z, fun _ _ z => z⟩)
/-- A block that was not there when the round began changes. -/
theorem FsP.fresh {k : Nat} (h : FsP b0 n1 n2 g1 d ans G nx tk hs bd wh Lf o ov ah sh tv wv M N w) (hr : ∀ q, q = d ∨ ov.ownBlock = some q ∨ tv.ownBlock = some q ∨ wv.ownBlock = some q → q < k) (hm : ∀ x, x ∈ M ∨ x ∈ N → ∀ q, x.hs.ownBlock = some q ∨ x.bd.ownBlock = some q → q < k) {ob : Nat} (hk : k ≤ ob) (hl : ¬ Live g1 tk hs bd wh ob) (hL : ∀ x ∈ Lf, MOff (fun q => q = ob) x) (hb : Bes (fun q => q = ob) w w') : FsP b0 n1 n2 g1 d ans G nx tk hs bd wh Lf o ov ah sh tv wv M N w' := by
  have hX : ∀ q, q = ob → ¬ (q = d ∨ ov.ownBlock = some q ∨ tv.ownBlock = some q ∨ wv.ownBlock = some q) := fun q e x => by have := hr q x; omega
  refine h.bes hb (fun q e => ⟨by rw [show q = ob from e]; exact hl, fun x => hX q e (.inl x), fun x => hX q e (.inr (.inl x)), fun x => hX q e (.inr (.inr (.inl x))), fun x => hX q e (.inr (.inr (.inr x)))⟩) hL (fun x hx => ⟨fun q e y => ?_, fun q e y => ?_⟩) (fun x hx => ⟨fun q e y => ?_, fun q e y => ?_⟩)
  · have := hm x (.inl hx) q (.inl e); have y2 : q = ob := y; omega
  · have := hm x (.inl hx) q (.inr e); have y2 : q = ob := y; omega
  · have := hm x (.inr hx) q (.inl e); have y2 : q = ob := y; omega
  · have := hm x (.inr hx) q (.inr e); have y2 : q = ob := y; omega
/-- What lies below the heap's end. -/
theorem FsP.lt (h : FsP b0 n1 n2 g1 d ans G nx tk hs bd wh Lf o ov ah sh tv wv M N w) : (∀ q, q = d ∨ ov.ownBlock = some q ∨ tv.ownBlock = some q ∨ wv.ownBlock = some q → q < w.heap.size) ∧ (∀ x, x ∈ M ∨ x ∈ N → ∀ q, x.hs.ownBlock = some q ∨ x.bd.ownBlock = some q → q < w.heap.size) ∧ (∀ q, Live g1 tk hs bd wh q → q < w.heap.size) :=
  ⟨fun q e => by
    rcases e with e | e | e | e
    · rw [e]; exact h.r.lt
    · exact (h.r.own.lt q e).2
    · exact (own_in h.t e).2
    · exact (own_in h.u e).2, fun x hx q e => by
    rcases hx with hx | hx
    · exact (h.m x hx).1.2.2.1 q e
    · exact (h.k x hx).1.2.2.1 q e, h.f.live2⟩
/-- Behind Feed of the program. -/
theorem FsP.fed {l : List UInt8} {e : Ending} {P : Nat → Prop} (h : FsP b0 n1 n2 g1 d ans G nx tk hs bd wh Lf o ov ah sh tv wv M N w) (hP : ∀ q, P q ↔ q < w.heap.size ∧ ¬ Live g1 tk hs bd wh q) (hv : FedB n1 P g1 G l w e w') :
    ∃ G2 nx2 tk2 hs2 bd2 wh2 L2 ev, e = .returned (.tuple #[wh2, ev]) ∧ FsP b0 n1 n2 g1 d ans G2 nx2 tk2 hs2 bd2 wh2 L2 o ov ah sh tv wv M N w' ∧ (∀ q, P q → ¬ Live g1 tk2 hs2 bd2 wh2 q) ∧ (∀ x ∈ L2, MOff P x) ∧ Bes (Live g1 tk hs bd wh) w w' ∧ Below n1 w w' ∧
      ((feedS G l = .inl G2 ∧ ev = .nilIface ∧ nx2 = stepV G2.next ∧ FI G2 ∧ HZ G2) ∨ ∃ (c : Int) (p N : Nat), feedS G l = .inr (c, p, G2.whole) ∧ ev = .iface 83 (.pointer (some ⟨N, 0, none⟩)) ∧ IBox w' N 85 (FaultA p c) ∧ G2.shut = true) := by
  obtain ⟨G2, nx2, tk2, hs2, bd2, wh2, L2, ev, rfl, hF, hoff, hma, hbl, hd⟩ := hv
  obtain ⟨k1, k2, k3⟩ := h.lt
  have hbs : Bes (Live g1 tk hs bd wh) w w' := hbl.as_bes (fun q e1 e2 => (hP q).2 ⟨e1, e2⟩)
  have hn : ∀ q, q < w.heap.size → ¬ Live g1 tk hs bd wh q → ¬ Live g1 tk2 hs2 bd2 wh2 q := fun q e1 e2 y => hoff q y ((hP q).2 ⟨e1, e2⟩)
  refine ⟨G2, nx2, tk2, hs2, bd2, wh2, L2, ev, rfl, ⟨hF, h.r.bes hbs (fun y => h.fd d y (.inl rfl)) (fun q e y => h.fd q y (.inr e)), fun q y e => ?_, Bes.own hbs h.t (fun q e y => h.tf q e y), Bes.own hbs h.u (fun q e y => h.uf q e y), fun q e => hn q (own_in h.t e).2 (fun y => h.tf q e y), fun q e => hn q (own_in h.u e).2 (fun y => h.uf q e y), h.tu, fun x hx => ?_, fun x hx => ?_⟩, fun q e y => hoff q y e, hma, hbs, hbl.b, hd⟩
  · have hq : q < w.heap.size := e.elim (fun e => k1 q (.inl e)) (fun e => k1 q (.inr (.inl e)))
    exact hn q hq (fun y2 => h.fd q y2 e) y
  · obtain ⟨h1, h2, h3⟩ := h.m x hx
    exact ⟨h1.bes hbs h2, ⟨fun q e => hn q (h1.2.2.1 q (.inl e)) (h2.1 q e), fun q e => hn q (h1.2.2.1 q (.inr e)) (h2.2 q e)⟩, h3⟩
  · obtain ⟨h1, h2, h3⟩ := h.k x hx
    exact ⟨h1.bes hbs h2, ⟨fun q e => hn q (h1.2.2.1 q (.inl e)) (h2.1 q e), fun q e => hn q (h1.2.2.1 q (.inr e)) (h2.2 q e)⟩, h3⟩
theorem row_ne {T T2 : TypeId} {size m : Nat} {v v2 : Value} {base : Nat} {xs : List Value} (h : w.ownsRow base T size v m xs) (k : TyB w v2 T2) (hT : T ≠ T2) : ∀ q, v.ownBlock = some q → v2.ownBlock ≠ some q := fun q e e2 => by
  obtain ⟨a1, f1, h1⟩ := own_ty h q e
  obtain ⟨a2, f2, h2⟩ := k q e2
  rw [h2] at h1
  injection h1 with h1
  injection h1 with _ h1 _
  exact hT h1.symm
/-- Behind Feed of the document's. -/
theorem FsP.rfed {p : List UInt8} {e : Ending} (h : FsP b0 n1 n2 g1 d ans G nx tk hs bd wh Lf o ov ah sh tv wv M N w) (hL : ∀ x ∈ Lf, MOff (fun q => q = d ∨ ov.ownBlock = some q) x) (hv : RfV n2 d ans o p ov ah w e w') :
    ∃ o2 ov2 outv ah2 sh2 Ld x pos, e = .returned (.tuple #[outv, .int .i64 x, .int .i64 ((pos : Nat) : Int)]) ∧ FsP b0 n1 n2 g1 d ans G nx tk hs bd wh Lf o2 ov2 ah2 sh2 tv wv M N w' ∧ w'.ownsRow w.heap.size 25 6 outv Ld.length (mmsL Ld) ∧ (∀ x ∈ Ld, IsMm w' x ∧ MOff (Live g1 tk hs bd wh) x ∧ MOff (fun q => ov2.ownBlock = some q) x) ∧ (∀ x ∈ Lf, IsMm w' x ∧ MOff (Live g1 tk hs bd wh) x ∧ MOff (fun q => ov2.ownBlock = some q) x) ∧ (∀ q, outv.ownBlock = some q → tv.ownBlock ≠ some q ∧ wv.ownBlock ≠ some q) ∧ Ld.length ≤ o.length + p.length ∧ (n2 ≤ w.heap.size → Below n2 w w') ∧ w.heap.size ≤ w'.heap.size ∧ Bes (fun q => q = d ∨ ov.ownBlock = some q) w w' ∧
      ((x = 0 ∧ pos = 0 ∧ sh2 = false ∧ ∃ F, runS (newA ans ah) (o ++ p) = .inl F ∧ F.whole = Ld.map (·.m) ∧ runS (newA ans ah2) o2 = .inl { F with whole := [] } ∧ ah2 + o2.length = ah + (o.length + p.length)) ∨ (x ≠ 0 ∧ sh2 = true ∧ runS (newA ans ah) (o ++ p) = .inr (x, pos, Ld.map (·.m)))) := by
  obtain ⟨o2, ov2, outv, ah2, sh2, Ld, x, pos, rfl, hM, hout, hms, hov, hbs, hlen, hd⟩ := hv
  obtain ⟨k1, k2, k3⟩ := h.lt
  have hfeed : ∃ arr fz, w.heap[d]? = some (.cells arr 100 fz) := ⟨_, _, h.r.box⟩
  have hty : ∀ x, IsMm w x → MOff (fun q => q = d) x := fun x hx => mm_off hx (fun q e => by cases (show q = d from e); exact hfeed) (by decide) (by decide)
  have hmk : ∀ x, IsMm w x → MOff (fun q => ov.ownBlock = some q) x → MOff (fun q => q = d ∨ ov.ownBlock = some q) x := fun x hx ho => ⟨fun q e y => y.elim (fun z => (hty x hx).1 q e z) (fun z => ho.1 q e z), fun q e y => y.elim (fun z => (hty x hx).2 q e z) (fun z => ho.2 q e z)⟩
  have hov2 : ∀ x, IsMm w x → MOff (fun q => ov.ownBlock = some q) x → MOff (fun q => ov2.ownBlock = some q) x := fun x hx ho => ⟨fun q e y => ((hov q y).1).elim (fun z => ho.1 q e z) (fun z => by have := hx.2.2.1 q (.inl e); omega), fun q e y => ((hov q y).1).elim (fun z => ho.2 q e z) (fun z => by have := hx.2.2.1 q (.inr e); omega)⟩
  have hrow : ∀ {v : Value} {b m : Nat} {xs : List Value}, w.ownsRow b 25 6 v m xs → ∀ q, v.ownBlock = some q → ¬ (q = d ∨ ov.ownBlock = some q) := fun hr q e y => y.elim (fun z => by
    subst z
    obtain ⟨a1, f1, h1⟩ := hfeed
    exact ty_off (own_ty hr) h1 (by decide) e) (fun z => row_ne hr h.r.own.ty (by decide) q e z)
  refine ⟨o2, ov2, outv, ah2, sh2, Ld, x, pos, rfl, ⟨h.f.bes hbs (fun q y z => h.fd q z y) hL, hM, fun q y e => ?_, Bes.own hbs h.t (hrow h.t), Bes.own hbs h.u (hrow h.u), h.tf, h.uf, h.tu, fun x hx => ?_, fun x hx => ?_⟩, hout, fun x hx => ?_, fun x hx => ?_, fun q e => ⟨fun e2 => ?_, fun e2 => ?_⟩, hlen, fun hn => hbs.below (fun q y => y.elim (fun z => by rw [z]; exact h.r.gn) (fun z => (h.r.own.lt q z).1)) hn, hbs.size, hbs, hd⟩
  · rcases e with e | e
    · exact h.fd q y (.inl e)
    · rcases (hov q e).1 with z | z
      · exact h.fd q y (.inr z)
      · have := k3 q y; omega
  · obtain ⟨h1, h2, h3⟩ := h.m x hx
    exact ⟨h1.bes hbs (hmk x h1 h3), h2, hov2 x h1 h3⟩
  · obtain ⟨h1, h2, h3⟩ := h.k x hx
    exact ⟨h1.bes hbs (hmk x h1 h3), h2, hov2 x h1 h3⟩
  · obtain ⟨h1, h2⟩ := hms x hx
    exact ⟨h1, ⟨fun q e y => by have := h2 q (.inl e); have := k3 q y; omega, fun q e y => by have := h2 q (.inr e); have := k3 q y; omega⟩, ⟨fun q e y => ((hov q y).2 x hx).1 e, fun q e y => ((hov q y).2 x hx).2 e⟩⟩
  · have h1 := (h.f.2.ms x hx).1
    have h3 := hL x hx
    exact ⟨h1.bes hbs h3, (h.f.2.ms x hx).2, hov2 x h1 ⟨fun q e y => h3.1 q e (.inr y), fun q e y => h3.2 q e (.inr y)⟩⟩
  · have := (own_in hout e).1; have := (own_in h.t e2).2; omega
  · have := (own_in hout e).1; have := (own_in h.u e2).2; omega
/-- What came is put behind what had come: the program's. -/
theorem FsP.told (h : FsP b0 n1 n2 g1 d ans G nx tk hs bd wh Lf o ov ah sh tv wv M N w) (hK : ∀ x ∈ K, IsMm w x ∧ MOff (Live g1 tk hs bd wh) x ∧ MOff (fun q => ov.ownBlock = some q) x) (ho : w'.ownsRow b0 25 6 tv2 (M ++ K).length (mmsL (M ++ K))) (hb : Bes (fun q => tv.ownBlock = some q) w w') (hat : tv2.ownBlock = tv.ownBlock ∨ tv2.ownBlock = some w.heap.size) : FsP b0 n1 n2 g1 d ans G nx tk hs bd wh Lf o ov ah sh tv2 wv (M ++ K) N w' := by
  obtain ⟨k1, k2, k3⟩ := h.lt
  have hty : ∀ q, tv.ownBlock = some q → ∃ a f, w.heap[q]? = some (.cells a 25 f) := own_ty h.t
  have hmo : ∀ x, IsMm w x → MOff (fun q => tv.ownBlock = some q) x := fun x hx => mm_off hx hty (by decide) (by decide)
  refine ⟨h.f.bes hb (fun q e y => h.tf q e y) (fun x hx => hmo x (h.f.2.ms x hx).1), h.r.bes hb (fun e => ty_off (own_ty h.t) h.r.box (by decide) e) (fun q e y => row_ne h.t h.r.own.ty (by decide) q y e), h.fd, ho, Bes.own hb h.u (fun q e y => h.tu q y e), fun q e y => ?_, h.uf, fun q e e2 => ?_, fun x hx => ?_, fun x hx => ⟨(h.k x hx).1.bes hb (hmo x (h.k x hx).1), (h.k x hx).2⟩⟩
  · rcases hat with z | z
    · exact h.tf q (z ▸ e) y
    · rw [z] at e; injection e with e; have := k3 q y; omega
  · rcases hat with z | z
    · exact h.tu q (z ▸ e) e2
    · rw [z] at e; injection e with e; have := (own_in h.u e2).2; omega
  · rcases List.mem_append.1 hx with hx | hx
    · exact ⟨(h.m x hx).1.bes hb (hmo x (h.m x hx).1), (h.m x hx).2⟩
    · exact ⟨(hK x hx).1.bes hb (hmo x (hK x hx).1), (hK x hx).2⟩
/-- .. the document's. -/
theorem FsP.want (h : FsP b0 n1 n2 g1 d ans G nx tk hs bd wh Lf o ov ah sh tv wv M N w) (hK : ∀ x ∈ K, IsMm w x ∧ MOff (Live g1 tk hs bd wh) x ∧ MOff (fun q => ov.ownBlock = some q) x) (ho : w'.ownsRow b0 25 6 wv2 (N ++ K).length (mmsL (N ++ K))) (hb : Bes (fun q => wv.ownBlock = some q) w w') (hat : wv2.ownBlock = wv.ownBlock ∨ wv2.ownBlock = some w.heap.size) : FsP b0 n1 n2 g1 d ans G nx tk hs bd wh Lf o ov ah sh tv wv2 M (N ++ K) w' := by
  obtain ⟨k1, k2, k3⟩ := h.lt
  have hty : ∀ q, wv.ownBlock = some q → ∃ a f, w.heap[q]? = some (.cells a 25 f) := own_ty h.u
  have hmo : ∀ x, IsMm w x → MOff (fun q => wv.ownBlock = some q) x := fun x hx => mm_off hx hty (by decide) (by decide)
  refine ⟨h.f.bes hb (fun q e y => h.uf q e y) (fun x hx => hmo x (h.f.2.ms x hx).1), h.r.bes hb (fun e => ty_off (own_ty h.u) h.r.box (by decide) e) (fun q e y => row_ne h.u h.r.own.ty (by decide) q y e), h.fd, Bes.own hb h.t (fun q e y => h.tu q e y), ho, h.tf, fun q e y => ?_, fun q e e2 => ?_, fun x hx => ⟨(h.m x hx).1.bes hb (hmo x (h.m x hx).1), (h.m x hx).2⟩, fun x hx => ?_⟩
  · rcases hat with z | z
    · exact h.uf q (z ▸ e) y
    · rw [z] at e; injection e with e; have := k3 q y; omega
  · rcases hat with z | z
    · exact h.tu q e (z ▸ e2)
    · rw [z] at e2; injection e2 with e2; have := (own_in h.t e).2; omega
  · rcases List.mem_append.1 hx with hx | hx
    · exact ⟨(h.k x hx).1.bes hb (hmo x (h.k x hx).1), (h.k x hx).2⟩
    · exact ⟨(hK x hx).1.bes hb (hmo x (hK x hx).1), (hK x hx).2⟩
/-- The row of the call's own behind the call. -/
theorem own_keep {b oc : Nat} {oA : Option Addr} {r : List UInt8} {Lv Lv2 : Nat → Prop} {w5 w6 : World} (ho : OwnO w5 b (.slice oA r.length oc) r) (hlt : ∀ q, Lv q → q < b) (hlv : ∀ q, (q < w5.heap.size ∧ ¬ Lv q) → ¬ Lv2 q) (hma : ∀ x ∈ L2, MOff (fun q => q < w5.heap.size ∧ ¬ Lv q) x) (hbs : Bes Lv w5 w6) :
    ∀ ob oo, oA = some ⟨ob, oo, none⟩ → b ≤ ob ∧ ¬ Lv2 ob ∧ (∀ x ∈ L2, MOff (fun q => q = ob) x) ∧ (0 < r.length → ∃ cur, IBox w6 ob 5 cur ∧ oo + r.length ≤ cur.size) := by
  rintro ob oo rfl
  have h1 := ho.lt ob rfl
  have hp : ob < w5.heap.size ∧ ¬ Lv ob := ⟨h1.2, fun y => by have := hlt ob y; omega⟩
  refine ⟨h1.1, hlv ob hp, fun x hx => ⟨fun q e y => ?_, fun q e y => ?_⟩, fun hr => ?_⟩
  · have y2 : q = ob := y
    subst y2
    exact (hma x hx).1 q e hp
  · have y2 : q = ob := y
    subst y2
    exact (hma x hx).2 q e hp
  · rcases ho with ⟨e, _⟩ | ⟨g, off, cap, cur, hv, hb, hI, hn, hcm, hof, _⟩
    · cases e
    · injection hv with e1 e2 e3
      injection e1 with e1
      injection e1 with e1 e4
      subst e1 e4
      exact ⟨cur, Bes.box hbs hI hp.2, by omega⟩
theorem ld_off (h : FsP b0 n1 n2 g1 d ans G nx tk hs bd wh Lf o ov ah sh tv wv M N w) (hma : ∀ x ∈ L2, MOff (fun q => q < w.heap.size ∧ ¬ Live g1 tk hs bd wh q) x) : ∀ x ∈ L2, MOff (fun q => q = d ∨ ov.ownBlock = some q) x := fun x hx =>
  ⟨fun q e y => (hma x hx).1 q e ⟨h.lt.1 q (y.elim .inl (fun z => .inr (.inl z))), fun z => h.fd q z y⟩, fun q e y => (hma x hx).2 q e ⟨h.lt.1 q (y.elim .inl (fun z => .inr (.inl z))), fun z => h.fd q z y⟩⟩
/-- A fault stays. -/
theorem flt_keep {NF : Nat} {arr : Array Value} (h : FsP b0 n1 n2 g1 d ans G nx tk hs bd wh Lf o ov ah sh tv wv M N w) (hI : IBox w NF 85 arr) (hb : Bes (fun q => q = d ∨ ov.ownBlock = some q) w w') : IBox w' NF 85 arr := by
  refine Bes.box hb hI (fun e => ?_)
  have h2 : w.heap[NF]? = some (.cells arr 85 (0, 0)) := hI
  rcases e with e | e
  · have h1 : w.heap[d]? = some (.cells _ 100 (0, 0)) := h.r.box
    rw [← e, h2] at h1
    injection h1 with h1
    injection h1 with _ h1 _
    exact absurd h1 (by decide)
  · exact ty_off h.r.own.ty h2 (by decide) e
theorem flt_row {NF ob : Nat} {arr cur : Array Value} (hI : IBox w NF 85 arr) (hc : IBox w ob 5 cur) (hb : Bes (fun q => q = ob) w w') : IBox w' NF 85 arr := by
  refine Bes.box hb hI (fun e => ?_)
  have e2 : NF = ob := e
  subst e2
  have h2 : w.heap[NF]? = some (.cells arr 85 (0, 0)) := hI
  have h1 : w.heap[NF]? = some (.cells cur 5 (0, 0)) := hc
  rw [h2] at h1
  injection h1 with h1
  injection h1 with _ h1 _
  exact absurd h1 (by decide)
theorem mm_sl : (∀ x ∈ K, IsMm w x) → ∀ x ∈ K, (∃ A n c, x.hs = .slice A n c) ∧ ∃ A n c, x.bd = .slice A n c := fun h x hx => by
  obtain ⟨A, c, e1, _⟩ := (h x hx).1
  obtain ⟨A2, c2, e2, _⟩ := (h x hx).2.1
  exact ⟨⟨_, _, _, e1⟩, ⟨_, _, _, e2⟩⟩
/-- Behind both calls: what each has given. -/
structure FsQ (b0 n1 n2 g1 d : Nat) (ans : Bool) (G : Fs) (nx tk hs bd wh : Value) (Lf : List Mm) (o : List UInt8) (ov : Value) (ah : Nat) (sh : Bool) (tv wv : Value) (M N : List Mm) (c1 c2 : Nat) (mv : Value) (K : List Mm) (outv : Value) (Ld : List Mm) (w : World) : Prop where
  p : FsP b0 n1 n2 g1 d ans G nx tk hs bd wh Lf o ov ah sh tv wv M N w
  mr : w.ownsRow c1 25 6 mv K.length (mmsL K)
  kk : ∀ x ∈ K, IsMm w x ∧ MOff (Live g1 tk hs bd wh) x ∧ MOff (fun q => ov.ownBlock = some q) x
  orow : w.ownsRow c2 25 6 outv Ld.length (mmsL Ld)
  ld : ∀ x ∈ Ld, IsMm w x ∧ MOff (Live g1 tk hs bd wh) x ∧ MOff (fun q => ov.ownBlock = some q) x
  on : ∀ q, outv.ownBlock = some q → tv.ownBlock ≠ some q ∧ wv.ownBlock ≠ some q
variable {c1 c2 : Nat} {mv outv : Value} {Ld : List Mm}
theorem FsQ.below (h : FsQ b0 n1 n2 g1 d ans G nx tk hs bd wh Lf o ov ah sh tv wv M N c1 c2 mv K outv Ld w) (hb : Below w.heap.size w w') : FsQ b0 n1 n2 g1 d ans G nx tk hs bd wh Lf o ov ah sh tv wv M N c1 c2 mv K outv Ld w' :=
  ⟨h.p.below hb, own_below h.mr hb, fun x hx => ⟨(h.kk x hx).1.bes (X := fun _ => False) (Bes.of_below hb) ⟨fun _ _ z => z, fun _ _ z => z⟩, (h.kk x hx).2⟩, own_below h.orow hb, fun x hx => ⟨(h.ld x hx).1.bes (X := fun _ => False) (Bes.of_below hb) ⟨fun _ _ z => z, fun _ _ z => z⟩, (h.ld x hx).2⟩, h.on⟩
theorem FsQ.told (h : FsQ b0 n1 n2 g1 d ans G nx tk hs bd wh Lf o ov ah sh tv wv M N c1 c2 mv K outv Ld w) (ho : w'.ownsRow b0 25 6 tv2 (M ++ K).length (mmsL (M ++ K))) (hb : Bes (fun q => tv.ownBlock = some q) w w') (hat : tv2.ownBlock = tv.ownBlock ∨ tv2.ownBlock = some w.heap.size) : FsP b0 n1 n2 g1 d ans G nx tk hs bd wh Lf o ov ah sh tv2 wv (M ++ K) N w' ∧ w'.ownsRow c2 25 6 outv Ld.length (mmsL Ld) ∧ ∀ x ∈ Ld, IsMm w' x ∧ MOff (Live g1 tk hs bd wh) x ∧ MOff (fun q => ov.ownBlock = some q) x := by
  have hty : ∀ q, tv.ownBlock = some q → ∃ a f, w.heap[q]? = some (.cells a 25 f) := own_ty h.p.t
  exact ⟨h.p.told h.kk ho hb hat, Bes.own hb h.orow (fun q e y => (h.on q e).1 y), fun x hx => ⟨(h.ld x hx).1.bes hb (mm_off (h.ld x hx).1 hty (by decide) (by decide)), (h.ld x hx).2⟩⟩
end
end Go.Proofs.YtbehakabglegjaaGreatDoor
