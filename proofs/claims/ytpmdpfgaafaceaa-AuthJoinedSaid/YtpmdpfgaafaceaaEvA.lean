/- Events in memory: what they read as; the first event that stands for a pair. -/
import Derived.Test.YtpmdpfgaafaceaaAuthB
namespace Go.Proofs.Ytpmdpfgaafaceaa
open Go.RowKit
set_option linter.unusedVariables false

/-- An event as its cells say it, with its texts and values. -/
structure Ev where
  id : ByteArray
  ty : ByteArray
  room : ByteArray
  sender : ByteArray
  hasKey : Bool
  key : ByteArray
  PA : Option Addr
  Pn : Nat
  Pc : Nat
  prev : List ByteArray
  AA : Option Addr
  An : Nat
  Ac : Nat
  auth : List ByteArray
  depth : Int
  stamp : Int
  content : JV
  raw : JV
def Ev.cells (e : Ev) : Array Value := #[.string e.id, .string e.ty, .string e.room, .string e.sender, .bool e.hasKey, .string e.key, .slice e.PA e.Pn e.Pc, .slice e.AA e.An e.Ac, .int .i64 e.depth, .int .i64 e.stamp, .int .i64 e.content.v.kind, .bool e.content.v.b, .int .i64 e.content.v.i, .string e.content.v.t, .slice e.content.v.LA e.content.v.Ln e.content.v.Lc, .slice e.content.v.FA e.content.v.Fn e.content.v.Fc, .int .i64 e.raw.v.kind, .bool e.raw.v.b, .int .i64 e.raw.v.i, .string e.raw.v.t, .slice e.raw.v.LA e.raw.v.Ln e.raw.v.Lc, .slice e.raw.v.FA e.raw.v.Fn e.raw.v.Fc]
def Ev.zero : Ev := ⟨⟨#[]⟩, ⟨#[]⟩, ⟨#[]⟩, ⟨#[]⟩, false, ⟨#[]⟩, none, 0, 0, [], none, 0, 0, [], 0, 0, JV.zero, JV.zero⟩

structure IsEv (w : World) (e : Ev) : Prop where
  id : e.id.size ≤ reach
  ty : e.ty.size ≤ reach
  room : e.room.size ≤ reach
  sender : e.sender.size ≤ reach
  key : e.key.size ≤ reach
  prev : e.Pn = e.prev.length
  prevs : NamesAt w e.PA 1 0 e.prev
  prevb : e.Pn * 16 ≤ reach
  auth : e.An = e.auth.length
  auths : NamesAt w e.AA 1 0 e.auth
  authb : e.An * 16 ≤ reach
  depth : I64 e.depth
  stamp : I64 e.stamp
  content : IsJV w e.content
  raw : IsJV w e.raw

theorem ev_zero (w : World) : IsEv w Ev.zero := by
  refine ⟨by decide, by decide, by decide, by decide, by decide, rfl, ?_, by decide, rfl, ?_, by decide, ⟨by decide, by decide⟩, ⟨by decide, by decide⟩, jv_zero w, jv_zero w⟩
  · show NamesAt w none 1 0 []
    unfold NamesAt; exact True.intro
  · show NamesAt w none 1 0 []
    unfold NamesAt; exact True.intro
theorem IsEv.below {w w' : World} (hb : Below w.heap.size w w') {e : Ev} (h : IsEv w e) : IsEv w' e :=
  ⟨h.id, h.ty, h.room, h.sender, h.key, h.prev, h.prevs.below hb, h.prevb, h.auth, h.auths.below hb, h.authb, h.depth, h.stamp, h.content.below hb, h.raw.below hb⟩

/-- A row of events. -/
def IsEvs (w : World) (A : Option Addr) : Nat → List Ev → Prop
  | _, [] => True
  | k, x :: r => (∃ b off, A = some ⟨b, off, none⟩ ∧ w.rangeAt b (off + k * 22) x.cells.toList) ∧ IsEv w x ∧ IsEvs w A (k + 1) r
theorem IsEvs.get {w : World} {A : Option Addr} : ∀ {l : List Ev} {k : Nat}, IsEvs w A k l → ∀ {j : Nat} {x : Ev}, l[j]? = some x →
    (∃ b off, A = some ⟨b, off, none⟩ ∧ w.rangeAt b (off + (k + j) * 22) x.cells.toList) ∧ IsEv w x
  | [], _, _, j, n, hj => by simp at hj
  | m :: r, k, h, 0, n, hj => by
    unfold IsEvs at h
    simp only [List.getElem?_cons_zero, Option.some.injEq] at hj
    subst hj
    exact ⟨h.1, h.2.1⟩
  | m :: r, k, h, j + 1, n, hj => by
    unfold IsEvs at h
    simp only [List.getElem?_cons_succ] at hj
    have := h.2.2.get hj
    rw [show k + 1 + j = k + (j + 1) from by omega] at this
    exact this
theorem IsEvs.below {w w' : World} (hb : Below w.heap.size w w') {A : Option Addr} : ∀ {l : List Ev} {k : Nat}, IsEvs w A k l → IsEvs w' A k l
  | [], _, h => by unfold IsEvs; exact True.intro
  | x :: r, k, h => by
    unfold IsEvs at h ⊢
    obtain ⟨⟨b, off, e, hr⟩, h2, h3⟩ := h
    exact ⟨⟨b, off, e, range_below hb hr⟩, h2.below hb, h3.below hb⟩

/-- The cells of an event. -/
structure EvCells (w : World) (bl o : Nat) (e : Ev) : Prop where
  c0 : w.cell? ⟨bl, o, none⟩ = some (.string e.id)
  c1 : w.cell? ⟨bl, o + 1, none⟩ = some (.string e.ty)
  c2 : w.cell? ⟨bl, o + 2, none⟩ = some (.string e.room)
  c3 : w.cell? ⟨bl, o + 3, none⟩ = some (.string e.sender)
  c4 : w.cell? ⟨bl, o + 4, none⟩ = some (.bool e.hasKey)
  c5 : w.cell? ⟨bl, o + 5, none⟩ = some (.string e.key)
  c6 : w.cell? ⟨bl, o + 6, none⟩ = some (.slice e.PA e.Pn e.Pc)
  c7 : w.cell? ⟨bl, o + 7, none⟩ = some (.slice e.AA e.An e.Ac)
  c8 : w.cell? ⟨bl, o + 8, none⟩ = some (.int .i64 e.depth)
  c9 : w.cell? ⟨bl, o + 9, none⟩ = some (.int .i64 e.stamp)
  c10 : w.cell? ⟨bl, o + 10, none⟩ = some (.int .i64 e.content.v.kind)
  c11 : w.cell? ⟨bl, o + 11, none⟩ = some (.bool e.content.v.b)
  c12 : w.cell? ⟨bl, o + 12, none⟩ = some (.int .i64 e.content.v.i)
  c13 : w.cell? ⟨bl, o + 13, none⟩ = some (.string e.content.v.t)
  c14 : w.cell? ⟨bl, o + 14, none⟩ = some (.slice e.content.v.LA e.content.v.Ln e.content.v.Lc)
  c15 : w.cell? ⟨bl, o + 15, none⟩ = some (.slice e.content.v.FA e.content.v.Fn e.content.v.Fc)
  c16 : w.cell? ⟨bl, o + 16, none⟩ = some (.int .i64 e.raw.v.kind)
  c17 : w.cell? ⟨bl, o + 17, none⟩ = some (.bool e.raw.v.b)
  c18 : w.cell? ⟨bl, o + 18, none⟩ = some (.int .i64 e.raw.v.i)
  c19 : w.cell? ⟨bl, o + 19, none⟩ = some (.string e.raw.v.t)
  c20 : w.cell? ⟨bl, o + 20, none⟩ = some (.slice e.raw.v.LA e.raw.v.Ln e.raw.v.Lc)
  c21 : w.cell? ⟨bl, o + 21, none⟩ = some (.slice e.raw.v.FA e.raw.v.Fn e.raw.v.Fc)
theorem EvCells.below {w w' : World} (hb : Below w.heap.size w w') {bl o : Nat} {e : Ev} (h : EvCells w bl o e) : EvCells w' bl o e :=
  ⟨cell_below hb h.c0, cell_below hb h.c1, cell_below hb h.c2, cell_below hb h.c3, cell_below hb h.c4, cell_below hb h.c5, cell_below hb h.c6, cell_below hb h.c7, cell_below hb h.c8, cell_below hb h.c9, cell_below hb h.c10, cell_below hb h.c11, cell_below hb h.c12, cell_below hb h.c13, cell_below hb h.c14, cell_below hb h.c15, cell_below hb h.c16, cell_below hb h.c17, cell_below hb h.c18, cell_below hb h.c19, cell_below hb h.c20, cell_below hb h.c21⟩
theorem ev_cells {w : World} {A : Option Addr} {l : List Ev} (h : IsEvs w A 0 l) {k : Nat} {x : Ev} (hx : l[k]? = some x) : ∃ bl off, A = some ⟨bl, off, none⟩ ∧ EvCells w bl (off + k * 22) x := by
  obtain ⟨⟨b, off, e, hr⟩, _⟩ := h.get hx
  rw [Nat.zero_add] at hr
  exact ⟨b, off, e, hr 0 _ rfl, hr 1 _ rfl, hr 2 _ rfl, hr 3 _ rfl, hr 4 _ rfl, hr 5 _ rfl, hr 6 _ rfl, hr 7 _ rfl, hr 8 _ rfl, hr 9 _ rfl, hr 10 _ rfl, hr 11 _ rfl, hr 12 _ rfl, hr 13 _ rfl, hr 14 _ rfl, hr 15 _ rfl, hr 16 _ rfl, hr 17 _ rfl, hr 18 _ rfl, hr 19 _ rfl, hr 20 _ rfl, hr 21 _ rfl⟩

/-- The first event that stands for a pair. -/
def isFor (e : Ev) (kind key : ByteArray) : Bool := e.hasKey && (e.ty.toList == kind.toList) && (e.key.toList == key.toList)
def standsS : List Ev → ByteArray → ByteArray → Option Ev
  | [], _, _ => none
  | e :: r, kind, key => if isFor e kind key = true then some e else standsS r kind key
def standsD (l : List Ev) (kind key : ByteArray) : Ev := (standsS l kind key).getD Ev.zero
theorem stands_mem : ∀ {l : List Ev} {kind key : ByteArray} {x : Ev}, standsS l kind key = some x → ∃ i : Nat, l[i]? = some x
  | [], _, _, _, h => by simp [standsS] at h
  | e :: r, kind, key, x, h => by
    unfold standsS at h
    split at h
    · exact ⟨0, by simpa using h⟩
    · obtain ⟨i, hi⟩ := stands_mem h
      exact ⟨i + 1, by simpa using hi⟩
theorem stands_is {w : World} {A : Option Addr} {l : List Ev} (h : IsEvs w A 0 l) (kind key : ByteArray) : IsEv w (standsD l kind key) := by
  unfold standsD
  cases hf : standsS l kind key with
  | none => exact ev_zero w
  | some x =>
    obtain ⟨i, hi⟩ := stands_mem hf
    exact (h.get hi).2
theorem stands_drop {l : List Ev} {kind key : ByteArray} {x : Ev} {k : Nat} (h : l[k]? = some x) :
    standsS (l.drop k) kind key = if isFor x kind key = true then some x else standsS (l.drop (k + 1)) kind key := by
  obtain ⟨l1, e1⟩ := List.getElem?_eq_some_iff.1 h
  rw [List.drop_eq_getElem_cons l1, e1]
  rfl

theorem info_event : (Try.prog.info? 32).map (·.size) = some 22 := by kernel_rfl
end Go.Proofs.Ytpmdpfgaafaceaa
