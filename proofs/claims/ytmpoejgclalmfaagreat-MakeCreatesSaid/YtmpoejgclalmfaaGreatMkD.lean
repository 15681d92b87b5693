/- Layer 19: rows of fields that the call itself lays: from ownsRow to a value of JSON. -/
import Derived.Test.YtmpoejgclalmfaaGreatMkC
namespace Go.Proofs.YtmpoejgclalmfaaGreat
open Go.RowKit
set_option linter.unusedVariables false
set_option linter.unusedSimpArgs false

theorem mi0 : I64 0 := by unfold I64; decide
theorem mi5 : I64 5 := by unfold I64; decide
theorem mz80 : 0 * 80 ≤ reach := by decide
theorem mze : (⟨#[]⟩ : ByteArray).size ≤ reach := by decide
def fldA (p : ByteArray × JV) : Array Value := #[.string p.1, .int .i64 p.2.v.kind, .bool p.2.v.b, .int .i64 p.2.v.i, .string p.2.v.t, .slice p.2.v.LA p.2.v.Ln p.2.v.Lc, .slice p.2.v.FA p.2.v.Fn p.2.v.Fc]
def fldL (L : List (ByteArray × JV)) : List Value := L.flatMap fun p => (fldA p).toList
theorem fldL_app (L M : List (ByteArray × JV)) : fldL (L ++ M) = fldL L ++ fldL M := by unfold fldL; exact List.flatMap_append
theorem fldL_one (p : ByteArray × JV) : fldL [p] = (fldA p).toList := by unfold fldL; simp
theorem fldL_get : ∀ {L : List (ByteArray × JV)} {j : Nat} {p : ByteArray × JV}, L[j]? = some p → ∀ (i : Nat) (v : Value), (fldA p).toList[i]? = some v → (fldL L)[j * 7 + i]? = some v
  | [], j, p, h => by simp at h
  | q :: r, 0, p, h => by
    intro i v hv
    have : q = p := by simpa using h
    subst this
    unfold fldL
    rw [List.flatMap_cons, Nat.zero_mul, Nat.zero_add, List.getElem?_append_left (List.getElem?_eq_some_iff.1 hv).1]
    exact hv
  | q :: r, j + 1, p, h => by
    intro i v hv
    have h' : r[j]? = some p := by simpa using h
    have := fldL_get h' i v hv
    unfold fldL at *
    rw [List.flatMap_cons, List.getElem?_append_right (by simp [fldA]; omega)]
    rw [show (j + 1) * 7 + i - (fldA q).toList.length = j * 7 + i from by simp [fldA]; omega]
    exact this
theorem namesAt_of {w : World} {A : Option Addr} {step : Nat} : ∀ (l : List ByteArray) (k : Nat), (∀ i n, l[i]? = some n → (∃ b off, A = some ⟨b, off, none⟩ ∧ w.cell? ⟨b, off + (k + i) * step, none⟩ = some (.string n)) ∧ n.size ≤ reach) → NamesAt w A step k l
  | [], k, h => by unfold NamesAt; exact True.intro
  | x :: r, k, h => by
    unfold NamesAt
    have h0 := h 0 x rfl
    exact ⟨h0.1, h0.2, namesAt_of r (k + 1) (fun i j hj => by
      have := h (i + 1) j (by simpa using hj)
      rwa [show k + (i + 1) = k + 1 + i from by omega] at this)⟩
theorem isRow_of {w : World} {A : Option Addr} {step shift : Nat} : ∀ (l : List JV) (k : Nat), (∀ i j, l[i]? = some j → (∃ b off, A = some ⟨b, off, none⟩ ∧ w.rangeAt b (off + (k + i) * step + shift) j.cells.toList) ∧ IsJV w j) → IsRow w A step shift k l
  | [], k, h => by unfold IsRow; exact True.intro
  | x :: r, k, h => by
    unfold IsRow
    have h0 := h 0 x rfl
    exact ⟨h0.1, h0.2, isRow_of r (k + 1) (fun i j hj => by
      have := h (i + 1) j (by simpa using hj)
      rwa [show k + (i + 1) = k + 1 + i from by omega] at this)⟩
/-- An object of these fields, whose row lies at A. -/
def objJ (A : Option Addr) (c : Nat) (L : List (ByteArray × JV)) : JV := .mk ⟨5, false, 0, ⟨#[]⟩, none, 0, 0, A, L.length, c⟩ [] (L.map (·.1)) (L.map (·.2))
theorem objJ_cells (A : Option Addr) (c : Nat) (L : List (ByteArray × JV)) : (objJ A c L).cells = #[.int .i64 5, .bool false, .int .i64 0, .string ⟨#[]⟩, .slice none 0 0, .slice A L.length c] := rfl
theorem own_obj {w : World} {base : Nat} {e : TypeId} {v : Value} {L : List (ByteArray × JV)} {n : Nat} (h : w.ownsRow base e 7 v n (fldL L)) (hn : n = L.length) (hs : ∀ p ∈ L, p.1.size ≤ reach ∧ IsJV w p.2) (hb : L.length * 96 ≤ reach) :
    ∃ A c, v = .slice A L.length c ∧ IsJV w (objJ A c L) := by
  subst hn
  have fin : ∀ A c, (∀ j p, L[j]? = some p → ∃ b off, A = some ⟨b, off, none⟩ ∧ w.rangeAt b (off + j * 7) (fldA p).toList) → IsJV w (objJ A c L) := fun A c hr => by
    unfold objJ IsJV
    refine ⟨⟨mi5, mi0, mze, rfl, by simp, by simp, mz80, hb, ?_⟩, ?_, ?_⟩
    · refine namesAt_of _ 0 fun i nm hi => ?_
      rw [List.getElem?_map] at hi
      obtain ⟨p, hp, rfl⟩ := Option.map_eq_some_iff.1 hi
      obtain ⟨b, off, hA, hc⟩ := hr i p hp
      refine ⟨⟨b, off, hA, ?_⟩, (hs p (List.mem_of_getElem? hp)).1⟩
      rw [Nat.zero_add]
      simpa using hc 0 _ rfl
    · unfold IsRow; exact True.intro
    · refine isRow_of _ 0 fun i j hi => ?_
      rw [List.getElem?_map] at hi
      obtain ⟨p, hp, rfl⟩ := Option.map_eq_some_iff.1 hi
      obtain ⟨b, off, hA, hc⟩ := hr i p hp
      refine ⟨⟨b, off, hA, fun k u hu => ?_⟩, (hs p (List.mem_of_getElem? hp)).2⟩
      rw [Nat.zero_add]
      have h7 : (fldA p).toList[k + 1]? = some u := by
        have e1 : (fldA p).toList = .string p.1 :: p.2.cells.toList := rfl
        rw [e1, List.getElem?_cons_succ]
        exact hu
      have := hc (k + 1) u h7
      rwa [show off + i * 7 + (k + 1) = off + i * 7 + 1 + k from by omega] at this
  rcases h.2 with ⟨rfl, h0⟩ | ⟨g, cap, cur, rfl, _, hg, _, _, _, htake⟩
  · have hL : L = [] := List.eq_nil_of_length_eq_zero h0
    exact ⟨none, 0, by rw [h0], fin none 0 (fun j p hj => by rw [hL] at hj; simp at hj)⟩
  · refine ⟨some ⟨g, 0, none⟩, cap, rfl, fin _ _ (fun j p hj => ⟨g, 0, rfl, fun i u hu => ?_⟩)⟩
    have e1 := fldL_get hj i u hu
    have hI : IBox w g e cur := hg
    rw [← htake, List.getElem?_take] at e1
    rw [show 0 + j * 7 + i = j * 7 + i from by omega, hI.cell]
    split at e1
    · simpa using e1
    · cases e1
/-- The tree of an object of these fields. -/
theorem erL_map : ∀ (L : List JV), erL L = L.map er
  | [] => by unfold erL; rfl
  | x :: r => by unfold erL; rw [erL_map r]; rfl
theorem er_obj (A : Option Addr) (c : Nat) (L : List (ByteArray × JV)) : er (objJ A c L) = .mk 5 false 0 ⟨#[]⟩ [] (L.map (·.1)) (L.map fun p => er p.2) := by
  show JT.mk 5 false 0 ⟨#[]⟩ (erL []) (L.map (·.1)) (erL (L.map (·.2))) = _
  rw [erL_map, erL_map, List.map_map]
  rfl
theorem info_field : (Tryz.prog.info? 48).map (fun i => (i.zero, i.size, i.bytes)) = some (some (.agg (fldA (⟨#[]⟩, JV.zero))), 7, 104) := by kernel_rfl
theorem info_field7 : (Tryz.prog.info? 48).map (·.size) = some 7 := by kernel_rfl
end Go.Proofs.YtmpoejgclalmfaaGreat
