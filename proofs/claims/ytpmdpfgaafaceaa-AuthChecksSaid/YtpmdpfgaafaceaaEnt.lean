/- Rows of entries (pairs of a type and a key). -/
import Derived.Test.YtpmdpfgaafaceaaAuthK2
import Derived.Test.YtpmdpfgaafaceaaRegB
namespace Go.Proofs.Ytpmdpfgaafaceaa
open Go.RowKit
set_option linter.unusedVariables false
set_option linter.unusedSimpArgs false

theorem info_entry : (Try.prog.info? 60).map (fun i => (i.zero, i.size, i.bytes)) = some (some (.agg #[.string ⟨#[]⟩, .string ⟨#[]⟩, .string ⟨#[]⟩]), 3, 48) := by kernel_rfl
theorem info_entry3 : (Try.prog.info? 60).map (·.size) = some 3 := by kernel_rfl
def entA (p : ByteArray × ByteArray) : Array Value := #[.string p.1, .string p.2, .string ⟨#[]⟩]
def entL (L : List (ByteArray × ByteArray)) : List Value := L.flatMap fun p => (entA p).toList
def EntriesAt (w : World) (A : Option Addr) (L : List (ByteArray × ByteArray)) : Prop := ∀ (j : Nat) (p : ByteArray × ByteArray), L[j]? = some p → ∃ b off, A = some ⟨b, off, none⟩ ∧ w.rangeAt b (off + j * 3) (entA p).toList
theorem EntriesAt.below {w w' : World} (hb : Below w.heap.size w w') {A : Option Addr} {L : List (ByteArray × ByteArray)} (h : EntriesAt w A L) : EntriesAt w' A L := fun j p hj => by
  obtain ⟨b, off, hA, hr⟩ := h j p hj
  exact ⟨b, off, hA, range_below hb hr⟩
theorem entL_len (L : List (ByteArray × ByteArray)) : (entL L).length = L.length * 3 := by
  unfold entL
  induction L with
  | nil => rfl
  | cons p r ih => rw [List.flatMap_cons, List.length_append, ih, List.length_cons]; simp only [entA, List.length_cons, List.length_nil]; omega
theorem entL_get : ∀ {L : List (ByteArray × ByteArray)} {j : Nat} {p : ByteArray × ByteArray}, L[j]? = some p → ∀ (i : Nat) (v : Value), (entA p).toList[i]? = some v → (entL L)[j * 3 + i]? = some v
  | [], j, p, h => by simp at h
  | q :: r, 0, p, h => by
    intro i v hv
    have : q = p := by simpa using h
    subst this
    unfold entL
    rw [List.flatMap_cons, Nat.zero_mul, Nat.zero_add, List.getElem?_append_left (List.getElem?_eq_some_iff.1 hv).1]
    exact hv
  | q :: r, j + 1, p, h => by
    intro i v hv
    have h' : r[j]? = some p := by simpa using h
    have := entL_get h' i v hv
    unfold entL at *
    rw [List.flatMap_cons, List.getElem?_append_right (by simp [entA]; omega)]
    rw [show (j + 1) * 3 + i - (entA q).toList.length = j * 3 + i from by simp [entA]; omega]
    exact this
theorem own_entries {w : World} {base : Nat} {e : TypeId} {v : Value} {L : List (ByteArray × ByteArray)} {n : Nat} (h : w.ownsRow base e 3 v n (entL L)) (hn : n = L.length) : ∃ A c, v = .slice A L.length c ∧ EntriesAt w A L := by
  subst hn
  rcases h.2 with ⟨rfl, h0⟩ | ⟨g, cap, cur, rfl, _, hg, _, _, _, htake⟩
  · have : L = [] := List.eq_nil_of_length_eq_zero h0
    subst this
    exact ⟨none, 0, rfl, fun j p hj => by simp at hj⟩
  · refine ⟨some ⟨g, 0, none⟩, cap, rfl, fun j p hj => ⟨g, 0, rfl, fun i u hu => ?_⟩⟩
    have e1 := entL_get hj i u hu
    have hI : IBox w g e cur := hg
    rw [← htake, List.getElem?_take] at e1
    rw [show 0 + j * 3 + i = j * 3 + i from by omega, hI.cell]
    split at e1
    · simpa using e1
    · cases e1
/-- A block just made is a row of its own. -/
theorem own_start {w : World} {base g n : Nat} {e : TypeId} {cells : Array Value} {size : Nat} (hI : IBox w g e cells) (hb : base ≤ g) (hc : cells.size = n * size) (hm : n ≤ maxLen) : w.ownsRow base e size (.slice (some ⟨g, 0, none⟩) n n) n cells.toList := by
  refine ⟨by simpa using hc, .inr ⟨g, n, cells, rfl, hb, hI, Nat.le_refl _, hm, hc, ?_⟩⟩
  rw [List.take_of_length_le (by simp [hc])]
def hasE (L : List (ByteArray × ByteArray)) (k s : ByteArray) : Bool := L.any fun p => (p.1.toList == k.toList) && (p.2.toList == s.toList)
end Go.Proofs.Ytpmdpfgaafaceaa
