/- Layer 2: how much a value holds; elements of a row. -/
import Derived.Test.YtnjhmnolngdfaaaGreatDoorJtA
import Derived.Test.YtnjhmnolngdfaaaGreatDoorJvB
import Derived.Maps.AppendAt
import Derived.PlainAid
namespace Go.Proofs.YtnjhmnolngdfaaaGreatDoor
open Go.RowKit Go.PlainAid
set_option linter.unusedVariables false
set_option linter.unusedSimpArgs false
theorem er_mk (j : JV) : er j = .mk j.v.kind j.v.b j.v.i j.v.t (erL j.l) j.ns (erL j.vs) := by
  obtain ⟨v, l, ns, vs⟩ := j
  unfold er
  rfl
mutual
/-- How much a value holds. -/
def SzT : JT → Nat
  | .mk k b i t l ns vs => 1 + t.size + SzL l + SzN ns + SzL vs
def SzL : List JT → Nat
  | [] => 0
  | x :: r => SzT x + SzL r
def SzN : List ByteArray → Nat
  | [] => 0
  | n :: r => n.size + 1 + SzN r
end
theorem sz_mk (k : Int) (b : Bool) (i : Int) (t : ByteArray) (l : List JT) (ns : List ByteArray) (vs : List JT) : SzT (.mk k b i t l ns vs) = 1 + t.size + SzL l + SzN ns + SzL vs := by conv => lhs; unfold SzT
theorem sz_pos (t : JT) : 1 ≤ SzT t := by obtain ⟨k, b, i, x, l, ns, vs⟩ := t; unfold SzT; omega
theorem szL_len : ∀ l : List JT, l.length ≤ SzL l
  | [] => Nat.zero_le _
  | x :: r => by unfold SzL; have := szL_len r; have := sz_pos x; rw [List.length_cons]; omega
theorem szL_mem {l : List JV} {i : Nat} {x : JV} (h : l[i]? = some x) : SzT (er x) ≤ SzL (erL l) := by
  induction l generalizing i with
  | nil => simp at h
  | cons y r ih =>
    unfold erL SzL
    cases i with
    | zero =>
      have : y = x := by simpa using h
      rw [this]; omega
    | succ i =>
      have := ih (i := i) (by simpa using h)
      omega
theorem sz_parts (j : JV) : j.l.length ≤ SzT (er j) ∧ j.vs.length ≤ SzT (er j) ∧ (∀ (i : Nat) (x : JV), j.l[i]? = some x → SzT (er x) ≤ SzT (er j)) ∧ (∀ (i : Nat) (x : JV), j.vs[i]? = some x → SzT (er x) ≤ SzT (er j)) := by
  rw [er_mk]
  have h1 := szL_len (erL j.l)
  have h2 := szL_len (erL j.vs)
  rw [erL_len] at h1 h2
  rw [sz_mk]
  refine ⟨by omega, by omega, fun i x hx => ?_, fun i x hx => ?_⟩
  · have := szL_mem hx; omega
  · have := szL_mem hx; omega
def LS (g bl off : Nat) (jc : Array Value) (xs : List Value) (w : World) : Prop := IBox w g 25 jc ∧ w.rangeAt bl off xs
theorem range_block {w w' : World} {b o : Nat} {cs : List Value} (e : w'.heap[b]? = w.heap[b]?) (h : w.rangeAt b o cs) : w'.rangeAt b o cs := fun j v hv => by
  have := h j v hv
  unfold World.cell? at this ⊢
  simp only [e]
  exact this
theorem LS.to {g bl off : Nat} {jc : Array Value} {xs : List Value} {w w' : World} (h : LS g bl off jc xs w) (e : ∀ k, k = g ∨ k = bl → w'.heap[k]? = w.heap[k]?) : LS g bl off jc xs w' :=
  ⟨(e g (.inl rfl)).trans h.1, range_block (e bl (.inr rfl)) h.2⟩
theorem LS.lt {g bl off : Nat} {t : Array Value} {j : JV} {w : World} (h : LS g bl off t j.cells.toList w) {k : Nat} (hk : k = g ∨ k = bl) : k < w.heap.size := by
  rcases hk with rfl | rfl
  · exact h.1.lt
  · exact block_lt_of_cell (h.2 0 (.int .i64 j.v.kind) rfl)
def LSO (g bl off : Nat) (jc : Array Value) (nm : ByteArray) (xs : List Value) (w : World) : Prop := IBox w g 25 jc ∧ w.cell? ⟨bl, off, none⟩ = some (.string nm) ∧ w.rangeAt bl (off + 1) xs
theorem LSO.to {g bl off : Nat} {jc : Array Value} {nm : ByteArray} {xs : List Value} {w w' : World} (h : LSO g bl off jc nm xs w) (e : ∀ k, k = g ∨ k = bl → w'.heap[k]? = w.heap[k]?) : LSO g bl off jc nm xs w' :=
  ⟨(e g (.inl rfl)).trans h.1, range_block (cs := [.string nm]) (o := off) (e bl (.inr rfl)) (fun j v hv => by cases j with | zero => (obtain rfl : Value.string nm = v := by simpa using hv); exact h.2.1 | succ n => simp at hv) 0 _ rfl, range_block (e bl (.inr rfl)) h.2.2⟩
theorem LSO.lt {g bl off : Nat} {t : Array Value} {nm : ByteArray} {xs : List Value} {w : World} (h : LSO g bl off t nm xs w) {k : Nat} (hk : k = g ∨ k = bl) : k < w.heap.size := by
  rcases hk with rfl | rfl
  · exact h.1.lt
  · exact block_lt_of_cell h.2.1
theorem off_parts {X : Nat → Prop} {j : JV} (h : Off X j) : (∀ (i : Nat) (x : JV), j.l[i]? = some x → Off X x ∧ ∀ a, j.v.LA = some a → ¬ X a.block) ∧ (∀ (i : Nat) (x : JV), j.vs[i]? = some x → Off X x ∧ ∀ a, j.v.FA = some a → ¬ X a.block) := by
  have key : ∀ l : List JV, OffL X l → ∀ x ∈ l, Off X x := by
    intro l
    induction l with
    | nil => intro _ x hx; cases hx
    | cons y r ih =>
      intro h x hx
      unfold OffL at h
      rcases List.mem_cons.1 hx with rfl | hx
      · exact h.1
      · exact ih h.2 x hx
  obtain ⟨v, l, ns, vs⟩ := j
  unfold Off at h
  refine ⟨fun i x hx => ⟨key l h.2.2.1 x (List.mem_of_getElem? hx), h.1 (fun e => ?_)⟩, fun i x hx => ⟨key vs h.2.2.2 x (List.mem_of_getElem? hx), h.2.1 (fun e => ?_)⟩⟩
  · have e2 : l = [] := e
    have hx2 : l[i]? = some x := hx
    rw [e2] at hx2; simp at hx2
  · have e2 : vs = [] := e
    have hx2 : vs[i]? = some x := hx
    rw [e2] at hx2; simp at hx2
theorem yields_rangeS {P : Program} {ops : Array Oper} {S : World → Prop} {o : Oper} {a : Act} (hw : Region.wanted o (yielded ops a.tmps) = true) (ty : TypeId) (x : Operand) (ho : o.op = .load ty x) (b off : Nat)
    (hx : a.eval x = .pointer (some ⟨b, off, none⟩)) (arr : Array Value) (d : TypeDesc)
    (hc : ∀ w', S w' → w'.rangeAt b off arr.toList) (hu : P.underlying ty = some d) (hd : d.isRow = true) (hi : (P.info? ty).map (·.size) = some arr.size) :
    YieldsIf P ops S o (.agg arr) a := by
  have := yieldsIf_load_mid (P := P) (S := S) hw ty x ho b off hx arr.toList d hc hu hd (by simpa using hi)
  rwa [Array.toArray_toList] at this
end Go.Proofs.YtnjhmnolngdfaaaGreatDoor
