/- Layer 2: how much a value holds; the digits of a number; elements of a row. -/
import Derived.Test.YtmiphbjpcbfaeaaDoorJtA
import Derived.Test.YtmiphbjpcbfaeaaDoorAppC
import Derived.Test.YtmiphbjpcbfaeaaDoorJvB
import Derived.Maps.AppendAt
import Derived.PlainAid
namespace Go.Proofs.YtmiphbjpcbfaeaaDoor
open Go.RowKit Go.PlainAid
set_option linter.unusedVariables false
set_option linter.unusedSimpArgs false
theorem er_mk (j : JV) : er j = .mk j.v.kind j.v.b j.v.i j.v.t (erL j.l) j.ns (erL j.vs) := by
  obtain ⟨v, l, ns, vs⟩ := j
  unfold er
  rfl
mutual
/-- How much a value holds. -/
def SzT : JT → Nat
  | .mk k b i t l ns vs => 1 + t.size + SzL l + SzN ns + SzL vs
def SzL : List JT → Nat
  | [] => 0
  | x :: r => SzT x + SzL r
def SzN : List ByteArray → Nat
  | [] => 0
  | n :: r => n.size + 1 + SzN r
end
theorem sz_mk (k : Int) (b : Bool) (i : Int) (t : ByteArray) (l : List JT) (ns : List ByteArray) (vs : List JT) : SzT (.mk k b i t l ns vs) = 1 + t.size + SzL l + SzN ns + SzL vs := by conv => lhs; unfold SzT
theorem sz_pos (t : JT) : 1 ≤ SzT t := by obtain ⟨k, b, i, x, l, ns, vs⟩ := t; unfold SzT; omega
theorem szL_len : ∀ l : List JT, l.length ≤ SzL l
  | [] => Nat.zero_le _
  | x :: r => by unfold SzL; have := szL_len r; have := sz_pos x; rw [List.length_cons]; omega
theorem szL_mem {l : List JV} {i : Nat} {x : JV} (h : l[i]? = some x) : SzT (er x) ≤ SzL (erL l) := by
  induction l generalizing i with
  | nil => simp at h
  | cons y r ih =>
    unfold erL SzL
    cases i with
    | zero =>
      have : y = x := by simpa using h
      rw [this]; omega
    | succ i =>
      have := ih (i := i) (by simpa using h)
      omega
theorem sz_parts (j : JV) : j.l.length ≤ SzT (er j) ∧ j.vs.length ≤ SzT (er j) ∧ (∀ (i : Nat) (x : JV), j.l[i]? = some x → SzT (er x) ≤ SzT (er j)) ∧ (∀ (i : Nat) (x : JV), j.vs[i]? = some x → SzT (er x) ≤ SzT (er j)) := by
  rw [er_mk]
  have h1 := szL_len (erL j.l)
  have h2 := szL_len (erL j.vs)
  rw [erL_len] at h1 h2
  rw [sz_mk]
  refine ⟨by omega, by omega, fun i x hx => ?_, fun i x hx => ?_⟩
  · have := szL_mem hx; omega
  · have := szL_mem hx; omega
def LS (g bl off : Nat) (jc : Array Value) (xs : List Value) (w : World) : Prop := IBox w g 25 jc ∧ w.rangeAt bl off xs
theorem range_block {w w' : World} {b o : Nat} {cs : List Value} (e : w'.heap[b]? = w.heap[b]?) (h : w.rangeAt b o cs) : w'.rangeAt b o cs := fun j v hv => by
  have := h j v hv
  unfold World.cell? at this ⊢
  simp only [e]
  exact this
theorem LS.to {g bl off : Nat} {jc : Array Value} {xs : List Value} {w w' : World} (h : LS g bl off jc xs w) (e : ∀ k, k = g ∨ k = bl → w'.heap[k]? = w.heap[k]?) : LS g bl off jc xs w' :=
  ⟨(e g (.inl rfl)).trans h.1, range_block (e bl (.inr rfl)) h.2⟩
theorem LS.lt {g bl off : Nat} {t : Array Value} {j : JV} {w : World} (h : LS g bl off t j.cells.toList w) {k : Nat} (hk : k = g ∨ k = bl) : k < w.heap.size := by
  rcases hk with rfl | rfl
  · exact h.1.lt
  · exact block_lt_of_cell (h.2 0 (.int .i64 j.v.kind) rfl)
def LSO (g bl off : Nat) (jc : Array Value) (nm : ByteArray) (xs : List Value) (w : World) : Prop := IBox w g 25 jc ∧ w.cell? ⟨bl, off, none⟩ = some (.string nm) ∧ w.rangeAt bl (off + 1) xs
theorem LSO.to {g bl off : Nat} {jc : Array Value} {nm : ByteArray} {xs : List Value} {w w' : World} (h : LSO g bl off jc nm xs w) (e : ∀ k, k = g ∨ k = bl → w'.heap[k]? = w.heap[k]?) : LSO g bl off jc nm xs w' :=
  ⟨(e g (.inl rfl)).trans h.1, range_block (cs := [.string nm]) (o := off) (e bl (.inr rfl)) (fun j v hv => by cases j with | zero => (obtain rfl : Value.string nm = v := by simpa using hv); exact h.2.1 | succ n => simp at hv) 0 _ rfl, range_block (e bl (.inr rfl)) h.2.2⟩
theorem LSO.lt {g bl off : Nat} {t : Array Value} {nm : ByteArray} {xs : List Value} {w : World} (h : LSO g bl off t nm xs w) {k : Nat} (hk : k = g ∨ k = bl) : k < w.heap.size := by
  rcases hk with rfl | rfl
  · exact h.1.lt
  · exact block_lt_of_cell h.2.1
theorem off_parts {X : Nat → Prop} {j : JV} (h : Off X j) : (∀ (i : Nat) (x : JV), j.l[i]? = some x → Off X x ∧ ∀ a, j.v.LA = some a → ¬ X a.block) ∧ (∀ (i : Nat) (x : JV), j.vs[i]? = some x → Off X x ∧ ∀ a, j.v.FA = some a → ¬ X a.block) := by
  have key : ∀ l : List JV, OffL X l → ∀ x ∈ l, Off X x := by
    intro l
    induction l with
    | nil => intro _ x hx; cases hx
    | cons y r ih =>
      intro h x hx
      unfold OffL at h
      rcases List.mem_cons.1 hx with rfl | hx
      · exact h.1
      · exact ih h.2 x hx
  obtain ⟨v, l, ns, vs⟩ := j
  unfold Off at h
  refine ⟨fun i x hx => ⟨key l h.2.2.1 x (List.mem_of_getElem? hx), h.1 (fun e => ?_)⟩, fun i x hx => ⟨key vs h.2.2.2 x (List.mem_of_getElem? hx), h.2.1 (fun e => ?_)⟩⟩
  · have e2 : l = [] := e
    have hx2 : l[i]? = some x := hx
    rw [e2] at hx2; simp at hx2
  · have e2 : vs = [] := e
    have hx2 : vs[i]? = some x := hx
    rw [e2] at hx2; simp at hx2
/-- A number's digits. -/
def dig (x : Nat) : List UInt8 := if x < 10 then [(48 + x).toUInt8] else dig (x / 10) ++ [(48 + x % 10).toUInt8]
termination_by x
theorem dec_lt {x : Nat} (h : x < 10) : dig x = [(48 + x).toUInt8] := by rw [dig, if_pos h]
theorem dec_ge {x : Nat} (h : ¬ x < 10) : dig x = dig (x / 10) ++ [(48 + x % 10).toUInt8] := by rw [dig, if_neg h]
theorem dbyte {d : Nat} (h : d < 10) : ((48 + d).toUInt8).toNat = 48 + d := by simp [Nat.toUInt8]; omega
/-- What digits say. -/
def dval : Int → List UInt8 → Int
  | v, [] => v
  | v, c :: r => dval (10 * v + ((c.toNat : Int) - 48)) r
theorem dval_app : ∀ (l m : List UInt8) (v : Int), dval v (l ++ m) = dval (dval v l) m
  | [], m, v => rfl
  | c :: r, m, v => dval_app r m _
theorem dig_spec : ∀ (n x : Nat), x < n → (∀ c ∈ dig x, 48 ≤ c.toNat ∧ c.toNat ≤ 57) ∧ dval 0 (dig x) = x ∧ (∃ c r, dig x = c :: r ∧ (x ≠ 0 → c.toNat ≠ 48))
  | 0, x, h => by omega
  | n + 1, x, h => by
    by_cases hx : x < 10
    · rw [dec_lt hx]
      have hb := dbyte hx
      refine ⟨fun c hc => ?_, ?_, _, _, rfl, fun h0 => by rw [hb]; omega⟩
      · have : c = (48 + x).toUInt8 := by simpa using hc
        rw [this, hb]; omega
      · show 10 * 0 + (((48 + x).toUInt8.toNat : Int) - 48) = x
        rw [hb]; omega
    · rw [dec_ge hx]
      have hb := dbyte (d := x % 10) (by omega)
      obtain ⟨h1, h2, c, r, h3, h4⟩ := dig_spec n (x / 10) (by omega)
      refine ⟨fun c hc => ?_, ?_, c, r ++ [(48 + x % 10).toUInt8], by rw [h3]; rfl, fun _ => h4 (by omega)⟩
      · rcases List.mem_append.1 hc with hc | hc
        · exact h1 c hc
        · have : c = (48 + x % 10).toUInt8 := by simpa using hc
          rw [this, hb]; omega
      · rw [dval_app, h2]
        show 10 * ((x / 10 : Nat) : Int) + (((48 + x % 10).toUInt8.toNat : Int) - 48) = x
        rw [hb]; omega
theorem dig_len : ∀ (n x : Nat), x < 10 ^ n → 0 < n → (dig x).length ≤ n
  | 0, x, _, h => by omega
  | n + 1, x, hx, _ => by
    by_cases h : x < 10
    · rw [dec_lt h]; simp
    · rw [dec_ge h, List.length_append]
      have hn : 0 < n := by
        rcases Nat.eq_zero_or_pos n with h0 | h0
        · subst h0; simp at hx; omega
        · exact h0
      have := dig_len n (x / 10) (by rw [Nat.pow_succ] at hx; omega) hn
      simp
      omega
/-- The digits so far, and what is left of the number. -/
def FigL (N : Nat) (L : List UInt8) (X : Nat) : Prop := (L = [] ∧ X = N) ∨ (X = 0 ∧ L = dig N) ∨ (0 < X ∧ dig X ++ L = dig N)
theorem fig_step {N X : Nat} {L : List UInt8} (h : FigL N L X) (hg : 0 < X ∨ L = []) : FigL N ((48 + X % 10).toUInt8 :: L) (X / 10) := by
  have key : dig X ++ L = dig N := by
    rcases h with ⟨h1, h2⟩ | ⟨h1, h2⟩ | ⟨h1, h2⟩
    · rw [h1, h2, List.append_nil]
    · rcases hg with hg | hg
      · omega
      · rw [hg] at h2
        obtain ⟨_, _, c, r, h3, _⟩ := dig_spec (N + 1) N (Nat.lt_succ_self _)
        rw [h3] at h2; cases h2
    · exact h2
  by_cases hx : X < 10
  · refine .inr (.inl ⟨by omega, ?_⟩)
    rw [dec_lt hx] at key
    rw [← key, show X % 10 = X by omega]; rfl
  · refine .inr (.inr ⟨by omega, ?_⟩)
    rw [dec_ge hx, List.append_assoc] at key
    exact key
theorem fig_done {N X : Nat} {L : List UInt8} (h : FigL N L X) (h0 : ¬ 0 < X) (hL : L ≠ []) : L = dig N := by
  rcases h with ⟨h1, h2⟩ | ⟨h1, h2⟩ | ⟨h1, h2⟩
  · exact absurd h1 hL
  · exact h2
  · omega
theorem fig_short {N X : Nat} {L : List UInt8} (h : FigL N L X) (hN : N < 100000000000000000000) : L.length ≤ 20 := by
  have := dig_len 20 N (by omega) (by omega)
  rcases h with ⟨h1, h2⟩ | ⟨h1, h2⟩ | ⟨h1, h2⟩
  · rw [h1]; simp
  · rw [h2]; exact this
  · have h3 := congrArg List.length h2
    rw [List.length_append] at h3
    omega
theorem dbyte2 (d : Nat) (h : d < 10) : ((48 + d).toUInt8.toNat : Int) = 48 + (d : Int) := by rw [dbyte h]; omega
theorem cat_list (a b : List UInt8) : (⟨a.toArray⟩ : ByteArray) ++ ⟨b.toArray⟩ = ⟨(a ++ b).toArray⟩ := by
  apply ByteArray.ext
  simp
def emptyN : Value → Nat
  | .string s => if s.size = 0 then 1 else 0
  | _ => 0
theorem emp_cons (c : UInt8) (L : List UInt8) : emptyN (.string ((⟨[c].toArray⟩ : ByteArray) ++ ⟨L.toArray⟩)) = 0 := by
  rw [cat_list]
  unfold emptyN
  simp [ByteArray.size]
theorem fig_cells (X : Nat) {c : UInt8} (hc : c = (48 + X % 10).toUInt8) : (#[.int .u8 (48 + (X : Int) % 10)] : Array Value).toList = Lib.byteCells [c] := by
  subst hc
  unfold Lib.byteCells
  rw [List.map_cons, List.map_nil, dbyte2 _ (by omega)]
  rfl
theorem yields_rangeS {P : Program} {ops : Array Oper} {S : World → Prop} {o : Oper} {a : Act} (hw : Region.wanted o (yielded ops a.tmps) = true) (ty : TypeId) (x : Operand) (ho : o.op = .load ty x) (b off : Nat)
    (hx : a.eval x = .pointer (some ⟨b, off, none⟩)) (arr : Array Value) (d : TypeDesc)
    (hc : ∀ w', S w' → w'.rangeAt b off arr.toList) (hu : P.underlying ty = some d) (hd : d.isRow = true) (hi : (P.info? ty).map (·.size) = some arr.size) :
    YieldsIf P ops S o (.agg arr) a := by
  have := yieldsIf_load_mid (P := P) (S := S) hw ty x ho b off hx arr.toList d hc hu hd (by simpa using hi)
  rwa [Array.toArray_toList] at this
end Go.Proofs.YtmiphbjpcbfaeaaDoor
