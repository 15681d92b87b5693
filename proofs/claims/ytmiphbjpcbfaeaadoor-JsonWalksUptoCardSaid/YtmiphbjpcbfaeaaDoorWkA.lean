/- Layer 2: a value and all within it, with their paths: what program and document say of a walk; a place's number as a text (coveyref02.decimal), walked. -/
import Derived.Test.YtmiphbjpcbfaeaaDoorWkP
import Derived.Lib.ItoaNum
namespace Go.Proofs.YtmiphbjpcbfaeaaDoor
open Go.RowKit Go.PlainAid
set_option linter.unusedVariables false
set_option linter.unusedSimpArgs false
/-- A place: its path; the value's own cells. -/
abbrev Pl := ByteArray × VM
def pathI (p : ByteArray) (i : Nat) : ByteArray := p ++ ⟨#[47]⟩ ++ ⟨(dig i).toArray⟩
def pathN (p n : ByteArray) : ByteArray := p ++ ⟨#[47]⟩ ++ n
mutual
def walkT : JV → ByteArray → List Pl
  | .mk v l ns vs, p => (p, v) :: ((if v.kind = 4 then walkL l p 0 else []) ++ (if v.kind = 5 then walkF vs ns p else []))
def walkL : List JV → ByteArray → Nat → List Pl
  | [], _, _ => []
  | x :: r, p, i => walkT x (pathI p i) ++ walkL r p (i + 1)
def walkF : List JV → List ByteArray → ByteArray → List Pl
  | [], _, _ => []
  | x :: r, ns, p => walkT x (pathN p (ns.headD ⟨#[]⟩)) ++ walkF r ns.tail p
end
theorem walkT_eq (j : JV) (p : ByteArray) : walkT j p = (p, j.v) :: ((if j.v.kind = 4 then walkL j.l p 0 else []) ++ (if j.v.kind = 5 then walkF j.vs j.ns p else [])) := by
  obtain ⟨v, l, ns, vs⟩ := j
  conv => lhs; unfold walkT
  rfl
theorem walkT_4 {j : JV} (h : j.v.kind = 4) (p : ByteArray) : walkT j p = (p, j.v) :: walkL j.l p 0 := by
  rw [walkT_eq, if_pos h, if_neg (by omega), List.append_nil]
theorem walkT_5 {j : JV} (h : j.v.kind = 5) (p : ByteArray) : walkT j p = (p, j.v) :: walkF j.vs j.ns p := by
  rw [walkT_eq, if_neg (by omega), if_pos h, List.nil_append]
theorem walkT_leaf {j : JV} (h4 : j.v.kind ≠ 4) (h5 : j.v.kind ≠ 5) (p : ByteArray) : walkT j p = [(p, j.v)] := by
  rw [walkT_eq, if_neg h4, if_neg h5]; rfl
theorem walkL_cons (x : JV) (r : List JV) (p : ByteArray) (i : Nat) : walkL (x :: r) p i = walkT x (pathI p i) ++ walkL r p (i + 1) := by conv => lhs; unfold walkL
theorem walkF_cons (x : JV) (r : List JV) (ns : List ByteArray) (p : ByteArray) : walkF (x :: r) ns p = walkT x (pathN p (ns.headD ⟨#[]⟩)) ++ walkF r ns.tail p := by conv => lhs; unfold walkF
theorem walkL_append (p : ByteArray) : ∀ (a b : List JV) (i : Nat), walkL (a ++ b) p i = walkL a p i ++ walkL b p (i + a.length)
  | [], b, i => by simp [walkL]
  | x :: r, b, i => by
    rw [List.cons_append, walkL_cons, walkL_cons, walkL_append p r b (i + 1), List.append_assoc, List.length_cons, show i + 1 + r.length = i + (r.length + 1) by omega]
theorem walkF_append (p : ByteArray) : ∀ (a b : List JV) (ns : List ByteArray), walkF (a ++ b) ns p = walkF a ns p ++ walkF b (ns.drop a.length) p
  | [], b, ns => by simp [walkF]
  | x :: r, b, ns => by
    rw [List.cons_append, walkF_cons, walkF_cons, walkF_append p r b ns.tail, List.append_assoc, List.length_cons, List.drop_tail]
theorem walkL_one (x : JV) (p : ByteArray) (i : Nat) : walkL [x] p i = walkT x (pathI p i) := by
  unfold walkL; unfold walkL; rw [List.append_nil]
theorem walkF_one (x : JV) (ns : List ByteArray) (p : ByteArray) : walkF [x] ns p = walkT x (pathN p (ns.headD ⟨#[]⟩)) := by
  unfold walkF; unfold walkF; rw [List.append_nil]
/-- One element more. -/
theorem walkL_next {l : List JV} {q : Nat} {x : JV} (h : l[q]? = some x) (p : ByteArray) : walkL (l.take (q + 1)) p 0 = walkL (l.take q) p 0 ++ walkT x (pathI p q) := by
  have hq := (List.getElem?_eq_some_iff.1 h).1
  rw [take_next h, walkL_append, walkL_one, List.length_take, Nat.min_eq_left (by omega), Nat.zero_add]
theorem walkF_next {vs : List JV} {ns : List ByteArray} {q : Nat} {x : JV} {n : ByteArray} (h : vs[q]? = some x) (hn : ns[q]? = some n) (p : ByteArray) : walkF (vs.take (q + 1)) ns p = walkF (vs.take q) ns p ++ walkT x (pathN p n) := by
  have hq := (List.getElem?_eq_some_iff.1 h).1
  rw [take_next h, walkF_append, walkF_one, List.length_take, Nat.min_eq_left (by omega), List.headD_eq_head?_getD, List.head?_drop, hn]
  rfl
/-- What is within reach of a walk: paths stay short. -/
def pathMost : Nat := 23068672
theorem sz_fields (j : JV) : SzT (er j) = 1 + j.v.t.size + SzL (erL j.l) + SzN j.ns + SzL (erL j.vs) := by
  obtain ⟨v, l, ns, vs⟩ := j
  conv => lhs; unfold er
  rw [sz_mk]; rfl
theorem szN_mem : ∀ {l : List ByteArray} {i : Nat} {n : ByteArray}, l[i]? = some n → n.size + 1 ≤ SzN l
  | [], i, n, h => by simp at h
  | x :: r, 0, n, h => by
    have : x = n := by simpa using h
    subst this
    unfold SzN; omega
  | x :: r, i + 1, n, h => by
    have := szN_mem (l := r) (i := i) (n := n) (by simpa using h)
    unfold SzN; omega
theorem dig_len20 {i : Nat} (h : i < 100000000000000000000) : (dig i).length ≤ 20 := dig_len 20 i (by omega) (by omega)
theorem path_i {j x : JV} {p : ByteArray} {q : Nat} (hp : p.size + 22 * SzT (er j) ≤ pathMost) (hx : j.l[q]? = some x) : (pathI p q).size + 22 * SzT (er x) ≤ pathMost := by
  have h1 := szL_mem hx
  have h2 := sz_fields j
  have h3 := (sz_parts j).1
  have hq := (List.getElem?_eq_some_iff.1 hx).1
  have h4 := dig_len20 (i := q) (by unfold pathMost at hp; omega)
  have h5 : (pathI p q).size = p.size + 1 + (dig q).length := by unfold pathI; rw [ByteArray.size_append, ByteArray.size_append]; rfl
  omega
theorem path_n {j x : JV} {p n : ByteArray} {q : Nat} (hp : p.size + 22 * SzT (er j) ≤ pathMost) (hx : j.vs[q]? = some x) (hn : j.ns[q]? = some n) : (pathN p n).size + 22 * SzT (er x) ≤ pathMost := by
  have h1 := szL_mem hx
  have h2 := sz_fields j
  have h3 := szN_mem hn
  have h5 : (pathN p n).size = p.size + 1 + n.size := by unfold pathN; rw [ByteArray.size_append, ByteArray.size_append]; rfl
  omega
theorem dig_dec : ∀ (k x : Nat), x < k → dig x = Lib.decDigits x
  | 0, x, h => by omega
  | k + 1, x, h => by
    by_cases hx : x < 10
    · rw [dec_lt hx, Lib.decDigits, dif_pos hx]
    · rw [dec_ge hx, Lib.decDigits, dif_neg hx, dig_dec k (x / 10) (by omega)]
theorem itoa_dig (q : Nat) : Lib.itoa (q : Int) = dig q := by
  unfold Lib.itoa
  rw [if_neg (by omega), dig_dec (q + 1) q (by omega)]
  rfl
set_option maxRecDepth 10000 in
set_option maxHeartbeats 4000000 in
theorem decimal_any {N : Nat} (hNB : N ≤ 9223372036854775807) (w : World) : Calls Tryd.prog 11 #[.int .i64 N] w fun e w' => e = .returned (.string ⟨(dig N).toArray⟩) ∧ Below w.heap.size w w' := by
  have HB := Below.refl w.heap.size w
  have HNB := Lib.hid hNB
  clear hNB
  go_enter Tryd.func11, Tryd.ntmps11
  go_wp2
  go_loopw [0, 3] (fun xv sv wr => ∃ (L : List UInt8) (X : Nat), sv = .string ⟨L.toArray⟩ ∧ xv = .int .i64 X ∧ X ≤ N ∧ Hid (FigL N L X) ∧ Below w.heap.size w wr) (fun xv sv _ => (intOf xv).toNat * 2 + emptyN sv)
  case atStart => exact ⟨[], N, rfl, rfl, Nat.le_refl _, Lib.hid (.inl ⟨rfl, rfl⟩), HB⟩
  case round =>
    clear HB
    obtain ⟨L, X, rfl, rfl, hX, HF, HB⟩ := hrel
    have q0 : 0 ≤ (X : Int) % 10 := by omega
    have q1 : (X : Int) % 10 ≤ 9 := by omega
    have q2 : 0 ≤ (X : Int) / 10 := by omega
    have q3 : (X : Int) / 10 ≤ 922337203685477581 := by have := HNB.out; omega
    have qm : (X : Int).tmod 10 = (X : Int) % 10 := Int.tmod_eq_emod_of_nonneg (by omega)
    have qd : (X : Int).tdiv 10 = (X : Int) / 10 := Int.tdiv_eq_ediv_of_nonneg (by omega)
    have hsh := fig_short HF.out (by have := HNB.out; omega)
    have hbz := HB.size
    by_cases hX0 : 0 < X
    · obtain ⟨c, hc⟩ : ∃ c : UInt8, c = (48 + X % 10).toUInt8 := ⟨_, rfl⟩
      have HC := Lib.hid hc
      have hst : Hid (FigL N (c :: L) (X / 10)) := Lib.hid (by rw [hc]; exact fig_step HF.out (.inl hX0))
      clear hc
      have hX1 : (0 : Int) < (X : Int) := by omega
      go_wp2_with (first
        | ((with_reducible refine is_convert ?_); refine wpl_own_text rfl (.tmp 14) 61 9 rfl Tryd.underlying61 Tryd.underlying9 w.heap.size _ [c] rfl (own_box (IBox.new _ _ _) (fig_cells X HC.out) hbz rfl (by unfold maxLen; decide)) ?_))
      exact ⟨⟨c :: L, X / 10, by rw [cat_list]; rfl, rfl, by omega, hst.out, HB.trans ((Below.refl _ _).alloc hbz _)⟩, by have he := emp_cons c L; simp [intOf] at he ⊢; omega⟩
    · obtain rfl : X = 0 := by omega
      cases L with
      | nil =>
        have hst : Hid (FigL N [48] 0) := Lib.hid (fig_step HF.out (.inr rfl))
        go_wp2_with (first
          | ((with_reducible refine is_convert ?_); refine wpl_own_text rfl (.tmp 14) 61 9 rfl Tryd.underlying61 Tryd.underlying9 w.heap.size _ [48] rfl (own_box (IBox.new _ _ _) rfl hbz rfl (by unfold maxLen; decide)) ?_))
        exact ⟨⟨[48], 0, rfl, rfl, by omega, hst.out, HB.trans ((Below.refl _ _).alloc hbz _)⟩, by simp only [intOf]; decide⟩
      | cons c r =>
        have hdone := Lib.hid (fig_done HF.out (by omega) (by simp))
        go_wp2
        go_ret
        rw [← hdone.out]
        exact ⟨rfl, HB⟩
end Go.Proofs.YtmiphbjpcbfaeaaDoor
