/- Stores into a row of the call's own; what else is kept (Bes); operations of a drawn region that write. -/
import Derived.Deep.AppendLies
import Derived.Test.YtbehakabglegjaaGreatDoorQ01
namespace Go.Proofs.YtbehakabglegjaaGreatDoor
open Go.RowKit
set_option linter.unusedVariables false
set_option linter.unusedSimpArgs false

/-- From w to w' nothing has changed but the blocks of X (and new ones). -/
structure Bes (X : Nat → Prop) (w w' : World) : Prop where
  os : w'.os = w.os
  tape : w'.tape = w.tape
  output : w'.output = w.output
  size : w.heap.size ≤ w'.heap.size
  block : ∀ k, k < w.heap.size → ¬ X k → w'.heap[k]? = w.heap[k]?
theorem Bes.trans {X Y Z : Nat → Prop} {a b c : World} (h : Bes X a b) (k : Bes Y b c) (hX : ∀ i, X i → Z i) (hY : ∀ i, i < a.heap.size → Y i → Z i) : Bes Z a c :=
  ⟨k.os.trans h.os, k.tape.trans h.tape, k.output.trans h.output, Nat.le_trans h.size k.size, fun i hi hn => (k.block i (Nat.lt_of_lt_of_le hi h.size) (fun y => hn (hY i hi y))).trans (h.block i hi (fun x => hn (hX i x)))⟩
theorem Bes.below {X : Nat → Prop} {w w' : World} (h : Bes X w w') {B : Nat} (hX : ∀ k, X k → B ≤ k) (hB : B ≤ w.heap.size) : Below B w w' :=
  ⟨h.os, h.tape, h.output, h.size, fun k hk => h.block k (Nat.lt_of_lt_of_le hk hB) (fun x => by have := hX k x; omega)⟩
theorem Bes.of_below {X : Nat → Prop} {w w' : World} (h : Below w.heap.size w w') : Bes X w w' := ⟨h.os, h.tape, h.output, h.size, fun k hk _ => h.block k hk⟩
theorem Bes.of_heap {X : Nat → Prop} {w w' : World} (h : Below w.heap.size w w') : Bes X w w' := Bes.of_below h
theorem Bes.row {X : Nat → Prop} {w w' : World} {g : Nat} {arr : Array Value} (h : Hid (w' = w.setRow g arr)) (hg : X g) : Bes X w w' := by
  have e := h.out
  subst e
  have hb := below_setRow (Below.refl g w) (Nat.le_refl g) arr
  exact ⟨hb.os, hb.tape, hb.output, by rw [size_setRow]; exact Nat.le_refl _, fun k hk hn => setRow_other w g k arr (fun e => hn (e ▸ hg))⟩
theorem Bes.grown {X : Nat → Prop} {w w' : World} {r : Option Nat} (h : w.grownBy w' r) (hr : ∀ k, r = some k → X k) : Bes X w w' :=
  ⟨h.os, h.tape, h.output, h.size, fun k hk hn => h.block k hk (fun e => hn (hr k e.symm))⟩
theorem Bes.box {X : Nat → Prop} {w w' : World} (h : Bes X w w') {g : Nat} {t : TypeId} {arr : Array Value} (hI : IBox w g t arr) (hn : ¬ X g) : IBox w' g t arr := (h.block g hI.lt hn).trans hI
theorem Bes.own {X : Nat → Prop} {w w' : World} (h : Bes X w w') {base : Nat} {e : TypeId} {size : Nat} {v : Value} {n : Nat} {xs : List Value} (hO : w.ownsRow base e size v n xs) (hn : ∀ k, v.ownBlock = some k → ¬ X k) : w'.ownsRow base e size v n xs := by
  refine ⟨hO.1, ?_⟩
  rcases hO.2 with h0 | ⟨g, cap, cur, rfl, hb, hg, rest⟩
  · exact .inl h0
  · exact .inr ⟨g, cap, cur, rfl, hb, (h.block g (Array.getElem?_eq_some_iff.1 hg).1 (hn g rfl)).trans hg, rest⟩
theorem own_in {w : World} {base : Nat} {e : TypeId} {size : Nat} {v : Value} {n : Nat} {xs : List Value} (hO : w.ownsRow base e size v n xs) {k : Nat} (hk : v.ownBlock = some k) : base ≤ k ∧ k < w.heap.size := by
  rcases hO.2 with ⟨rfl, _⟩ | ⟨g, cap, cur, rfl, hb, hg, _⟩
  · simp [Value.ownBlock] at hk
  · have : g = k := by simpa [Value.ownBlock] using hk
    subst this
    exact ⟨hb, (Array.getElem?_eq_some_iff.1 hg).1⟩
theorem own_heap {w w' : World} (e : w'.heap = w.heap) {base : Nat} {t : TypeId} {size : Nat} {v : Value} {n : Nat} {xs : List Value} (h : w.ownsRow base t size v n xs) : w'.ownsRow base t size v n xs := by unfold World.ownsRow at *; rw [e]; exact h
theorem box_heap {w w' : World} (e : w'.heap = w.heap) {g : Nat} {t : TypeId} {arr : Array Value} (h : IBox w g t arr) : IBox w' g t arr := by unfold IBox at *; rw [e]; exact h
/-- Cells laid over a row. -/
def over (cur : Array Value) : Nat → List Value → Array Value
  | _, [] => cur
  | o, v :: r => over (cur.setIfInBounds o v) (o + 1) r
theorem over_size : ∀ (vs : List Value) (o : Nat) (cur : Array Value), (over cur o vs).size = cur.size
  | [], _, _ => rfl
  | v :: r, o, cur => by unfold over; rw [over_size r]; simp
theorem over_get : ∀ (vs : List Value) (o : Nat) (cur : Array Value) (k : Nat), o + vs.length ≤ cur.size → (over cur o vs)[k]? = if o ≤ k ∧ k < o + vs.length then vs[k - o]? else cur[k]?
  | [], o, cur, k, _ => by
    unfold over
    rw [if_neg (by simp only [List.length_nil]; omega)]
  | v :: r, o, cur, k, h => by
    unfold over
    have h' : o + (r.length + 1) ≤ cur.size := h
    rw [over_get r (o + 1) _ k (by rw [Array.size_setIfInBounds]; omega)]
    simp only [List.length_cons]
    by_cases h1 : o + 1 ≤ k ∧ k < o + 1 + r.length
    · rw [if_pos h1, if_pos (by omega), show k - o = (k - (o + 1)) + 1 from by omega, List.getElem?_cons_succ]
    · rw [if_neg h1]
      by_cases h2 : k = o
      · subst h2
        rw [if_pos (by omega), Nat.sub_self, List.getElem?_cons_zero, Array.getElem?_setIfInBounds_self_of_lt (by omega)]
      · rw [if_neg (by omega), Array.getElem?_setIfInBounds_ne (Ne.symm h2)]
theorem setCells_box {g : Nat} {t : TypeId} : ∀ (vs : List Value) (o : Nat) (cur : Array Value) (w : World), IBox w g t cur → IBox (w.setCells g o vs) g t (over cur o vs)
  | [], _, _, _, h => h
  | v :: r, o, cur, w, h => by
    unfold World.setCells over
    refine setCells_box r (o + 1) _ _ ?_
    rw [setCell_eq_setRow w g o cur t (0, 0) v h]
    exact h.row _
theorem setCells_bes {X : Nat → Prop} {g : Nat} {t : TypeId} (hX : X g) : ∀ (vs : List Value) (o : Nat) (cur : Array Value) (w : World), IBox w g t cur → Bes X w (w.setCells g o vs)
  | [], _, _, w, h => Bes.of_below (Below.refl _ _)
  | v :: r, o, cur, w, h => by
    unfold World.setCells
    have e := setCell_eq_setRow w g o cur t (0, 0) v h
    have hI : IBox (w.setCell ⟨g, o, none⟩ v) g t (cur.setIfInBounds o v) := by rw [e]; exact h.row _
    exact (Bes.row (X := X) (rfl : Hid _) hX).trans (by rw [← e]; exact setCells_bes hX r (o + 1) _ _ hI) (fun _ x => x) (fun _ _ x => x)
theorem own_over {w : World} {base : Nat} {e : TypeId} {size : Nat} {g n cap : Nat} {xs zs vs : List Value} (h : w.ownsRow base e size (.slice (some ⟨g, 0, none⟩) (n + 1) cap) (n + 1) (xs ++ zs)) (hx : xs.length = n * size) (hv : vs.length = size) :
    (w.setCells g (n * size) vs).ownsRow base e size (.slice (some ⟨g, 0, none⟩) (n + 1) cap) (n + 1) (xs ++ vs) ∧ (∀ X : Nat → Prop, X g → Bes X w (w.setCells g (n * size) vs)) ∧ w.there g (n * size) size := by
  rcases h.2 with ⟨hh, _⟩ | ⟨g', cap', cur, hh, hb, hg, hn, hc, hs, ht⟩
  · cases hh
  · have e1 : g = g' := by injection hh with a; injection a with a; injection a
    have e2 : cap = cap' := by injection hh
    subst e1; subst e2
    have hI : IBox w g e cur := hg
    have hsz : n * size + vs.length ≤ cur.size := by rw [hs, hv, show n * size + size = (n + 1) * size from by rw [Nat.add_mul, Nat.one_mul]]; exact Nat.mul_le_mul_right _ hn
    have hxz : zs.length = size := by
      have := h.1
      rw [List.length_append, hx, Nat.add_mul, Nat.one_mul] at this
      omega
    refine ⟨⟨by rw [List.length_append, hx, hv, Nat.add_mul, Nat.one_mul], .inr ⟨g, cap, over cur (n * size) vs, rfl, hb, setCells_box vs _ _ _ hI, hn, hc, by rw [over_size, hs], ?_⟩⟩, fun X hX => setCells_bes hX vs _ _ _ hI, ?_⟩
    · apply List.ext_getElem?
      intro k
      have hk := congrArg (fun l => l[k]?) ht
      simp only [List.getElem?_take] at hk ⊢
      rw [Array.getElem?_toList, over_get _ _ _ _ hsz]
      rw [Array.getElem?_toList] at hk
      have hm : (n + 1) * size = n * size + size := by rw [Nat.add_mul, Nat.one_mul]
      rw [hm] at hk ⊢
      by_cases h1 : k < n * size
      · rw [if_pos (by omega), if_neg (by omega)]
        rw [if_pos (by omega)] at hk
        rw [hk, List.getElem?_append_left (by omega), List.getElem?_append_left (by omega)]
      · by_cases h2 : k < n * size + size
        · rw [if_pos h2, if_pos (by omega), List.getElem?_append_right (by omega), hx]
        · rw [if_neg h2, List.getElem?_eq_none (by rw [List.length_append]; omega)]
    · intro j hj
      refine ⟨?_, hI.frozen _⟩
      rw [hI.cell, Array.getElem?_eq_getElem (by omega)]
      rfl

variable {P : Program} {o : Oper} {a : Act} {w : World} {Q : Exit → Act → World → Prop} {K : Act → World → Prop} {ops : Array Oper}
theorem wp_region_S {S : World → Prop} {id : Nat} (hm : P.follows .mixedOrders = true) (hS : ∀ w2 : World, w2.heap = w.heap → S w2)
    (h : ∀ w2 : World, w2.heap = w.heap → (∀ B, B ≤ w.heap.size → Below B w w2) → S w2 → wpAnyH P .any ops Q S ops.size (Array.replicate ops.size false) a w2) : (Code.region id ops true).wp P Q a w :=
  wp_region_held_drew hm (hS _ rfl) fun h1 => h _ rfl (fun B hB => ⟨rfl, rfl, rfl, Nat.le_refl _, fun _ _ => rfl⟩) h1
theorem yields_boxS {S : World → Prop} (hw : Region.wanted o (yielded ops a.tmps) = true) (ty : TypeId) (x : Operand) (ho : o.op = .load ty x) (g : Nat)
    (hx : a.eval x = .pointer (some ⟨g, 0, none⟩)) (t : TypeId) (arr : Array Value) (d : TypeDesc)
    (hc : ∀ w', S w' → IBox w' g t arr) (hu : P.underlying ty = some d) (hd : d.isRow = true) (hi : (P.info? ty).map (·.size) = some arr.size) :
    YieldsIf P ops S o (.agg arr) a := by
  have := yieldsIf_load_mid (P := P) (S := S) hw ty x ho g 0 hx arr.toList d (fun w' hS j v hv => by rw [Nat.zero_add, (hc w' hS).cell j]; simpa using hv) hu hd (by simpa using hi)
  rwa [Array.toArray_toList] at this
theorem op_store_cell (ty : TypeId) (x y : Operand) (ho : o.op = .store ty x y) (g off : Nat) (hx : a.eval x = .pointer (some ⟨g, off, none⟩)) (v : Value) (hy : a.eval y = v)
    (t : TypeId) (old : Array Value) (hg : IBox w g t old) (hoff : off < old.size) (hi : (P.info? ty).map (·.size) = some 1) (h1 : v.oneCell' = true)
    (h : ∀ w', Hid (w' = w.setRow g (old.setIfInBounds off v)) → K (a.put o.dst undef) w') : o.wp P a w K Q := by
  have hc : v.cells = #[v] := by cases v <;> first | rfl | cases h1
  have ht : w.there g off 1 := fun j hj => by
    obtain rfl : j = 0 := by omega
    refine ⟨?_, hg.frozen off⟩
    rw [Nat.add_zero, hg.cell off, Array.getElem?_eq_getElem hoff]
    rfl
  have hrun : (storeVar ty ⟨g, off, none⟩ v).run P w = .ok () (w.setCells g off [v]) := by
    have := run_storeVar_mid (P := P) w g off ty #[v] ht hi (by simp [h1])
    unfold storeVar at this ⊢
    rw [hc]
    exact this
  have hset : w.setCells g off [v] = w.setRow g (old.setIfInBounds off v) := by
    rw [← setCell_eq_setRow w g off old t (0, 0) v hg]
    simp [World.setCells]
  unfold Oper.wp execOp
  simp only [ho, hx, hy, Instr.storeAt, Instr.sureAddr, Sem.run_bind, Sem.run_pure, Result.andThen_ok, hrun]
  rw [hset]
  exact h _ rfl
theorem op_slice_at (len : Nat) (vals : List (Nat × Value)) (cells : Array Value) (ie : TypeInfo) (z : Value)
    (hf : Instr.fill (fun i => some (i * ie.size, ie.size)) ((Array.range (len * ie.size)).map (z.cells[· % z.cells.size]!)) vals = some cells)
    (t e : TypeId) (parts : Array (Nat × Operand)) (ho : o.op = .buildSlice t len parts) (hv : parts.toList.map (fun x => (x.1, a.eval x.2)) = vals)
    (hu : P.underlying t = some (.slice e)) (hie : P.info? e = some ie) (hz : ie.zero = some z) (hsmall : ¬ len * ie.size > 2 ^ 24) (hpos : ¬ len * ie.size = 0)
    (h : ∀ w', Hid (w' = w.alloc (.cells cells e)) → K (a.put o.dst (.slice (some ⟨w.heap.size, 0, none⟩) len len)) w') : o.wp P a w K Q :=
  wp_buildSlice t e len parts ho cells ie z hu hie hz hsmall hpos (by rw [parts_vals parts vals hv]; exact hf) (h _ rfl)
theorem op_append_at (s x : Operand) (t : TypeId) (ho : o.op = .call { callee := .builtin .append, args := #[s, x], argTypes := #[t, t] })
    (base : Nat) (e : TypeId) (i : TypeInfo) (z : Value) (size bytes : Nat) (ht : P.underlying t = some (.slice e)) (hi : P.info? e = some i) (hz : i.zero = some z)
    (hsize : i.size = size) (hby : i.bytes = bytes) (hzs : z.cells.size = size) (hsz : 0 < size)
    (v : Value) (n : Nat) (xs : List Value) (hs : a.eval s = v) (hown : w.ownsRow base e size v n xs)
    (g c : Nat) (cells : Array Value) (ty : TypeId) (IB : IBox w g ty cells) (hcs : cells.size = size) (hx : a.eval x = .slice (some ⟨g, 0, none⟩) 1 c) (h1 : cells.all (·.oneCell') = true)
    (h63 : n + 1 ≤ maxLen) (hbytes : (n + 1) * bytes ≤ 140737488355328) (hbase : base ≤ w.heap.size)
    (h : ∀ g cap w', w'.ownsRow base e size (.slice (some ⟨g, 0, none⟩) (n + 1) cap) (n + 1) (xs ++ cells.toList) → w.grownBy w' v.ownBlock → (v.ownBlock = some g ∨ g = w.heap.size) → g < w'.heap.size → K (a.put o.dst (.slice (some ⟨g, 0, none⟩) (n + 1) cap)) w') : o.wp P a w K Q :=
  wp_append_lies w s x t ho base e i z size bytes ht hi hz hsize hby hzs hsz v n xs hs hown ⟨g, 0, none⟩ 1 c cells.toList hx (by simp [hcs]) (World.news_of_block IB)
    (fun u hu => Array.all_eq_true_iff_forall_mem.1 h1 u (by simpa using hu)) (by omega) h63 hbytes hbase _ rfl h
theorem op_store_own (ty : TypeId) (x y : Operand) (ho : o.op = .store ty x y) {base : Nat} {e : TypeId} {size g n cap : Nat} {xs zs : List Value} (cells : Array Value)
    (hO : w.ownsRow base e size (.slice (some ⟨g, 0, none⟩) (n + 1) cap) (n + 1) (xs ++ zs)) (hxs : xs.length = n * size) (hcs : cells.size = size)
    (hx : a.eval x = .pointer (some ⟨g, n * size, none⟩)) (hy : a.eval y = .agg cells) (hi : (P.info? ty).map (·.size) = some cells.size) (h1 : cells.all (·.oneCell') = true)
    (h : ∀ w', w'.ownsRow base e size (.slice (some ⟨g, 0, none⟩) (n + 1) cap) (n + 1) (xs ++ cells.toList) → Bes (· = g) w w' → K (a.put o.dst undef) w') : o.wp P a w K Q := by
  obtain ⟨h2, h3, h4⟩ := own_over hO hxs (vs := cells.toList) (by simpa using hcs)
  exact wp_store_mid ty x y ho g (n * size) cells hx hy (by rw [hcs]; exact h4) hi h1 (h _ h2 (h3 (· = g) rfl))
end Go.Proofs.YtbehakabglegjaaGreatDoor
