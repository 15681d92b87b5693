/- Stores into a row of the call's own; what else is kept (Bes); operations of a drawn region that write. Bytes in memory: what the program says of their type. Rows of bytes of the call's own: appending a row that lies whole in a block, appending none, the row as a text. Rows of bytes of the call's own: appending a text; a few bytes built as a row. -/
import Derived.Deep.AppendLies
import Derived.Test.YtbehakabglegjaaGreatDoorQ00
import Derived.Laws.AppendOwnNone
import Derived.Laws.IdiomStrings
import Derived.Lib.AppendStr
import Derived.Maps.AppendAt
namespace Go.Proofs.YtbehakabglegjaaGreatDoor
open Go.RowKit
set_option linter.unusedVariables false
set_option linter.unusedSimpArgs false

/-- From w to w' nothing has changed but the blocks of X (and new ones). -/
structure Bes (X : Nat → Prop) (w w' : World) : Prop where
  os : w'.os = w.os
  tape : w'.tape = w.tape
  output : w'.output = w.output
  size : w.heap.size ≤ w'.heap.size
  block : ∀ k, k < w.heap.size → ¬ X k → w'.heap[k]? = w.heap[k]?
theorem Bes.trans {X Y Z : Nat → Prop} {a b c : World} (h : Bes X a b) (k : Bes Y b c) (hX : ∀ i, X i → Z i) (hY : ∀ i, i < a.heap.size → Y i → Z i) : Bes Z a c :=
  ⟨k.os.trans h.os, k.tape.trans h.tape, k.output.trans h.output, Nat.le_trans h.size k.size, fun i hi hn => (k.block i (Nat.lt_of_lt_of_le hi h.size) (fun y => hn (hY i hi y))).trans (h.block i hi (fun x => hn (hX i x)))⟩
theorem Bes.below {X : Nat → Prop} {w w' : World} (h : Bes X w w') {B : Nat} (hX : ∀ k, X k → B ≤ k) (hB : B ≤ w.heap.size) : Below B w w' :=
  ⟨h.os, h.tape, h.output, h.size, fun k hk => h.block k (Nat.lt_of_lt_of_le hk hB) (fun x => by have := hX k x; omega)⟩
theorem Bes.of_below {X : Nat → Prop} {w w' : World} (h : Below w.heap.size w w') : Bes X w w' := ⟨h.os, h.tape, h.output, h.size, fun k hk _ => h.block k hk⟩
theorem Bes.of_heap {X : Nat → Prop} {w w' : World} (h : Below w.heap.size w w') : Bes X w w' := Bes.of_below h
theorem Bes.row {X : Nat → Prop} {w w' : World} {g : Nat} {arr : Array Value} (h : Hid (w' = w.setRow g arr)) (hg : X g) : Bes X w w' := by
  have e := h.out
  subst e
  have hb := below_setRow (Below.refl g w) (Nat.le_refl g) arr
  exact ⟨hb.os, hb.tape, hb.output, by rw [size_setRow]; exact Nat.le_refl _, fun k hk hn => setRow_other w g k arr (fun e => hn (e ▸ hg))⟩
theorem Bes.grown {X : Nat → Prop} {w w' : World} {r : Option Nat} (h : w.grownBy w' r) (hr : ∀ k, r = some k → X k) : Bes X w w' :=
  ⟨h.os, h.tape, h.output, h.size, fun k hk hn => h.block k hk (fun e => hn (hr k e.symm))⟩
theorem Bes.box {X : Nat → Prop} {w w' : World} (h : Bes X w w') {g : Nat} {t : TypeId} {arr : Array Value} (hI : IBox w g t arr) (hn : ¬ X g) : IBox w' g t arr := (h.block g hI.lt hn).trans hI
theorem Bes.own {X : Nat → Prop} {w w' : World} (h : Bes X w w') {base : Nat} {e : TypeId} {size : Nat} {v : Value} {n : Nat} {xs : List Value} (hO : w.ownsRow base e size v n xs) (hn : ∀ k, v.ownBlock = some k → ¬ X k) : w'.ownsRow base e size v n xs := by
  refine ⟨hO.1, ?_⟩
  rcases hO.2 with h0 | ⟨g, cap, cur, rfl, hb, hg, rest⟩
  · exact .inl h0
  · exact .inr ⟨g, cap, cur, rfl, hb, (h.block g (Array.getElem?_eq_some_iff.1 hg).1 (hn g rfl)).trans hg, rest⟩
theorem own_in {w : World} {base : Nat} {e : TypeId} {size : Nat} {v : Value} {n : Nat} {xs : List Value} (hO : w.ownsRow base e size v n xs) {k : Nat} (hk : v.ownBlock = some k) : base ≤ k ∧ k < w.heap.size := by
  rcases hO.2 with ⟨rfl, _⟩ | ⟨g, cap, cur, rfl, hb, hg, _⟩
  · simp [Value.ownBlock] at hk
  · have : g = k := by simpa [Value.ownBlock] using hk
    subst this
    exact ⟨hb, (Array.getElem?_eq_some_iff.1 hg).1⟩
theorem own_heap {w w' : World} (e : w'.heap = w.heap) {base : Nat} {t : TypeId} {size : Nat} {v : Value} {n : Nat} {xs : List Value} (h : w.ownsRow base t size v n xs) : w'.ownsRow base t size v n xs := by unfold World.ownsRow at *; rw [e]; exact h
theorem box_heap {w w' : World} (e : w'.heap = w.heap) {g : Nat} {t : TypeId} {arr : Array Value} (h : IBox w g t arr) : IBox w' g t arr := by unfold IBox at *; rw [e]; exact h
/-- Cells laid over a row. -/
def over (cur : Array Value) : Nat → List Value → Array Value
  | _, [] => cur
  | o, v :: r => over (cur.setIfInBounds o v) (o + 1) r
theorem over_size : ∀ (vs : List Value) (o : Nat) (cur : Array Value), (over cur o vs).size = cur.size
  | [], _, _ => rfl
  | v :: r, o, cur => by unfold over; rw [over_size r]; simp
theorem over_get : ∀ (vs : List Value) (o : Nat) (cur : Array Value) (k : Nat), o + vs.length ≤ cur.size → (over cur o vs)[k]? = if o ≤ k ∧ k < o + vs.length then vs[k - o]? else cur[k]?
  | [], o, cur, k, _ => by
    unfold over
    rw [if_neg (by simp only [List.length_nil]; omega)]
  | v :: r, o, cur, k, h => by
    unfold over
    have h' : o + (r.length + 1) ≤ cur.size := h
    rw [over_get r (o + 1) _ k (by rw [Array.size_setIfInBounds]; omega)]
    simp only [List.length_cons]
    by_cases h1 : o + 1 ≤ k ∧ k < o + 1 + r.length
    · rw [if_pos h1, if_pos (by omega), show k - o = (k - (o + 1)) + 1 from by omega, List.getElem?_cons_succ]
    · rw [if_neg h1]
      by_cases h2 : k = o
      · subst h2
        rw [if_pos (by omega), Nat.sub_self, List.getElem?_cons_zero, Array.getElem?_setIfInBounds_self_of_lt (by omega)]
      · rw [if_neg (by omega), Array.getElem?_setIfInBounds_ne (Ne.symm h2)]
theorem setCells_box {g : Nat} {t : TypeId} : ∀ (vs : List Value) (o : Nat) (cur : Array Value) (w : World), IBox w g t cur → IBox (w.setCells g o vs) g t (over cur o vs)
  | [], _, _, _, h => h
  | v :: r, o, cur, w, h => by
    unfold World.setCells over
    refine setCells_box r (o + 1) _ _ ?_
    rw [setCell_eq_setRow w g o cur t (0, 0) v h]
    exact h.row _
theorem setCells_bes {X : Nat → Prop} {g : Nat} {t : TypeId} (hX : X g) : ∀ (vs : List Value) (o : Nat) (cur : Array Value) (w : World), IBox w g t cur → Bes X w (w.setCells g o vs)
  | [], _, _, w, h => Bes.of_below (Below.refl _ _)
  | v :: r, o, cur, w, h => by
    unfold World.setCells
    have e := setCell_eq_setRow w g o cur t (0, 0) v h
    have hI : IBox (w.setCell ⟨g, o, none⟩ v) g t (cur.setIfInBounds o v) := by rw [e]; exact h.row _
    exact (Bes.row (X := X) (rfl : Hid _) hX).trans (by rw [← e]; exact setCells_bes hX r (o + 1) _ _ hI) (fun _ x => x) (fun _ _ x => x)
theorem own_over {w : World} {base : Nat} {e : TypeId} {size : Nat} {g n cap : Nat} {xs zs vs : List Value} (h : w.ownsRow base e size (.slice (some ⟨g, 0, none⟩) (n + 1) cap) (n + 1) (xs ++ zs)) (hx : xs.length = n * size) (hv : vs.length = size) :
    (w.setCells g (n * size) vs).ownsRow base e size (.slice (some ⟨g, 0, none⟩) (n + 1) cap) (n + 1) (xs ++ vs) ∧ (∀ X : Nat → Prop, X g → Bes X w (w.setCells g (n * size) vs)) ∧ w.there g (n * size) size := by
  rcases h.2 with ⟨hh, _⟩ | ⟨g', cap', cur, hh, hb, hg, hn, hc, hs, ht⟩
  · cases hh
  · have e1 : g = g' := by injection hh with a; injection a with a; injection a
    have e2 : cap = cap' := by injection hh
    subst e1; subst e2
    have hI : IBox w g e cur := hg
    have hsz : n * size + vs.length ≤ cur.size := by rw [hs, hv, show n * size + size = (n + 1) * size from by rw [Nat.add_mul, Nat.one_mul]]; exact Nat.mul_le_mul_right _ hn
    have hxz : zs.length = size := by
      have := h.1
      rw [List.length_append, hx, Nat.add_mul, Nat.one_mul] at this
      omega
    refine ⟨⟨by rw [List.length_append, hx, hv, Nat.add_mul, Nat.one_mul], .inr ⟨g, cap, over cur (n * size) vs, rfl, hb, setCells_box vs _ _ _ hI, hn, hc, by rw [over_size, hs], ?_⟩⟩, fun X hX => setCells_bes hX vs _ _ _ hI, ?_⟩
    · apply List.ext_getElem?
      intro k
      have hk := congrArg (fun l => l[k]?) ht
      simp only [List.getElem?_take] at hk ⊢
      rw [Array.getElem?_toList, over_get _ _ _ _ hsz]
      rw [Array.getElem?_toList] at hk
      have hm : (n + 1) * size = n * size + size := by rw [Nat.add_mul, Nat.one_mul]
      rw [hm] at hk ⊢
      by_cases h1 : k < n * size
      · rw [if_pos (by omega), if_neg (by omega)]
        rw [if_pos (by omega)] at hk
        rw [hk, List.getElem?_append_left (by omega), List.getElem?_append_left (by omega)]
      · by_cases h2 : k < n * size + size
        · rw [if_pos h2, if_pos (by omega), List.getElem?_append_right (by omega), hx]
        · rw [if_neg h2, List.getElem?_eq_none (by rw [List.length_append]; omega)]
    · intro j hj
      refine ⟨?_, hI.frozen _⟩
      rw [hI.cell, Array.getElem?_eq_getElem (by omega)]
      rfl

variable {P : Program} {o : Oper} {a : Act} {w : World} {Q : Exit → Act → World → Prop} {K : Act → World → Prop} {ops : Array Oper}
theorem wp_region_S {S : World → Prop} {id : Nat} (hm : P.follows .mixedOrders = true) (hS : ∀ w2 : World, w2.heap = w.heap → S w2)
    (h : ∀ w2 : World, w2.heap = w.heap → (∀ B, B ≤ w.heap.size → Below B w w2) → S w2 → wpAnyH P .any ops Q S ops.size (Array.replicate ops.size false) a w2) : (Code.region id ops true).wp P Q a w :=
  wp_region_held_drew hm (hS _ rfl) fun h1 => h _ rfl (fun B hB => ⟨rfl, rfl, rfl, Nat.le_refl _, fun _ _ => rfl⟩) h1
theorem yields_boxS {S : World → Prop} (hw : Region.wanted o (yielded ops a.tmps) = true) (ty : TypeId) (x : Operand) (ho : o.op = .load ty x) (g : Nat)
    (hx : a.eval x = .pointer (some ⟨g, 0, none⟩)) (t : TypeId) (arr : Array Value) (d : TypeDesc)
    (hc : ∀ w', S w' → IBox w' g t arr) (hu : P.underlying ty = some d) (hd : d.isRow = true) (hi : (P.info? ty).map (·.size) = some arr.size) :
    YieldsIf P ops S o (.agg arr) a := by
  have := yieldsIf_load_mid (P := P) (S := S) hw ty x ho g 0 hx arr.toList d (fun w' hS j v hv => by rw [Nat.zero_add, (hc w' hS).cell j]; simpa using hv) hu hd (by simpa using hi)
  rwa [Array.toArray_toList] at this
theorem op_store_cell (ty : TypeId) (x y : Operand) (ho : o.op = .store ty x y) (g off : Nat) (hx : a.eval x = .pointer (some ⟨g, off, none⟩)) (v : Value) (hy : a.eval y = v)
    (t : TypeId) (old : Array Value) (hg : IBox w g t old) (hoff : off < old.size) (hi : (P.info? ty).map (·.size) = some 1) (h1 : v.oneCell' = true)
    (h : ∀ w', Hid (w' = w.setRow g (old.setIfInBounds off v)) → K (a.put o.dst undef) w') : o.wp P a w K Q := by
  have hc : v.cells = #[v] := by cases v <;> first | rfl | cases h1
  have ht : w.there g off 1 := fun j hj => by
    obtain rfl : j = 0 := by omega
    refine ⟨?_, hg.frozen off⟩
    rw [Nat.add_zero, hg.cell off, Array.getElem?_eq_getElem hoff]
    rfl
  have hrun : (storeVar ty ⟨g, off, none⟩ v).run P w = .ok () (w.setCells g off [v]) := by
    have := run_storeVar_mid (P := P) w g off ty #[v] ht hi (by simp [h1])
    unfold storeVar at this ⊢
    rw [hc]
    exact this
  have hset : w.setCells g off [v] = w.setRow g (old.setIfInBounds off v) := by
    rw [← setCell_eq_setRow w g off old t (0, 0) v hg]
    simp [World.setCells]
  unfold Oper.wp execOp
  simp only [ho, hx, hy, Instr.storeAt, Instr.sureAddr, Sem.run_bind, Sem.run_pure, Result.andThen_ok, hrun]
  rw [hset]
  exact h _ rfl
theorem op_slice_at (len : Nat) (vals : List (Nat × Value)) (cells : Array Value) (ie : TypeInfo) (z : Value)
    (hf : Instr.fill (fun i => some (i * ie.size, ie.size)) ((Array.range (len * ie.size)).map (z.cells[· % z.cells.size]!)) vals = some cells)
    (t e : TypeId) (parts : Array (Nat × Operand)) (ho : o.op = .buildSlice t len parts) (hv : parts.toList.map (fun x => (x.1, a.eval x.2)) = vals)
    (hu : P.underlying t = some (.slice e)) (hie : P.info? e = some ie) (hz : ie.zero = some z) (hsmall : ¬ len * ie.size > 2 ^ 24) (hpos : ¬ len * ie.size = 0)
    (h : ∀ w', Hid (w' = w.alloc (.cells cells e)) → K (a.put o.dst (.slice (some ⟨w.heap.size, 0, none⟩) len len)) w') : o.wp P a w K Q :=
  wp_buildSlice t e len parts ho cells ie z hu hie hz hsmall hpos (by rw [parts_vals parts vals hv]; exact hf) (h _ rfl)
theorem op_append_at (s x : Operand) (t : TypeId) (ho : o.op = .call { callee := .builtin .append, args := #[s, x], argTypes := #[t, t] })
    (base : Nat) (e : TypeId) (i : TypeInfo) (z : Value) (size bytes : Nat) (ht : P.underlying t = some (.slice e)) (hi : P.info? e = some i) (hz : i.zero = some z)
    (hsize : i.size = size) (hby : i.bytes = bytes) (hzs : z.cells.size = size) (hsz : 0 < size)
    (v : Value) (n : Nat) (xs : List Value) (hs : a.eval s = v) (hown : w.ownsRow base e size v n xs)
    (g c : Nat) (cells : Array Value) (ty : TypeId) (IB : IBox w g ty cells) (hcs : cells.size = size) (hx : a.eval x = .slice (some ⟨g, 0, none⟩) 1 c) (h1 : cells.all (·.oneCell') = true)
    (h63 : n + 1 ≤ maxLen) (hbytes : (n + 1) * bytes ≤ 140737488355328) (hbase : base ≤ w.heap.size)
    (h : ∀ g cap w', w'.ownsRow base e size (.slice (some ⟨g, 0, none⟩) (n + 1) cap) (n + 1) (xs ++ cells.toList) → w.grownBy w' v.ownBlock → (v.ownBlock = some g ∨ g = w.heap.size) → g < w'.heap.size → K (a.put o.dst (.slice (some ⟨g, 0, none⟩) (n + 1) cap)) w') : o.wp P a w K Q :=
  wp_append_lies w s x t ho base e i z size bytes ht hi hz hsize hby hzs hsz v n xs hs hown ⟨g, 0, none⟩ 1 c cells.toList hx (by simp [hcs]) (World.news_of_block IB)
    (fun u hu => Array.all_eq_true_iff_forall_mem.1 h1 u (by simpa using hu)) (by omega) h63 hbytes hbase _ rfl h
theorem op_store_own (ty : TypeId) (x y : Operand) (ho : o.op = .store ty x y) {base : Nat} {e : TypeId} {size g n cap : Nat} {xs zs : List Value} (cells : Array Value)
    (hO : w.ownsRow base e size (.slice (some ⟨g, 0, none⟩) (n + 1) cap) (n + 1) (xs ++ zs)) (hxs : xs.length = n * size) (hcs : cells.size = size)
    (hx : a.eval x = .pointer (some ⟨g, n * size, none⟩)) (hy : a.eval y = .agg cells) (hi : (P.info? ty).map (·.size) = some cells.size) (h1 : cells.all (·.oneCell') = true)
    (h : ∀ w', w'.ownsRow base e size (.slice (some ⟨g, 0, none⟩) (n + 1) cap) (n + 1) (xs ++ cells.toList) → Bes (· = g) w w' → K (a.put o.dst undef) w') : o.wp P a w K Q := by
  obtain ⟨h2, h3, h4⟩ := own_over hO hxs (vs := cells.toList) (by simpa using hcs)
  exact wp_store_mid ty x y ho g (n * size) cells hx hy (by rw [hcs]; exact h4) hi h1 (h _ h2 (h3 (· = g) rfl))
end Go.Proofs.YtbehakabglegjaaGreatDoor
namespace Go.Proofs.YtbehakabglegjaaGreatDoor
open Go.RowKit
theorem info_u8 : (Tryz.prog.info? 5).map (fun i => (i.zero, i.size, i.bytes)) = some (some (.int .u8 0), 1, 1) := by kernel_rfl
theorem u8_info : ∃ ie, Tryz.prog.info? 5 = some ie ∧ ie.zero = some (.int .u8 0) ∧ ie.size = 1 ∧ ie.bytes = 1 := by
  have h := info_u8
  cases hq : Tryz.prog.info? 5 with
  | none => rw [hq] at h; cases h
  | some ie =>
    rw [hq] at h
    simp only [Option.map_some, Option.some.injEq, Prod.mk.injEq] at h
    exact ⟨ie, rfl, h.1, h.2.1, h.2.2⟩
end Go.Proofs.YtbehakabglegjaaGreatDoor
namespace Go.Proofs.YtbehakabglegjaaGreatDoor
open Go.RowKit
set_option linter.unusedVariables false
set_option linter.unusedSimpArgs false
variable {ops : Array Oper} {rest : List Oper} {o : Oper} {a : Act} {w : World} {Q : Exit → Act → World → Prop}
/-- v is a row of these bytes of the call's own. -/
abbrev OwnB (w : World) (base : Nat) (v : Value) (l : List UInt8) : Prop := w.ownsRow base 5 1 v l.length (Lib.byteCells l)
theorem OwnB.nil (w : World) (base : Nat) : OwnB w base (.slice none 0 0) [] := ⟨rfl, .inl ⟨rfl, rfl⟩⟩
theorem OwnB.bes {w w' : World} {X : Nat → Prop} {base : Nat} {v : Value} {l : List UInt8} (h : OwnB w base v l) (hb : Bes X w w') (hX : ∀ k, X k → k < base) : OwnB w' base v l :=
  Bes.own hb h fun k hk hx => by have := (own_in h hk).1; have := hX k hx; omega
theorem OwnB.below {w w' : World} {base : Nat} {v : Value} {l : List UInt8} (h : OwnB w base v l) (hb : Below w.heap.size w w') : OwnB w' base v l := h.bes (X := fun _ => False) (Bes.of_below hb) (fun _ h => h.elim)
theorem bytes_one (l : List UInt8) : ∀ u ∈ Lib.byteCells l, u.oneCell' = true := by
  intro u hu
  unfold Lib.byteCells at hu
  obtain ⟨b, _, rfl⟩ := List.mem_map.1 hu
  rfl
/-- The row grown by the bytes of a row that lies whole in a block. -/
theorem wpl_append_bytes (hgd : o.guard = none) (s x : Operand) (t : TypeId) (ho : o.op = .call { callee := .builtin .append, args := #[s, x], argTypes := #[t, t] }) (ht : Tryz.prog.underlying t = some (.slice 5))
    (base : Nat) (v : Value) (l : List UInt8) (hs : a.eval s = v) (hown : OwnB w base v l)
    (g c : Nat) (m : List UInt8) (ty : TypeId) (k : Nat) (hk : k = m.length) (hx : a.eval x = .slice (some ⟨g, 0, none⟩) k c) (IB : ∀ (j : Nat) (u : Value), (Lib.byteCells m)[j]? = some u → w.cell? ⟨g, j, none⟩ = some u)
    (hl : l.length + m.length ≤ 140737488355328) (hbase : base ≤ w.heap.size)
    (h : ∀ v' w', OwnB w' base v' (l ++ m) → Bes (fun q => base ≤ q) w w' → Below base w w' → wpList Tryz.prog ops Q rest (a.put o.dst v') w') : wpList Tryz.prog ops Q (o :: rest) a w := by
  obtain ⟨ie, h1, h2, h3, h4⟩ := u8_info
  subst hk
  refine wpList_append_own w hgd s x t ho base 5 ie _ 1 1 ht h1 h2 h3 h4 rfl (by decide) v l.length (Lib.byteCells l) hs hown ⟨g, 0, none⟩ m.length c (Lib.byteCells m) hx (by rw [Lib.byteCells_length]; omega) ?_ (bytes_one m) (by unfold maxLen; omega) (by omega) hbase ?_
  · intro j u hu
    have hadd : (⟨g, 0, none⟩ : Addr).add j = ⟨g, j, none⟩ := by unfold Addr.add; split <;> simp_all
    rw [hadd]
    exact IB j u hu
  · intro v' w' h5 h6 _
    refine h v' w' ?_ (Bes.grown h6 fun k hk => (own_in hown hk).1) ((Below.refl base w).grown h6 hbase fun k hk => (hown.lt k hk).1)
    unfold OwnB
    rw [List.length_append, Lib.byteCells_append]
    exact h5
/-- Nothing is added. -/
theorem wpl_append_none (hgd : o.guard = none) (s x : Operand) (t : TypeId) (ho : o.op = .call { callee := .builtin .append, args := #[s, x], argTypes := #[t, t] }) (ht : Tryz.prog.underlying t = some (.slice 5))
    (base : Nat) (v : Value) (l : List UInt8) (hs : a.eval s = v) (hown : OwnB w base v l) (hx : a.eval x = .slice none 0 0)
    (h : wpList Tryz.prog ops Q rest (a.put o.dst v) w) : wpList Tryz.prog ops Q (o :: rest) a w := by
  obtain ⟨ie, h1, h2, h3, h4⟩ := u8_info
  exact wpList_append_own_none hgd s x t ho base 5 ie 1 ht h1 v l.length (Lib.byteCells l) hs hown hx h
theorem run_own_text {base : Nat} {v : Value} {l : List UInt8} {t u : TypeId} (ht : Tryz.prog.underlying t = some (.slice 5)) (hu : Tryz.prog.underlying u = some .string) (hown : OwnB w base v l) : (convert t u v).run Tryz.prog w = .ok (.string ⟨l.toArray⟩) w := by
  rcases hown.2 with ⟨rfl, h0⟩ | ⟨g, cap, cur, rfl, hb, hg, hn, hc, hs, htk⟩
  · have : l = [] := List.eq_nil_of_length_eq_zero h0
    subst this
    exact (run_convert_bytes_nil w t 5 ht Tryz.underlying5 0 0 u hu).trans (by rfl)
  · refine run_convert_bytes_back w t u 5 ⟨g, 0, none⟩ cap l ht Tryz.underlying5 hu fun j hj => ?_
    have hadd : (⟨g, 0, none⟩ : Addr).add j = ⟨g, j, none⟩ := by unfold Addr.add; split <;> simp_all
    have hI : IBox w g 5 cur := hg
    rw [hadd, hI.cell]
    have h1 : (Lib.byteCells l)[j]? = some (.int .u8 (l[j].toNat : Int)) := by
      unfold Lib.byteCells
      rw [List.getElem?_map, List.getElem?_eq_getElem hj]; rfl
    rw [← htk, List.getElem?_take] at h1
    split at h1
    · simpa using h1
    · cases h1
/-- The row as a text. -/
theorem wpl_own_text (hgd : o.guard = none) (x : Operand) (t u : TypeId) (ho : o.op = .convert t u x) (ht : Tryz.prog.underlying t = some (.slice 5)) (hu : Tryz.prog.underlying u = some .string) (base : Nat) (v : Value) (l : List UInt8) (hs : a.eval x = v) (hown : OwnB w base v l)
    (h : wpList Tryz.prog ops Q rest (a.put o.dst (.string ⟨l.toArray⟩)) w) : wpList Tryz.prog ops Q (o :: rest) a w :=
  wpList_plain hgd fun _ hK => by
    have e := run_own_text (t := t) (u := u) ht hu hown
    generalize hP : Tryz.prog = P at *
    unfold Oper.wp execOp
    simp only [ho, hs, Sem.run_bind, e, Result.andThen_ok, Sem.run_pure]
    exact hK _ _ h
theorem is_convert {P : Program} {d : Option Tmp} {t u : TypeId} {x : Operand} {tt : TypeId} {ps : String} {af : Array Edge} {gd : Option (Nat × Bool)} (h : wpList P ops Q (⟨d, .convert t u x, tt, ps, af, gd⟩ :: rest) a w) : wpList P ops Q (⟨d, .convert t u x, tt, ps, af, gd⟩ :: rest) a w := h
end Go.Proofs.YtbehakabglegjaaGreatDoor
namespace Go.Proofs.YtbehakabglegjaaGreatDoor
open Go.RowKit
set_option linter.unusedVariables false
set_option linter.unusedSimpArgs false
variable {ops : Array Oper} {rest : List Oper} {o : Oper} {a : Act} {w : World} {Q : Exit → Act → World → Prop}
/-- What lay below base is as it was, and so is every block that holds no bytes. -/
def KB (base : Nat) (w w' : World) : Prop := Below base w w' ∧ ∀ (g : Nat) (T : TypeId) (arr : Array Value), T ≠ 5 → IBox w g T arr → IBox w' g T arr
theorem KB.trans {base : Nat} {a b c : World} (h : KB base a b) (k : KB base b c) : KB base a c := ⟨h.1.trans k.1, fun g T arr hT hI => k.2 g T arr hT (h.2 g T arr hT hI)⟩
theorem KB.of {base : Nat} {w w' : World} (h : Below w.heap.size w w') (hb : base ≤ w.heap.size) : KB base w w' := ⟨h.mono hb, fun g T arr hT hI => IBox.below hI h (IBox.lt hI)⟩
theorem KB.refl {base : Nat} {w : World} (hb : base ≤ w.heap.size) : KB base w w := KB.of (Below.refl _ _) hb
theorem KB.up {base : Nat} {w w' : World} (h : KB base w w') {n : Nat} (hn : n ≤ w.heap.size) : n ≤ w'.heap.size := Nat.le_trans hn h.1.size
theorem KB.grown {base : Nat} {w w' : World} {v : Value} {l : List UInt8} (hO : OwnB w base v l) (h : w.grownBy w' v.ownBlock) (hb : base ≤ w.heap.size) : KB base w w' := by
  refine ⟨(Below.refl base w).grown h hb fun k hk => (hO.lt k hk).1, fun g T arr hT hI => ?_⟩
  refine Bes.box (Bes.grown (X := fun q => v.ownBlock = some q) h (fun _ e => e)) hI fun e => ?_
  rcases hO.2 with ⟨rfl, _⟩ | ⟨g2, cap, cur, rfl, _, hg, _⟩
  · cases e
  · have e2 : g2 = g := Option.some.inj e
    subst e2
    have e3 := hg.symm.trans hI
    injection e3 with e3
    injection e3 with _ e4 _
    exact hT e4.symm
theorem wpl_append_text (hgd : o.guard = none) (s x : Operand) (t u : TypeId) (ho : o.op = .call { callee := .builtin .append, args := #[s, x], argTypes := #[t, u] }) (ht : Tryz.prog.underlying t = some (.slice 5)) (hu : Tryz.prog.underlying u = some .string)
    (base : Nat) (v : Value) (l : List UInt8) (hs : a.eval s = v) (hown : OwnB w base v l) (x0 : ByteArray) (hx : a.eval x = .string x0) (hl : l.length + x0.size ≤ 140737488355328) (hbase : base ≤ w.heap.size)
    (h : ∀ v' w', OwnB w' base v' (l ++ x0.data.toList) → KB base w w' → wpList Tryz.prog ops Q rest (a.put o.dst v') w') : wpList Tryz.prog ops Q (o :: rest) a w := by
  obtain ⟨ie, h1, h2, h3, h4⟩ := u8_info
  refine Go.Lib.wpList_append_own_string w hgd s x t u ho base 5 ie ht hu h1 h2 h3 h4 v l.length (Lib.byteCells l) hs hown x0 hx (by unfold maxLen; omega) hl hbase ?_
  intro v' w' h5 h6 _
  refine h v' w' ?_ (KB.grown hown h6 hbase)
  unfold OwnB
  rw [List.length_append, Lib.byteCells_append, show x0.data.toList.length = x0.size by simp]
  exact h5
theorem wpl_append_bytesK (hgd : o.guard = none) (s x : Operand) (t : TypeId) (ho : o.op = .call { callee := .builtin .append, args := #[s, x], argTypes := #[t, t] }) (ht : Tryz.prog.underlying t = some (.slice 5))
    (base : Nat) (v : Value) (l : List UInt8) (hs : a.eval s = v) (hown : OwnB w base v l)
    (g c : Nat) (m : List UInt8) (k : Nat) (hk : k = m.length) (hx : a.eval x = .slice (some ⟨g, 0, none⟩) k c) (IB : ∀ (j : Nat) (u : Value), (Lib.byteCells m)[j]? = some u → w.cell? ⟨g, j, none⟩ = some u)
    (hl : l.length + m.length ≤ 140737488355328) (hbase : base ≤ w.heap.size)
    (h : ∀ v' w', OwnB w' base v' (l ++ m) → KB base w w' → wpList Tryz.prog ops Q rest (a.put o.dst v') w') : wpList Tryz.prog ops Q (o :: rest) a w := by
  obtain ⟨ie, h1, h2, h3, h4⟩ := u8_info
  subst hk
  refine wpList_append_own w hgd s x t ho base 5 ie _ 1 1 ht h1 h2 h3 h4 rfl (by decide) v l.length (Lib.byteCells l) hs hown ⟨g, 0, none⟩ m.length c (Lib.byteCells m) hx (by rw [Lib.byteCells_length]; omega) ?_ (bytes_one m) (by unfold maxLen; omega) (by omega) hbase ?_
  · intro j u hu
    have hadd : (⟨g, 0, none⟩ : Addr).add j = ⟨g, j, none⟩ := by unfold Addr.add; split <;> simp_all
    rw [hadd]
    exact IB j u hu
  · intro v' w' h5 h6 _
    refine h v' w' ?_ (KB.grown hown h6 hbase)
    unfold OwnB
    rw [List.length_append, Lib.byteCells_append]
    exact h5
/-- The same as one operation of a region that draws its order. -/
theorem op_append_bytes {K : Act → World → Prop} (s x : Operand) (t : TypeId) (ho : o.op = .call { callee := .builtin .append, args := #[s, x], argTypes := #[t, t] }) (ht : Tryz.prog.underlying t = some (.slice 5))
    (base : Nat) (v : Value) (l : List UInt8) (hs : a.eval s = v) (hown : OwnB w base v l)
    (g c : Nat) (m : List UInt8) (k : Nat) (hk : k = m.length) (hx : a.eval x = .slice (some ⟨g, 0, none⟩) k c) (IB : ∀ (j : Nat) (u : Value), (Lib.byteCells m)[j]? = some u → w.cell? ⟨g, j, none⟩ = some u)
    (hl : l.length + m.length ≤ 140737488355328) (hbase : base ≤ w.heap.size)
    (h : ∀ v' w', OwnB w' base v' (l ++ m) → KB base w w' → K (a.put o.dst v') w') : o.wp Tryz.prog a w K Q := by
  obtain ⟨ie, h1, h2, h3, h4⟩ := u8_info
  subst hk
  obtain ⟨v', w', hr, h5, h6, _, _⟩ := run_append_own_at (P := Tryz.prog) w base t o.type 5 ie _ 1 1 ht h1 h2 h3 h4 rfl (by decide) v l.length (Lib.byteCells l) hown ⟨g, 0, none⟩ m.length c (Lib.byteCells m) (by rw [Lib.byteCells_length]; omega) (fun j u hu => by
    have hadd : (⟨g, 0, none⟩ : Addr).add j = ⟨g, j, none⟩ := by unfold Addr.add; split <;> simp_all
    rw [hadd]
    exact IB j u hu) (bytes_one m) (by unfold maxLen; omega) (by omega) hbase
  have hfin := h v' w' (by unfold OwnB; rw [List.length_append, Lib.byteCells_append]; exact h5) (KB.grown hown h6 hbase)
  generalize hP : Tryz.prog = P at *
  unfold Oper.wp execOp
  simp only [ho, resolve, invoke, builtin, Sem.run_bind, Sem.run_pure, Result.andThen_ok, List.map_toArray, List.map_cons, List.map_nil, hs, hx, hr]
  exact hfin
theorem bfill1 (p : Int) : Instr.fill (fun i => some (i * 1, 1)) ((Array.range (1 * 1)).map ((Value.int .u8 0).cells[· % (Value.int .u8 0).cells.size]!)) [(0, .int .u8 p)] = some #[.int .u8 p] := by kernel_rfl
theorem bfill2 (p q : Int) : Instr.fill (fun i => some (i * 1, 1)) ((Array.range (2 * 1)).map ((Value.int .u8 0).cells[· % (Value.int .u8 0).cells.size]!)) [(0, .int .u8 p), (1, .int .u8 q)] = some #[.int .u8 p, .int .u8 q] := by kernel_rfl
theorem bfill6 (p q r x y z : Int) : Instr.fill (fun i => some (i * 1, 1)) ((Array.range (6 * 1)).map ((Value.int .u8 0).cells[· % (Value.int .u8 0).cells.size]!)) [(0, .int .u8 p), (1, .int .u8 q), (2, .int .u8 r), (3, .int .u8 x), (4, .int .u8 y), (5, .int .u8 z)] = some #[.int .u8 p, .int .u8 q, .int .u8 r, .int .u8 x, .int .u8 y, .int .u8 z] := by kernel_rfl
theorem IBox.cells {w : World} {g : Nat} {t : TypeId} {arr : Array Value} (h : IBox w g t arr) {m : List UInt8} (hm : arr.toList = Lib.byteCells m) : ∀ (j : Nat) (u : Value), (Lib.byteCells m)[j]? = some u → w.cell? ⟨g, j, none⟩ = some u := fun j u hu => by
  rw [h.cell, ← Array.getElem?_toList, hm]
  exact hu
/-- A row that lies whole in a block of the call's own. -/
theorem own_box {w : World} {base g : Nat} {arr : Array Value} {m : List UInt8} {n : Nat} (h : IBox w g 5 arr) (hm : arr.toList = Lib.byteCells m) (hb : base ≤ g) (hn : m.length = n) (hmax : n ≤ maxLen) : OwnB w base (.slice (some ⟨g, 0, none⟩) n n) m := by
  subst hn
  have hl : arr.size = m.length := by rw [← Array.length_toList, hm, Lib.byteCells_length]
  refine ⟨by rw [Lib.byteCells_length]; omega, .inr ⟨g, m.length, arr, rfl, hb, h, Nat.le_refl _, hmax, by omega, ?_⟩⟩
  rw [hm, List.take_of_length_le (by rw [Lib.byteCells_length]; omega)]
end Go.Proofs.YtbehakabglegjaaGreatDoor
