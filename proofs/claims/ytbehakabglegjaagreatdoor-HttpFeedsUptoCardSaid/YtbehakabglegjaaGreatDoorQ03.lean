/- Stores into a row of the call's own; what else is kept (Bes); operations of a drawn region that write. Bytes in memory: what the program says of their type. Rows of bytes of the call's own: appending a row that lies whole in a block, appending none, the row as a text. -/
import Derived.Deep.AppendLies
import Derived.Test.YtbehakabglegjaaGreatDoorQ02
import Derived.Laws.AppendOwnNone
import Derived.Laws.IdiomStrings
namespace Go.Proofs.YtbehakabglegjaaGreatDoor
open Go.RowKit
set_option linter.unusedVariables false
set_option linter.unusedSimpArgs false

/-- From w to w' nothing has changed but the blocks of X (and new ones). -/
structure Bes (X : Nat → Prop) (w w' : World) : Prop where
  os : w'.os = w.os
  tape : w'.tape = w.tape
  output : w'.output = w.output
  size : w.heap.size ≤ w'.heap.size
  block : ∀ k, k < w.heap.size → ¬ X k → w'.heap[k]? = w.heap[k]?
theorem Bes.trans {X Y Z : Nat → Prop} {a b c : World} (h : Bes X a b) (k : Bes Y b c) (hX : ∀ i, X i → Z i) (hY : ∀ i, i < a.heap.size → Y i → Z i) : Bes Z a c :=
  ⟨k.os.trans h.os, k.tape.trans h.tape, k.output.trans h.output, Nat.le_trans h.size k.size, fun i hi hn => (k.block i (Nat.lt_of_lt_of_le hi h.size) (fun y => hn (hY i hi y))).trans (h.block i hi (fun x => hn (hX i x)))⟩
theorem Bes.below {X : Nat → Prop} {w w' : World} (h : Bes X w w') {B : Nat} (hX : ∀ k, X k → B ≤ k) (hB : B ≤ w.heap.size) : Below B w w' :=
  ⟨h.os, h.tape, h.output, h.size, fun k hk => h.block k (Nat.lt_of_lt_of_le hk hB) (fun x => by have := hX k x; omega)⟩
theorem Bes.of_below {X : Nat → Prop} {w w' : World} (h : Below w.heap.size w w') : Bes X w w' := ⟨h.os, h.tape, h.output, h.size, fun k hk _ => h.block k hk⟩
theorem Bes.of_heap {X : Nat → Prop} {w w' : World} (h : Below w.heap.size w w') : Bes X w w' := Bes.of_below h
theorem Bes.row {X : Nat → Prop} {w w' : World} {g : Nat} {arr : Array Value} (h : Hid (w' = w.setRow g arr)) (hg : X g) : Bes X w w' := by
  have e := h.out
  subst e
  have hb := below_setRow (Below.refl g w) (Nat.le_refl g) arr
  exact ⟨hb.os, hb.tape, hb.output, by rw [size_setRow]; exact Nat.le_refl _, fun k hk hn => setRow_other w g k arr (fun e => hn (e ▸ hg))⟩
theorem Bes.grown {X : Nat → Prop} {w w' : World} {r : Option Nat} (h : w.grownBy w' r) (hr : ∀ k, r = some k → X k) : Bes X w w' :=
  ⟨h.os, h.tape, h.output, h.size, fun k hk hn => h.block k hk (fun e => hn (hr k e.symm))⟩
theorem Bes.box {X : Nat → Prop} {w w' : World} (h : Bes X w w') {g : Nat} {t : TypeId} {arr : Array Value} (hI : IBox w g t arr) (hn : ¬ X g) : IBox w' g t arr := (h.block g hI.lt hn).trans hI
theorem Bes.own {X : Nat → Prop} {w w' : World} (h : Bes X w w') {base : Nat} {e : TypeId} {size : Nat} {v : Value} {n : Nat} {xs : List Value} (hO : w.ownsRow base e size v n xs) (hn : ∀ k, v.ownBlock = some k → ¬ X k) : w'.ownsRow base e size v n xs := by
  refine ⟨hO.1, ?_⟩
  rcases hO.2 with h0 | ⟨g, cap, cur, rfl, hb, hg, rest⟩
  · exact .inl h0
  · exact .inr ⟨g, cap, cur, rfl, hb, (h.block g (Array.getElem?_eq_some_iff.1 hg).1 (hn g rfl)).trans hg, rest⟩
theorem own_in {w : World} {base : Nat} {e : TypeId} {size : Nat} {v : Value} {n : Nat} {xs : List Value} (hO : w.ownsRow base e size v n xs) {k : Nat} (hk : v.ownBlock = some k) : base ≤ k ∧ k < w.heap.size := by
  rcases hO.2 with ⟨rfl, _⟩ | ⟨g, cap, cur, rfl, hb, hg, _⟩
  · simp [Value.ownBlock] at hk
  · have : g = k := by simpa [Value.ownBlock] using hk
    subst this
    exact ⟨hb, (Array.getElem?_eq_some_iff.1 hg).1⟩
theorem box_heap {w w' : World} (e : w'.heap = w.heap) {g : Nat} {t : TypeId} {arr : Array Value} (h : IBox w g t arr) : IBox w' g t arr := by unfold IBox at *; rw [e]; exact h
/-- Cells laid over a row. -/
def over (cur : Array Value) : Nat → List Value → Array Value
  | _, [] => cur
  | o, v :: r => over (cur.setIfInBounds o v) (o + 1) r
theorem over_size : ∀ (vs : List Value) (o : Nat) (cur : Array Value), (over cur o vs).size = cur.size
  | [], _, _ => rfl
  | v :: r, o, cur => by unfold over; rw [over_size r]; simp
theorem over_get : ∀ (vs : List Value) (o : Nat) (cur : Array Value) (k : Nat), o + vs.length ≤ cur.size → (over cur o vs)[k]? = if o ≤ k ∧ k < o + vs.length then vs[k - o]? else cur[k]?
  | [], o, cur, k, _ => by
    unfold over
    rw [if_neg (by simp only [List.length_nil]; omega)]
  | v :: r, o, cur, k, h => by
    unfold over
    have h' : o + (r.length + 1) ≤ cur.size := h
    rw [over_get r (o + 1) _ k (by rw [Array.size_setIfInBounds]; omega)]
    simp only [List.length_cons]
    by_cases h1 : o + 1 ≤ k ∧ k < o + 1 + r.length
    · rw [if_pos h1, if_pos (by omega), show k - o = (k - (o + 1)) + 1 from by omega, List.getElem?_cons_succ]
    · rw [if_neg h1]
      by_cases h2 : k = o
      · subst h2
        rw [if_pos (by omega), Nat.sub_self, List.getElem?_cons_zero, Array.getElem?_setIfInBounds_self_of_lt (by omega)]
      · rw [if_neg (by omega), Array.getElem?_setIfInBounds_ne (Ne.symm h2)]
theorem setCells_box {g : Nat} {t : TypeId} : ∀ (vs : List Value) (o : Nat) (cur : Array Value) (w : World), IBox w g t cur → IBox (w.setCells g o vs) g t (over cur o vs)
  | [], _, _, _, h => h
  | v :: r, o, cur, w, h => by
    unfold World.setCells over
    refine setCells_box r (o + 1) _ _ ?_
    rw [setCell_eq_setRow w g o cur t (0, 0) v h]
    exact h.row _
theorem setCells_bes {X : Nat → Prop} {g : Nat} {t : TypeId} (hX : X g) : ∀ (vs : List Value) (o : Nat) (cur : Array Value) (w : World), IBox w g t cur → Bes X w (w.setCells g o vs)
  | [], _, _, w, h => Bes.of_below (Below.refl _ _)
  | v :: r, o, cur, w, h => by
    unfold World.setCells
    have e := setCell_eq_setRow w g o cur t (0, 0) v h
    have hI : IBox (w.setCell ⟨g, o, none⟩ v) g t (cur.setIfInBounds o v) := by rw [e]; exact h.row _
    exact (Bes.row (X := X) (rfl : Hid _) hX).trans (by rw [← e]; exact setCells_bes hX r (o + 1) _ _ hI) (fun _ x => x) (fun _ _ x => x)
variable {P : Program} {o : Oper} {a : Act} {w : World} {Q : Exit → Act → World → Prop} {K : Act → World → Prop} {ops : Array Oper}
theorem wp_region_S {S : World → Prop} {id : Nat} (hm : P.follows .mixedOrders = true) (hS : ∀ w2 : World, w2.heap = w.heap → S w2)
    (h : ∀ w2 : World, w2.heap = w.heap → (∀ B, B ≤ w.heap.size → Below B w w2) → S w2 → wpAnyH P .any ops Q S ops.size (Array.replicate ops.size false) a w2) : (Code.region id ops true).wp P Q a w :=
  wp_region_held_drew hm (hS _ rfl) fun h1 => h _ rfl (fun B hB => ⟨rfl, rfl, rfl, Nat.le_refl _, fun _ _ => rfl⟩) h1
theorem op_store_cell (ty : TypeId) (x y : Operand) (ho : o.op = .store ty x y) (g off : Nat) (hx : a.eval x = .pointer (some ⟨g, off, none⟩)) (v : Value) (hy : a.eval y = v)
    (t : TypeId) (old : Array Value) (hg : IBox w g t old) (hoff : off < old.size) (hi : (P.info? ty).map (·.size) = some 1) (h1 : v.oneCell' = true)
    (h : ∀ w', Hid (w' = w.setRow g (old.setIfInBounds off v)) → K (a.put o.dst undef) w') : o.wp P a w K Q := by
  have hc : v.cells = #[v] := by cases v <;> first | rfl | cases h1
  have ht : w.there g off 1 := fun j hj => by
    obtain rfl : j = 0 := by omega
    refine ⟨?_, hg.frozen off⟩
    rw [Nat.add_zero, hg.cell off, Array.getElem?_eq_getElem hoff]
    rfl
  have hrun : (storeVar ty ⟨g, off, none⟩ v).run P w = .ok () (w.setCells g off [v]) := by
    have := run_storeVar_mid (P := P) w g off ty #[v] ht hi (by simp [h1])
    unfold storeVar at this ⊢
    rw [hc]
    exact this
  have hset : w.setCells g off [v] = w.setRow g (old.setIfInBounds off v) := by
    rw [← setCell_eq_setRow w g off old t (0, 0) v hg]
    simp [World.setCells]
  unfold Oper.wp execOp
  simp only [ho, hx, hy, Instr.storeAt, Instr.sureAddr, Sem.run_bind, Sem.run_pure, Result.andThen_ok, hrun]
  rw [hset]
  exact h _ rfl
theorem op_slice_at (len : Nat) (vals : List (Nat × Value)) (cells : Array Value) (ie : TypeInfo) (z : Value)
    (hf : Instr.fill (fun i => some (i * ie.size, ie.size)) ((Array.range (len * ie.size)).map (z.cells[· % z.cells.size]!)) vals = some cells)
    (t e : TypeId) (parts : Array (Nat × Operand)) (ho : o.op = .buildSlice t len parts) (hv : parts.toList.map (fun x => (x.1, a.eval x.2)) = vals)
    (hu : P.underlying t = some (.slice e)) (hie : P.info? e = some ie) (hz : ie.zero = some z) (hsmall : ¬ len * ie.size > 2 ^ 24) (hpos : ¬ len * ie.size = 0)
    (h : ∀ w', Hid (w' = w.alloc (.cells cells e)) → K (a.put o.dst (.slice (some ⟨w.heap.size, 0, none⟩) len len)) w') : o.wp P a w K Q :=
  wp_buildSlice t e len parts ho cells ie z hu hie hz hsmall hpos (by rw [parts_vals parts vals hv]; exact hf) (h _ rfl)
theorem op_append_at (s x : Operand) (t : TypeId) (ho : o.op = .call { callee := .builtin .append, args := #[s, x], argTypes := #[t, t] })
    (base : Nat) (e : TypeId) (i : TypeInfo) (z : Value) (size bytes : Nat) (ht : P.underlying t = some (.slice e)) (hi : P.info? e = some i) (hz : i.zero = some z)
    (hsize : i.size = size) (hby : i.bytes = bytes) (hzs : z.cells.size = size) (hsz : 0 < size)
    (v : Value) (n : Nat) (xs : List Value) (hs : a.eval s = v) (hown : w.ownsRow base e size v n xs)
    (g c : Nat) (cells : Array Value) (ty : TypeId) (IB : IBox w g ty cells) (hcs : cells.size = size) (hx : a.eval x = .slice (some ⟨g, 0, none⟩) 1 c) (h1 : cells.all (·.oneCell') = true)
    (h63 : n + 1 ≤ maxLen) (hbytes : (n + 1) * bytes ≤ 140737488355328) (hbase : base ≤ w.heap.size)
    (h : ∀ g cap w', w'.ownsRow base e size (.slice (some ⟨g, 0, none⟩) (n + 1) cap) (n + 1) (xs ++ cells.toList) → w.grownBy w' v.ownBlock → (v.ownBlock = some g ∨ g = w.heap.size) → g < w'.heap.size → K (a.put o.dst (.slice (some ⟨g, 0, none⟩) (n + 1) cap)) w') : o.wp P a w K Q :=
  wp_append_lies w s x t ho base e i z size bytes ht hi hz hsize hby hzs hsz v n xs hs hown ⟨g, 0, none⟩ 1 c cells.toList hx (by simp [hcs]) (World.news_of_block IB)
    (fun u hu => Array.all_eq_true_iff_forall_mem.1 h1 u (by simpa using hu)) (by omega) h63 hbytes hbase _ rfl h
end Go.Proofs.YtbehakabglegjaaGreatDoor
namespace Go.Proofs.YtbehakabglegjaaGreatDoor
open Go.RowKit
theorem info_u8 : (Tryz.prog.info? 5).map (fun i => (i.zero, i.size, i.bytes)) = some (some (.int .u8 0), 1, 1) := by kernel_rfl
theorem u8_info : ∃ ie, Tryz.prog.info? 5 = some ie ∧ ie.zero = some (.int .u8 0) ∧ ie.size = 1 ∧ ie.bytes = 1 := by
  have h := info_u8
  cases hq : Tryz.prog.info? 5 with
  | none => rw [hq] at h; cases h
  | some ie =>
    rw [hq] at h
    simp only [Option.map_some, Option.some.injEq, Prod.mk.injEq] at h
    exact ⟨ie, rfl, h.1, h.2.1, h.2.2⟩
end Go.Proofs.YtbehakabglegjaaGreatDoor
namespace Go.Proofs.YtbehakabglegjaaGreatDoor
open Go.RowKit
set_option linter.unusedVariables false
set_option linter.unusedSimpArgs false
variable {ops : Array Oper} {rest : List Oper} {o : Oper} {a : Act} {w : World} {Q : Exit → Act → World → Prop}
/-- v is a row of these bytes of the call's own. -/
abbrev OwnB (w : World) (base : Nat) (v : Value) (l : List UInt8) : Prop := w.ownsRow base 5 1 v l.length (Lib.byteCells l)
theorem OwnB.nil (w : World) (base : Nat) : OwnB w base (.slice none 0 0) [] := ⟨rfl, .inl ⟨rfl, rfl⟩⟩
theorem OwnB.bes {w w' : World} {X : Nat → Prop} {base : Nat} {v : Value} {l : List UInt8} (h : OwnB w base v l) (hb : Bes X w w') (hX : ∀ k, X k → k < base) : OwnB w' base v l :=
  Bes.own hb h fun k hk hx => by have := (own_in h hk).1; have := hX k hx; omega
theorem OwnB.below {w w' : World} {base : Nat} {v : Value} {l : List UInt8} (h : OwnB w base v l) (hb : Below w.heap.size w w') : OwnB w' base v l := h.bes (X := fun _ => False) (Bes.of_below hb) (fun _ h => h.elim)
theorem bytes_one (l : List UInt8) : ∀ u ∈ Lib.byteCells l, u.oneCell' = true := by
  intro u hu
  unfold Lib.byteCells at hu
  obtain ⟨b, _, rfl⟩ := List.mem_map.1 hu
  rfl
/-- The row grown by the bytes of a row that lies whole in a block. -/
theorem wpl_append_bytes (hgd : o.guard = none) (s x : Operand) (t : TypeId) (ho : o.op = .call { callee := .builtin .append, args := #[s, x], argTypes := #[t, t] }) (ht : Tryz.prog.underlying t = some (.slice 5))
    (base : Nat) (v : Value) (l : List UInt8) (hs : a.eval s = v) (hown : OwnB w base v l)
    (g c : Nat) (m : List UInt8) (ty : TypeId) (k : Nat) (hk : k = m.length) (hx : a.eval x = .slice (some ⟨g, 0, none⟩) k c) (IB : ∀ (j : Nat) (u : Value), (Lib.byteCells m)[j]? = some u → w.cell? ⟨g, j, none⟩ = some u)
    (hl : l.length + m.length ≤ 140737488355328) (hbase : base ≤ w.heap.size)
    (h : ∀ v' w', OwnB w' base v' (l ++ m) → Bes (fun q => base ≤ q) w w' → Below base w w' → wpList Tryz.prog ops Q rest (a.put o.dst v') w') : wpList Tryz.prog ops Q (o :: rest) a w := by
  obtain ⟨ie, h1, h2, h3, h4⟩ := u8_info
  subst hk
  refine wpList_append_own w hgd s x t ho base 5 ie _ 1 1 ht h1 h2 h3 h4 rfl (by decide) v l.length (Lib.byteCells l) hs hown ⟨g, 0, none⟩ m.length c (Lib.byteCells m) hx (by rw [Lib.byteCells_length]; omega) ?_ (bytes_one m) (by unfold maxLen; omega) (by omega) hbase ?_
  · intro j u hu
    have hadd : (⟨g, 0, none⟩ : Addr).add j = ⟨g, j, none⟩ := by unfold Addr.add; split <;> simp_all
    rw [hadd]
    exact IB j u hu
  · intro v' w' h5 h6 _
    refine h v' w' ?_ (Bes.grown h6 fun k hk => (own_in hown hk).1) ((Below.refl base w).grown h6 hbase fun k hk => (hown.lt k hk).1)
    unfold OwnB
    rw [List.length_append, Lib.byteCells_append]
    exact h5
theorem run_own_text {base : Nat} {v : Value} {l : List UInt8} {t u : TypeId} (ht : Tryz.prog.underlying t = some (.slice 5)) (hu : Tryz.prog.underlying u = some .string) (hown : OwnB w base v l) : (convert t u v).run Tryz.prog w = .ok (.string ⟨l.toArray⟩) w := by
  rcases hown.2 with ⟨rfl, h0⟩ | ⟨g, cap, cur, rfl, hb, hg, hn, hc, hs, htk⟩
  · have : l = [] := List.eq_nil_of_length_eq_zero h0
    subst this
    exact (run_convert_bytes_nil w t 5 ht Tryz.underlying5 0 0 u hu).trans (by rfl)
  · refine run_convert_bytes_back w t u 5 ⟨g, 0, none⟩ cap l ht Tryz.underlying5 hu fun j hj => ?_
    have hadd : (⟨g, 0, none⟩ : Addr).add j = ⟨g, j, none⟩ := by unfold Addr.add; split <;> simp_all
    have hI : IBox w g 5 cur := hg
    rw [hadd, hI.cell]
    have h1 : (Lib.byteCells l)[j]? = some (.int .u8 (l[j].toNat : Int)) := by
      unfold Lib.byteCells
      rw [List.getElem?_map, List.getElem?_eq_getElem hj]; rfl
    rw [← htk, List.getElem?_take] at h1
    split at h1
    · simpa using h1
    · cases h1
/-- The row as a text. -/
theorem wpl_own_text (hgd : o.guard = none) (x : Operand) (t u : TypeId) (ho : o.op = .convert t u x) (ht : Tryz.prog.underlying t = some (.slice 5)) (hu : Tryz.prog.underlying u = some .string) (base : Nat) (v : Value) (l : List UInt8) (hs : a.eval x = v) (hown : OwnB w base v l)
    (h : wpList Tryz.prog ops Q rest (a.put o.dst (.string ⟨l.toArray⟩)) w) : wpList Tryz.prog ops Q (o :: rest) a w :=
  wpList_plain hgd fun _ hK => by
    have e := run_own_text (t := t) (u := u) ht hu hown
    generalize hP : Tryz.prog = P at *
    unfold Oper.wp execOp
    simp only [ho, hs, Sem.run_bind, e, Result.andThen_ok, Sem.run_pure]
    exact hK _ _ h
theorem is_convert {P : Program} {d : Option Tmp} {t u : TypeId} {x : Operand} {tt : TypeId} {ps : String} {af : Array Edge} {gd : Option (Nat × Bool)} (h : wpList P ops Q (⟨d, .convert t u x, tt, ps, af, gd⟩ :: rest) a w) : wpList P ops Q (⟨d, .convert t u x, tt, ps, af, gd⟩ :: rest) a w := h
end Go.Proofs.YtbehakabglegjaaGreatDoor
