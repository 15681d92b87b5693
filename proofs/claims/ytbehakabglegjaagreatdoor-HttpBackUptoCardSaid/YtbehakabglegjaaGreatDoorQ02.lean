/- Laws at the operation, for structs as opaque arrays and worlds as opaque letters. A store into one cell of a box; a row of structs built at once. Worlds as letters. Appending one element to a row of the call's own; worlds as letters. Regions that draw their order and read first, then go on in one forced order: the drawn world is a letter; loads of structs as opaque arrays. Regions that draw their order and hold calls that make memory: whatever stands below the region's own start is kept, so every read of it may be taken first. A new variable and a store into it, as single operations of a region that draws its order. Worlds behind a draw; what the texts on values, rows and regions stand on. Stores into a row of the call's own; what else is kept (Bes); operations of a drawn region that write. -/
import Derived.Deep.WholeRow
import Derived.Test.YtbehakabglegjaaGreatDoorQ01
import Derived.Great.BuildSlice
import Derived.Deep.MidRow
import Derived.StillTailTactics
import Derived.Deep.RegionHeld3
import Derived.Deep.DrawnRows
import Derived.Deep.AppendLies
namespace Go.Proofs.YtbehakabglegjaaGreatDoor
open Go.RowKit
set_option linter.unusedVariables false
variable {P : Program} {ops : Array Oper} {rest : List Oper} {o : Oper} {a : Act} {w : World} {Q : Exit → Act → World → Prop}

theorem wpl_load_arr (hgd : o.guard = none) (ty : TypeId) (x : Operand) (ho : o.op = .load ty x) (b off : Nat) (hx : a.eval x = .pointer (some ⟨b, off, none⟩)) (arr : Array Value) (d : TypeDesc)
    (hc : w.rangeAt b off arr.toList) (hu : P.underlying ty = some d) (hd : d.isRow = true) (hi : (P.info? ty).map (·.size) = some arr.size)
    (h : wpList P ops Q rest (a.put o.dst (.agg arr)) w) : wpList P ops Q (o :: rest) a w := by
  refine wpList_load_mid hgd ty x ho b off hx arr.toList d hc hu hd (by simpa using hi) ?_
  rw [Array.toArray_toList]; exact h

theorem wpl_load_box (hgd : o.guard = none) (ty : TypeId) (x : Operand) (ho : o.op = .load ty x) (g : Nat) (hx : a.eval x = .pointer (some ⟨g, 0, none⟩)) (t : TypeId) (arr : Array Value) (d : TypeDesc)
    (hc : IBox w g t arr) (hu : P.underlying ty = some d) (hd : d.isRow = true) (hi : (P.info? ty).map (·.size) = some arr.size)
    (h : wpList P ops Q rest (a.put o.dst (.agg arr)) w) : wpList P ops Q (o :: rest) a w := by
  refine wpl_load_arr hgd ty x ho g 0 hx arr d (fun j v hv => ?_) hu hd hi h
  rw [Nat.zero_add, hc.cell j]
  simpa using hv

theorem hid_alloc0 {w w' : World} {z : Array Value} {t : TypeId} (h : Hid (w' = w.alloc (.cells z t))) : IBox w' w.heap.size t z := by
  have e := h.out
  subst e
  exact IBox.new _ _ _

theorem wpl_alloc_at (hgd : o.guard = none) (ty : TypeId) (ho : o.op = .alloc ty) (z : Array Value) (hz : ∀ w, (zeroValue ty).run P w = .ok (.agg z) w)
    (h : ∀ w', Hid (w' = w.alloc (.cells z ty)) → wpList P ops Q rest (a.put o.dst (.pointer (some ⟨w.heap.size, 0, none⟩))) w') : wpList P ops Q (o :: rest) a w :=
  wpList_plain hgd fun _ hK => by
    unfold Oper.wp execOp
    simp [ho, Instr.alloc, Sem.run_bind, hz, newVar, Value.cells]
    exact hK _ _ (h _ rfl)

theorem wpl_store_at (hgd : o.guard = none) (ty : TypeId) (x y : Operand) (ho : o.op = .store ty x y) (g : Nat) (cells : Array Value) (hx : a.eval x = .pointer (some ⟨g, 0, none⟩)) (hy : a.eval y = .agg cells)
    (t : TypeId) (old : Array Value) (hg : IBox w g t old) (hi : (P.info? ty).map (·.size) = some cells.size) (hold : old.size = cells.size) (h1 : cells.all (·.oneCell') = true)
    (h : ∀ w', Hid (w' = w.setRow g cells) → wpList P ops Q rest (a.put o.dst undef) w') : wpList P ops Q (o :: rest) a w :=
  wpl_store_row hgd ty x y ho g cells hx hy t old hg hi hold h1 (h _ rfl)

theorem wpl_box_at (hgd : o.guard = none) (ty : TypeId) (x : Operand) (ho : o.op = .box ty x) (arr : Array Value) (hx : a.eval x = .agg arr)
    (h : ∀ w', Hid (w' = w.alloc (.cells arr ty)) → wpList P ops Q rest (a.put o.dst (.pointer (some ⟨w.heap.size, 0, none⟩))) w') : wpList P ops Q (o :: rest) a w :=
  wpList_plain hgd fun _ hK => by
    unfold Oper.wp execOp
    simp [ho, hx]
    exact hK _ _ (h _ rfl)

/-- A new variable and what is stored into it at once. -/
theorem wpl_newbox {o2 : Oper} (d : Tmp) (hgd : o.guard = none) (hdst : o.dst = some d) (ty : TypeId) (ho : o.op = .alloc ty) (hgd2 : o2.guard = none) (y : Operand) (ho2 : o2.op = .store ty (.tmp d) y) (z : Array Value) (hz : ∀ w, (zeroValue ty).run P w = .ok (.agg z) w)
    (cells : Array Value) (hx : (a.put o.dst (.pointer (some ⟨w.heap.size, 0, none⟩))).eval (.tmp d) = .pointer (some ⟨w.heap.size, 0, none⟩)) (hy : (a.put o.dst (.pointer (some ⟨w.heap.size, 0, none⟩))).eval y = .agg cells)
    (hi : (P.info? ty).map (·.size) = some cells.size) (hold : z.size = cells.size) (h1 : cells.all (·.oneCell') = true)
    (h : ∀ w', Hid (w' = w.alloc (.cells cells ty)) → wpList P ops Q rest ((a.put o.dst (.pointer (some ⟨w.heap.size, 0, none⟩))).put o2.dst undef) w') : wpList P ops Q (o :: o2 :: rest) a w := by
  refine wpl_alloc_at hgd ty ho z hz fun w1 hw1 => ?_
  have hI := hid_alloc0 hw1
  refine wpl_store_row hgd2 ty (.tmp d) y ho2 w.heap.size cells hx hy ty z hI hi hold h1 ?_
  refine h _ ?_
  have e := hw1.out
  subst e
  exact World.setRow_alloc_new w z cells ty

/-! What a hidden step gives. -/
theorem hid_alloc {w w' : World} {z : Array Value} {t : TypeId} (h : Hid (w' = w.alloc (.cells z t))) : IBox w' w.heap.size t z ∧ w'.heap.size = w.heap.size + 1 ∧ Below w.heap.size w w' := by
  have e := h.out
  subst e
  exact ⟨IBox.new _ _ _, by simp, (Below.refl _ _).alloc (Nat.le_refl _) _⟩
theorem hid_alloc_old {w w' : World} {z arr : Array Value} {t t' : TypeId} {g : Nat} (h : Hid (w' = w.alloc (.cells z t))) (hb : IBox w g t' arr) : IBox w' g t' arr := by
  have e := h.out
  subst e
  exact hb.alloc _
theorem hid_row {w w' : World} {g : Nat} {t : TypeId} {old arr : Array Value} (h : Hid (w' = w.setRow g arr)) (hb : IBox w g t old) : IBox w' g t arr := by
  have e := h.out
  subst e
  exact hb.row _
theorem hid_row_other {w w' : World} {g k : Nat} {t : TypeId} {arr cs : Array Value} (h : Hid (w' = w.setRow k cs)) (hk : g ≠ k) (hb : IBox w g t arr) : IBox w' g t arr := by
  have e := h.out
  subst e
  exact hb.row_other _ hk
theorem hid_row_below {w w' a : World} {g B : Nat} {arr : Array Value} (h : Hid (w' = w.setRow g arr)) (hg : B ≤ g) (hb : Below B a w) : Below B a w' ∧ w'.heap.size = w.heap.size := by
  have e := h.out
  subst e
  exact ⟨below_setRow hb hg _, size_setRow _ _ _⟩
theorem hid_grow {w w' : World} {z : Array Value} {t : TypeId} (h : Hid (w' = w.alloc (.cells z t))) : Below w.heap.size w w' := (hid_alloc h).2.2
end Go.Proofs.YtbehakabglegjaaGreatDoor
namespace Go.Proofs.YtbehakabglegjaaGreatDoor
open Go.RowKit
set_option linter.unusedVariables false
variable {P : Program} {ops : Array Oper} {rest : List Oper} {o : Oper} {a : Act} {w : World} {Q : Exit → Act → World → Prop}

theorem wpl_store_cell (hgd : o.guard = none) (ty : TypeId) (x y : Operand) (ho : o.op = .store ty x y) (g off : Nat) (hx : a.eval x = .pointer (some ⟨g, off, none⟩)) (v : Value) (hy : a.eval y = v)
    (t : TypeId) (old : Array Value) (hg : IBox w g t old) (hoff : off < old.size) (hi : (P.info? ty).map (·.size) = some 1) (h1 : v.oneCell' = true)
    (h : ∀ w', Hid (w' = w.setRow g (old.setIfInBounds off v)) → wpList P ops Q rest (a.put o.dst undef) w') : wpList P ops Q (o :: rest) a w := by
  have hc : v.cells = #[v] := by cases v <;> first | rfl | cases h1
  have ht : w.there g off 1 := fun j hj => by
    obtain rfl : j = 0 := by omega
    refine ⟨?_, hg.frozen off⟩
    rw [Nat.add_zero, hg.cell off, Array.getElem?_eq_getElem hoff]
    rfl
  have hrun : (storeVar ty ⟨g, off, none⟩ v).run P w = .ok () (w.setCells g off [v]) := by
    have := run_storeVar_mid (P := P) w g off ty #[v] ht hi (by simp [h1])
    unfold storeVar at this ⊢
    rw [hc]
    exact this
  have hset : w.setCells g off [v] = w.setRow g (old.setIfInBounds off v) := by
    rw [← setCell_eq_setRow w g off old t (0, 0) v hg]
    simp [World.setCells]
  refine wpList_plain hgd fun _ hK => ?_
  unfold Oper.wp execOp
  simp only [ho, hx, hy, Instr.storeAt, Instr.sureAddr, Sem.run_bind, Sem.run_pure, Result.andThen_ok, hrun]
  rw [hset]
  exact hK _ _ (h _ rfl)

theorem parts_vals (parts : Array (Nat × Operand)) (vals : List (Nat × Value)) (hv : parts.toList.map (fun x => (x.1, a.eval x.2)) = vals) : (parts.map fun (i, x) => (i, a.eval x)) = vals.toArray := by
  apply Array.ext'
  rw [Array.toList_map, ← hv]
theorem wpl_slice_at (len : Nat) (vals : List (Nat × Value)) (cells : Array Value) (ie : TypeInfo) (z : Value)
    (hf : Instr.fill (fun i => some (i * ie.size, ie.size)) ((Array.range (len * ie.size)).map (z.cells[· % z.cells.size]!)) vals = some cells)
    (hgd : o.guard = none) (t e : TypeId) (parts : Array (Nat × Operand)) (ho : o.op = .buildSlice t len parts) (hv : parts.toList.map (fun x => (x.1, a.eval x.2)) = vals)
    (hu : P.underlying t = some (.slice e)) (hie : P.info? e = some ie) (hz : ie.zero = some z) (hsmall : ¬ len * ie.size > 2 ^ 24) (hpos : ¬ len * ie.size = 0)
    (h : ∀ w', Hid (w' = w.alloc (.cells cells e)) → wpList P ops Q rest (a.put o.dst (.slice (some ⟨w.heap.size, 0, none⟩) len len)) w') : wpList P ops Q (o :: rest) a w :=
  wpList_buildSlice hgd t e len parts ho cells ie z hu hie hz hsmall hpos (by rw [parts_vals parts vals hv]; exact hf) (h _ rfl)
theorem wpl_build_at {t : TypeId} {vals : List (Nat × Value)} {cells : Array Value} (hrun : ∀ w, (Instr.build t vals.toArray).run P w = .ok (.agg cells) w) (hgd : o.guard = none) (parts : Array (Nat × Operand)) (ho : o.op = .build t parts)
    (hv : parts.toList.map (fun x => (x.1, a.eval x.2)) = vals)
    (h : wpList P ops Q rest (a.put o.dst (.agg cells)) w) : wpList P ops Q (o :: rest) a w := by
  refine wpList_plain hgd fun _ hK => ?_
  unfold Oper.wp execOp
  simp only [ho, parts_vals parts vals hv, Sem.run_bind, hrun, Result.andThen_ok, Sem.run_pure]
  exact hK _ _ h
/-! Cheap guards ahead of the laws: which operation comes next. -/
theorem is_store {d : Option Tmp} {ty : TypeId} {x y : Operand} {tt : TypeId} {ps : String} {af : Array Edge} {gd : Option (Nat × Bool)} (h : wpList P ops Q (⟨d, .store ty x y, tt, ps, af, gd⟩ :: rest) a w) : wpList P ops Q (⟨d, .store ty x y, tt, ps, af, gd⟩ :: rest) a w := h
theorem is_build {d : Option Tmp} {ty : TypeId} {x : Array (Nat × Operand)} {tt : TypeId} {ps : String} {af : Array Edge} {gd : Option (Nat × Bool)} (h : wpList P ops Q (⟨d, .build ty x, tt, ps, af, gd⟩ :: rest) a w) : wpList P ops Q (⟨d, .build ty x, tt, ps, af, gd⟩ :: rest) a w := h
theorem is_slice {d : Option Tmp} {ty : TypeId} {n : Nat} {x : Array (Nat × Operand)} {tt : TypeId} {ps : String} {af : Array Edge} {gd : Option (Nat × Bool)} (h : wpList P ops Q (⟨d, .buildSlice ty n x, tt, ps, af, gd⟩ :: rest) a w) : wpList P ops Q (⟨d, .buildSlice ty n x, tt, ps, af, gd⟩ :: rest) a w := h
theorem is_alloc {d : Option Tmp} {ty : TypeId} {tt : TypeId} {ps : String} {af : Array Edge} {gd : Option (Nat × Bool)} (h : wpList P ops Q (⟨d, .alloc ty, tt, ps, af, gd⟩ :: rest) a w) : wpList P ops Q (⟨d, .alloc ty, tt, ps, af, gd⟩ :: rest) a w := h
theorem is_load {d : Option Tmp} {ty : TypeId} {x : Operand} {tt : TypeId} {ps : String} {af : Array Edge} {gd : Option (Nat × Bool)} (h : wpList P ops Q (⟨d, .load ty x, tt, ps, af, gd⟩ :: rest) a w) : wpList P ops Q (⟨d, .load ty x, tt, ps, af, gd⟩ :: rest) a w := h
end Go.Proofs.YtbehakabglegjaaGreatDoor
namespace Go.Proofs.YtbehakabglegjaaGreatDoor
open Go.RowKit
set_option linter.unusedVariables false

theorem own_below {w w' : World} {base : Nat} {e : TypeId} {size : Nat} {v : Value} {n : Nat} {xs : List Value} (h : w.ownsRow base e size v n xs) (hb : Below w.heap.size w w') : w'.ownsRow base e size v n xs :=
  h.kept (row := none) ⟨hb.os, hb.tape, hb.output, hb.size, fun k hk _ => hb.block k hk⟩ (by cases hv : v.ownBlock <;> simp)

/-- The row grown by one element that lies in a block of its own. -/
theorem wpl_append_fresh {P : Program} {ops : Array Oper} {rest : List Oper} {o : Oper} {a : Act} {w : World} {Q : Exit → Act → World → Prop} (hgd : o.guard = none) (s x : Operand) (t : TypeId)
    (ho : o.op = .call { callee := .builtin .append, args := #[s, x], argTypes := #[t, t] })
    (base : Nat) (e : TypeId) (i : TypeInfo) (z : Value) (size bytes : Nat) (ht : P.underlying t = some (.slice e)) (hi : P.info? e = some i) (hz : i.zero = some z)
    (hsize : i.size = size) (hby : i.bytes = bytes) (hzs : z.cells.size = size) (hsz : 0 < size)
    (v : Value) (n : Nat) (xs : List Value) (hs : a.eval s = v) (hown : w.ownsRow base e size v n xs)
    (g c : Nat) (cells : Array Value) (ty : TypeId) (IB : IBox w g ty cells) (hcs : cells.size = size) (hx : a.eval x = .slice (some ⟨g, 0, none⟩) 1 c) (h1 : cells.all (·.oneCell') = true)
    (h63 : n + 1 ≤ maxLen) (hbytes : (n + 1) * bytes ≤ 140737488355328) (hbase : base ≤ w.heap.size)
    (h : ∀ v' w', w'.ownsRow base e size v' (n + 1) (xs ++ cells.toList) → Below base w w' → wpList P ops Q rest (a.put o.dst v') w') : wpList P ops Q (o :: rest) a w := by
  refine wpList_append_own w hgd s x t ho base e i z size bytes ht hi hz hsize hby hzs hsz v n xs hs hown ⟨g, 0, none⟩ 1 c cells.toList hx (by simp [hcs]) ?_ ?_ h63 hbytes hbase ?_
  · intro j u hu
    have hadd : (⟨g, 0, none⟩ : Addr).add j = ⟨g, j, none⟩ := by unfold Addr.add; split <;> simp_all
    rw [hadd, IB.cell]
    simpa using hu
  · intro u hu
    have := Array.all_eq_true_iff_forall_mem.1 h1 u (by simpa using hu)
    exact this
  · intro v' w' h2 h3 _
    exact h v' w' h2 ((Below.refl base w).grown h3 hbase fun k hk => (hown.lt k hk).1)

theorem take_next {α : Type} {l : List α} {k : Nat} {x : α} (h : l[k]? = some x) : l.take (k + 1) = l.take k ++ [x] := by
  obtain ⟨hl, e⟩ := List.getElem?_eq_some_iff.1 h
  rw [List.take_succ_eq_append_getElem hl, e]
end Go.Proofs.YtbehakabglegjaaGreatDoor
namespace Go.Proofs.YtbehakabglegjaaGreatDoor
open Go.RowKit
set_option linter.unusedVariables false

theorem still_load_arr {P : Program} {ops : Array Oper} {rest : List Oper} {o : Oper} {a : Act} {w : World} {K : Act → Prop} (hgd : o.guard = none) (ty : TypeId) (x : Operand) (ho : o.op = .load ty x) (b off : Nat)
    (hx : a.eval x = .pointer (some ⟨b, off, none⟩)) (arr : Array Value) (d : TypeDesc)
    (hc : w.rangeAt b off arr.toList) (hu : P.underlying ty = some d) (hd : d.isRow = true) (hi : (P.info? ty).map (·.size) = some arr.size)
    (h : wpStill P ops w K rest (a.put o.dst (.agg arr))) : wpStill P ops w K (o :: rest) a := by
  refine wpStill_step fun K2 hK => ?_
  simp only [Region.wanted, hgd, if_true]
  unfold Oper.still execOp
  simp only [ho, hx, Instr.loadAt, Instr.sureAddr, Sem.run_bind, Sem.run_pure, Result.andThen_ok, run_loadVar_mid w b off ty arr.toList d hc hu hd (by simpa using hi), Array.toArray_toList]
  exact ⟨rfl, hK _ h⟩

theorem still_load_box {P : Program} {ops : Array Oper} {rest : List Oper} {o : Oper} {a : Act} {w : World} {K : Act → Prop} (hgd : o.guard = none) (ty : TypeId) (x : Operand) (ho : o.op = .load ty x) (g : Nat)
    (hx : a.eval x = .pointer (some ⟨g, 0, none⟩)) (t : TypeId) (arr : Array Value) (d : TypeDesc)
    (hc : IBox w g t arr) (hu : P.underlying ty = some d) (hd : d.isRow = true) (hi : (P.info? ty).map (·.size) = some arr.size)
    (h : wpStill P ops w K rest (a.put o.dst (.agg arr))) : wpStill P ops w K (o :: rest) a := by
  refine still_load_arr hgd ty x ho g 0 hx arr d (fun j v hv => ?_) hu hd hi h
  rw [Nat.zero_add, hc.cell j]
  simpa using hv

/-- Reads (in any order), then the forced rest: the world after the draw is any world that differs from the one before in nothing but the draw. -/
theorem wp_still_then {P : Program} {id : Nat} {Q : Exit → Act → World → Prop} {a : Act} {w : World} {l : List Oper} (n : Nat) (hm : P.follows .mixedOrders = true) (hB : Region.lexTailB .any l.toArray n = true)
    (h : ∀ w2, Below w.heap.size w w2 → wpStill P l.toArray w2 (fun a' => wpList P l.toArray Q (l.drop n) a' w2) (l.take n) a) : (Code.region id l.toArray true).wp P Q a w :=
  wp_region_still_tail n hm hB (h _ ⟨rfl, rfl, rfl, Nat.le_refl _, fun _ _ => rfl⟩)

theorem still_end {P : Program} {ops : Array Oper} {w : World} {Q : Exit → Act → World → Prop} {l : List Oper} {a : Act} (h : wpList P ops Q l a w) : wpStill P ops w (fun a' => wpList P ops Q l a' w) [] a := h
end Go.Proofs.YtbehakabglegjaaGreatDoor
namespace Go.Proofs.YtbehakabglegjaaGreatDoor
open Go.RowKit
set_option linter.unusedVariables false

theorem wp_region_below {P : Program} {ops : Array Oper} {id : Nat} {Q : Exit → Act → World → Prop} {a : Act} {w : World} (hm : P.follows .mixedOrders = true)
    (h : ∀ w2, Below w.heap.size w w2 → wpAnyH P .any ops Q (fun w' => Below w.heap.size w w') ops.size (Array.replicate ops.size false) a w2) : (Code.region id ops true).wp P Q a w :=
  wp_region_held_drew (S := fun w' => Below w.heap.size w w') hm ⟨rfl, rfl, rfl, Nat.le_refl _, fun _ _ => rfl⟩ (fun h1 => h _ h1)

theorem yields_arr {P : Program} {ops : Array Oper} {o : Oper} {a : Act} {w : World} (hw : Region.wanted o (yielded ops a.tmps) = true) (ty : TypeId) (x : Operand) (ho : o.op = .load ty x) (b off : Nat)
    (hx : a.eval x = .pointer (some ⟨b, off, none⟩)) (arr : Array Value) (d : TypeDesc)
    (hc : w.rangeAt b off arr.toList) (hu : P.underlying ty = some d) (hd : d.isRow = true) (hi : (P.info? ty).map (·.size) = some arr.size) :
    YieldsIf P ops (fun w' => Below w.heap.size w w') o (.agg arr) a := by
  have := yieldsIf_load_mid (P := P) (S := fun w' => Below w.heap.size w w') hw ty x ho b off hx arr.toList d (fun w' hS => range_below hS hc) hu hd (by simpa using hi)
  rwa [Array.toArray_toList] at this

theorem yields_box {P : Program} {ops : Array Oper} {o : Oper} {a : Act} {w : World} (hw : Region.wanted o (yielded ops a.tmps) = true) (ty : TypeId) (x : Operand) (ho : o.op = .load ty x) (g : Nat)
    (hx : a.eval x = .pointer (some ⟨g, 0, none⟩)) (t : TypeId) (arr : Array Value) (d : TypeDesc)
    (hc : IBox w g t arr) (hu : P.underlying ty = some d) (hd : d.isRow = true) (hi : (P.info? ty).map (·.size) = some arr.size) :
    YieldsIf P ops (fun w' => Below w.heap.size w w') o (.agg arr) a := by
  refine yields_arr hw ty x ho g 0 hx arr d (fun j v hv => ?_) hu hd hi
  rw [Nat.zero_add, hc.cell j]
  simpa using hv
end Go.Proofs.YtbehakabglegjaaGreatDoor
namespace Go.Proofs.YtbehakabglegjaaGreatDoor
open Go.RowKit
set_option linter.unusedVariables false
variable {P : Program} {o : Oper} {a : Act} {w : World} {Q : Exit → Act → World → Prop} {K : Act → World → Prop}
theorem op_alloc_at (ty : TypeId) (ho : o.op = .alloc ty) (z : Array Value) (hz : ∀ w, (zeroValue ty).run P w = .ok (.agg z) w)
    (h : ∀ w', Hid (w' = w.alloc (.cells z ty)) → K (a.put o.dst (.pointer (some ⟨w.heap.size, 0, none⟩))) w') : o.wp P a w K Q := by
  unfold Oper.wp execOp
  simp [ho, Instr.alloc, Sem.run_bind, hz, newVar, Value.cells]
  exact h _ rfl
theorem op_store_at (ty : TypeId) (x y : Operand) (ho : o.op = .store ty x y) (g : Nat) (cells : Array Value) (hx : a.eval x = .pointer (some ⟨g, 0, none⟩)) (hy : a.eval y = .agg cells)
    (t : TypeId) (old : Array Value) (hg : IBox w g t old) (hi : (P.info? ty).map (·.size) = some cells.size) (hold : old.size = cells.size) (h1 : cells.all (·.oneCell') = true)
    (h : ∀ w', Hid (w' = w.setRow g cells) → K (a.put o.dst undef) w') : o.wp P a w K Q :=
  wp_store_row ty x y ho g cells hx hy t old hg hi hold h1 (h _ rfl)
end Go.Proofs.YtbehakabglegjaaGreatDoor
namespace Go.Proofs.YtbehakabglegjaaGreatDoor
open Go.RowKit
theorem below_dq {w w' : World} {n : Nat} (h : w.drewN n = w') : Below w.heap.size w w' := h ▸ ⟨rfl, rfl, rfl, Nat.le_refl _, fun _ _ => rfl⟩
end Go.Proofs.YtbehakabglegjaaGreatDoor
namespace Go.Proofs.YtbehakabglegjaaGreatDoor
open Go.RowKit
set_option linter.unusedVariables false
set_option linter.unusedSimpArgs false

/-- From w to w' nothing has changed but the blocks of X (and new ones). -/
structure Bes (X : Nat → Prop) (w w' : World) : Prop where
  os : w'.os = w.os
  tape : w'.tape = w.tape
  output : w'.output = w.output
  size : w.heap.size ≤ w'.heap.size
  block : ∀ k, k < w.heap.size → ¬ X k → w'.heap[k]? = w.heap[k]?
theorem Bes.trans {X Y Z : Nat → Prop} {a b c : World} (h : Bes X a b) (k : Bes Y b c) (hX : ∀ i, X i → Z i) (hY : ∀ i, i < a.heap.size → Y i → Z i) : Bes Z a c :=
  ⟨k.os.trans h.os, k.tape.trans h.tape, k.output.trans h.output, Nat.le_trans h.size k.size, fun i hi hn => (k.block i (Nat.lt_of_lt_of_le hi h.size) (fun y => hn (hY i hi y))).trans (h.block i hi (fun x => hn (hX i x)))⟩
theorem Bes.below {X : Nat → Prop} {w w' : World} (h : Bes X w w') {B : Nat} (hX : ∀ k, X k → B ≤ k) (hB : B ≤ w.heap.size) : Below B w w' :=
  ⟨h.os, h.tape, h.output, h.size, fun k hk => h.block k (Nat.lt_of_lt_of_le hk hB) (fun x => by have := hX k x; omega)⟩
theorem Bes.of_below {X : Nat → Prop} {w w' : World} (h : Below w.heap.size w w') : Bes X w w' := ⟨h.os, h.tape, h.output, h.size, fun k hk _ => h.block k hk⟩
theorem Bes.of_heap {X : Nat → Prop} {w w' : World} (h : Below w.heap.size w w') : Bes X w w' := Bes.of_below h
theorem Bes.row {X : Nat → Prop} {w w' : World} {g : Nat} {arr : Array Value} (h : Hid (w' = w.setRow g arr)) (hg : X g) : Bes X w w' := by
  have e := h.out
  subst e
  have hb := below_setRow (Below.refl g w) (Nat.le_refl g) arr
  exact ⟨hb.os, hb.tape, hb.output, by rw [size_setRow]; exact Nat.le_refl _, fun k hk hn => setRow_other w g k arr (fun e => hn (e ▸ hg))⟩
theorem Bes.grown {X : Nat → Prop} {w w' : World} {r : Option Nat} (h : w.grownBy w' r) (hr : ∀ k, r = some k → X k) : Bes X w w' :=
  ⟨h.os, h.tape, h.output, h.size, fun k hk hn => h.block k hk (fun e => hn (hr k e.symm))⟩
theorem Bes.box {X : Nat → Prop} {w w' : World} (h : Bes X w w') {g : Nat} {t : TypeId} {arr : Array Value} (hI : IBox w g t arr) (hn : ¬ X g) : IBox w' g t arr := (h.block g hI.lt hn).trans hI
theorem Bes.own {X : Nat → Prop} {w w' : World} (h : Bes X w w') {base : Nat} {e : TypeId} {size : Nat} {v : Value} {n : Nat} {xs : List Value} (hO : w.ownsRow base e size v n xs) (hn : ∀ k, v.ownBlock = some k → ¬ X k) : w'.ownsRow base e size v n xs := by
  refine ⟨hO.1, ?_⟩
  rcases hO.2 with h0 | ⟨g, cap, cur, rfl, hb, hg, rest⟩
  · exact .inl h0
  · exact .inr ⟨g, cap, cur, rfl, hb, (h.block g (Array.getElem?_eq_some_iff.1 hg).1 (hn g rfl)).trans hg, rest⟩
theorem own_in {w : World} {base : Nat} {e : TypeId} {size : Nat} {v : Value} {n : Nat} {xs : List Value} (hO : w.ownsRow base e size v n xs) {k : Nat} (hk : v.ownBlock = some k) : base ≤ k ∧ k < w.heap.size := by
  rcases hO.2 with ⟨rfl, _⟩ | ⟨g, cap, cur, rfl, hb, hg, _⟩
  · simp [Value.ownBlock] at hk
  · have : g = k := by simpa [Value.ownBlock] using hk
    subst this
    exact ⟨hb, (Array.getElem?_eq_some_iff.1 hg).1⟩
theorem own_heap {w w' : World} (e : w'.heap = w.heap) {base : Nat} {t : TypeId} {size : Nat} {v : Value} {n : Nat} {xs : List Value} (h : w.ownsRow base t size v n xs) : w'.ownsRow base t size v n xs := by unfold World.ownsRow at *; rw [e]; exact h
theorem box_heap {w w' : World} (e : w'.heap = w.heap) {g : Nat} {t : TypeId} {arr : Array Value} (h : IBox w g t arr) : IBox w' g t arr := by unfold IBox at *; rw [e]; exact h
/-- Cells laid over a row. -/
def over (cur : Array Value) : Nat → List Value → Array Value
  | _, [] => cur
  | o, v :: r => over (cur.setIfInBounds o v) (o + 1) r
theorem over_size : ∀ (vs : List Value) (o : Nat) (cur : Array Value), (over cur o vs).size = cur.size
  | [], _, _ => rfl
  | v :: r, o, cur => by unfold over; rw [over_size r]; simp
theorem over_get : ∀ (vs : List Value) (o : Nat) (cur : Array Value) (k : Nat), o + vs.length ≤ cur.size → (over cur o vs)[k]? = if o ≤ k ∧ k < o + vs.length then vs[k - o]? else cur[k]?
  | [], o, cur, k, _ => by
    unfold over
    rw [if_neg (by simp only [List.length_nil]; omega)]
  | v :: r, o, cur, k, h => by
    unfold over
    have h' : o + (r.length + 1) ≤ cur.size := h
    rw [over_get r (o + 1) _ k (by rw [Array.size_setIfInBounds]; omega)]
    simp only [List.length_cons]
    by_cases h1 : o + 1 ≤ k ∧ k < o + 1 + r.length
    · rw [if_pos h1, if_pos (by omega), show k - o = (k - (o + 1)) + 1 from by omega, List.getElem?_cons_succ]
    · rw [if_neg h1]
      by_cases h2 : k = o
      · subst h2
        rw [if_pos (by omega), Nat.sub_self, List.getElem?_cons_zero, Array.getElem?_setIfInBounds_self_of_lt (by omega)]
      · rw [if_neg (by omega), Array.getElem?_setIfInBounds_ne (Ne.symm h2)]
theorem setCells_box {g : Nat} {t : TypeId} : ∀ (vs : List Value) (o : Nat) (cur : Array Value) (w : World), IBox w g t cur → IBox (w.setCells g o vs) g t (over cur o vs)
  | [], _, _, _, h => h
  | v :: r, o, cur, w, h => by
    unfold World.setCells over
    refine setCells_box r (o + 1) _ _ ?_
    rw [setCell_eq_setRow w g o cur t (0, 0) v h]
    exact h.row _
theorem setCells_bes {X : Nat → Prop} {g : Nat} {t : TypeId} (hX : X g) : ∀ (vs : List Value) (o : Nat) (cur : Array Value) (w : World), IBox w g t cur → Bes X w (w.setCells g o vs)
  | [], _, _, w, h => Bes.of_below (Below.refl _ _)
  | v :: r, o, cur, w, h => by
    unfold World.setCells
    have e := setCell_eq_setRow w g o cur t (0, 0) v h
    have hI : IBox (w.setCell ⟨g, o, none⟩ v) g t (cur.setIfInBounds o v) := by rw [e]; exact h.row _
    exact (Bes.row (X := X) (rfl : Hid _) hX).trans (by rw [← e]; exact setCells_bes hX r (o + 1) _ _ hI) (fun _ x => x) (fun _ _ x => x)
theorem own_over {w : World} {base : Nat} {e : TypeId} {size : Nat} {g n cap : Nat} {xs zs vs : List Value} (h : w.ownsRow base e size (.slice (some ⟨g, 0, none⟩) (n + 1) cap) (n + 1) (xs ++ zs)) (hx : xs.length = n * size) (hv : vs.length = size) :
    (w.setCells g (n * size) vs).ownsRow base e size (.slice (some ⟨g, 0, none⟩) (n + 1) cap) (n + 1) (xs ++ vs) ∧ (∀ X : Nat → Prop, X g → Bes X w (w.setCells g (n * size) vs)) ∧ w.there g (n * size) size := by
  rcases h.2 with ⟨hh, _⟩ | ⟨g', cap', cur, hh, hb, hg, hn, hc, hs, ht⟩
  · cases hh
  · have e1 : g = g' := by injection hh with a; injection a with a; injection a
    have e2 : cap = cap' := by injection hh
    subst e1; subst e2
    have hI : IBox w g e cur := hg
    have hsz : n * size + vs.length ≤ cur.size := by rw [hs, hv, show n * size + size = (n + 1) * size from by rw [Nat.add_mul, Nat.one_mul]]; exact Nat.mul_le_mul_right _ hn
    have hxz : zs.length = size := by
      have := h.1
      rw [List.length_append, hx, Nat.add_mul, Nat.one_mul] at this
      omega
    refine ⟨⟨by rw [List.length_append, hx, hv, Nat.add_mul, Nat.one_mul], .inr ⟨g, cap, over cur (n * size) vs, rfl, hb, setCells_box vs _ _ _ hI, hn, hc, by rw [over_size, hs], ?_⟩⟩, fun X hX => setCells_bes hX vs _ _ _ hI, ?_⟩
    · apply List.ext_getElem?
      intro k
      have hk := congrArg (fun l => l[k]?) ht
      simp only [List.getElem?_take] at hk ⊢
      rw [Array.getElem?_toList, over_get _ _ _ _ hsz]
      rw [Array.getElem?_toList] at hk
      have hm : (n + 1) * size = n * size + size := by rw [Nat.add_mul, Nat.one_mul]
      rw [hm] at hk ⊢
      by_cases h1 : k < n * size
      · rw [if_pos (by omega), if_neg (by omega)]
        rw [if_pos (by omega)] at hk
        rw [hk, List.getElem?_append_left (by omega), List.getElem?_append_left (by omega)]
      · by_cases h2 : k < n * size + size
        · rw [if_pos h2, if_pos (by omega), List.getElem?_append_right (by omega), hx]
        · rw [if_neg h2, List.getElem?_eq_none (by rw [List.length_append]; omega)]
    · intro j hj
      refine ⟨?_, hI.frozen _⟩
      rw [hI.cell, Array.getElem?_eq_getElem (by omega)]
      rfl

variable {P : Program} {o : Oper} {a : Act} {w : World} {Q : Exit → Act → World → Prop} {K : Act → World → Prop} {ops : Array Oper}
theorem wp_region_S {S : World → Prop} {id : Nat} (hm : P.follows .mixedOrders = true) (hS : ∀ w2 : World, w2.heap = w.heap → S w2)
    (h : ∀ w2 : World, w2.heap = w.heap → (∀ B, B ≤ w.heap.size → Below B w w2) → S w2 → wpAnyH P .any ops Q S ops.size (Array.replicate ops.size false) a w2) : (Code.region id ops true).wp P Q a w :=
  wp_region_held_drew hm (hS _ rfl) fun h1 => h _ rfl (fun B hB => ⟨rfl, rfl, rfl, Nat.le_refl _, fun _ _ => rfl⟩) h1
theorem yields_boxS {S : World → Prop} (hw : Region.wanted o (yielded ops a.tmps) = true) (ty : TypeId) (x : Operand) (ho : o.op = .load ty x) (g : Nat)
    (hx : a.eval x = .pointer (some ⟨g, 0, none⟩)) (t : TypeId) (arr : Array Value) (d : TypeDesc)
    (hc : ∀ w', S w' → IBox w' g t arr) (hu : P.underlying ty = some d) (hd : d.isRow = true) (hi : (P.info? ty).map (·.size) = some arr.size) :
    YieldsIf P ops S o (.agg arr) a := by
  have := yieldsIf_load_mid (P := P) (S := S) hw ty x ho g 0 hx arr.toList d (fun w' hS j v hv => by rw [Nat.zero_add, (hc w' hS).cell j]; simpa using hv) hu hd (by simpa using hi)
  rwa [Array.toArray_toList] at this
theorem op_store_cell (ty : TypeId) (x y : Operand) (ho : o.op = .store ty x y) (g off : Nat) (hx : a.eval x = .pointer (some ⟨g, off, none⟩)) (v : Value) (hy : a.eval y = v)
    (t : TypeId) (old : Array Value) (hg : IBox w g t old) (hoff : off < old.size) (hi : (P.info? ty).map (·.size) = some 1) (h1 : v.oneCell' = true)
    (h : ∀ w', Hid (w' = w.setRow g (old.setIfInBounds off v)) → K (a.put o.dst undef) w') : o.wp P a w K Q := by
  have hc : v.cells = #[v] := by cases v <;> first | rfl | cases h1
  have ht : w.there g off 1 := fun j hj => by
    obtain rfl : j = 0 := by omega
    refine ⟨?_, hg.frozen off⟩
    rw [Nat.add_zero, hg.cell off, Array.getElem?_eq_getElem hoff]
    rfl
  have hrun : (storeVar ty ⟨g, off, none⟩ v).run P w = .ok () (w.setCells g off [v]) := by
    have := run_storeVar_mid (P := P) w g off ty #[v] ht hi (by simp [h1])
    unfold storeVar at this ⊢
    rw [hc]
    exact this
  have hset : w.setCells g off [v] = w.setRow g (old.setIfInBounds off v) := by
    rw [← setCell_eq_setRow w g off old t (0, 0) v hg]
    simp [World.setCells]
  unfold Oper.wp execOp
  simp only [ho, hx, hy, Instr.storeAt, Instr.sureAddr, Sem.run_bind, Sem.run_pure, Result.andThen_ok, hrun]
  rw [hset]
  exact h _ rfl
theorem op_slice_at (len : Nat) (vals : List (Nat × Value)) (cells : Array Value) (ie : TypeInfo) (z : Value)
    (hf : Instr.fill (fun i => some (i * ie.size, ie.size)) ((Array.range (len * ie.size)).map (z.cells[· % z.cells.size]!)) vals = some cells)
    (t e : TypeId) (parts : Array (Nat × Operand)) (ho : o.op = .buildSlice t len parts) (hv : parts.toList.map (fun x => (x.1, a.eval x.2)) = vals)
    (hu : P.underlying t = some (.slice e)) (hie : P.info? e = some ie) (hz : ie.zero = some z) (hsmall : ¬ len * ie.size > 2 ^ 24) (hpos : ¬ len * ie.size = 0)
    (h : ∀ w', Hid (w' = w.alloc (.cells cells e)) → K (a.put o.dst (.slice (some ⟨w.heap.size, 0, none⟩) len len)) w') : o.wp P a w K Q :=
  wp_buildSlice t e len parts ho cells ie z hu hie hz hsmall hpos (by rw [parts_vals parts vals hv]; exact hf) (h _ rfl)
theorem op_append_at (s x : Operand) (t : TypeId) (ho : o.op = .call { callee := .builtin .append, args := #[s, x], argTypes := #[t, t] })
    (base : Nat) (e : TypeId) (i : TypeInfo) (z : Value) (size bytes : Nat) (ht : P.underlying t = some (.slice e)) (hi : P.info? e = some i) (hz : i.zero = some z)
    (hsize : i.size = size) (hby : i.bytes = bytes) (hzs : z.cells.size = size) (hsz : 0 < size)
    (v : Value) (n : Nat) (xs : List Value) (hs : a.eval s = v) (hown : w.ownsRow base e size v n xs)
    (g c : Nat) (cells : Array Value) (ty : TypeId) (IB : IBox w g ty cells) (hcs : cells.size = size) (hx : a.eval x = .slice (some ⟨g, 0, none⟩) 1 c) (h1 : cells.all (·.oneCell') = true)
    (h63 : n + 1 ≤ maxLen) (hbytes : (n + 1) * bytes ≤ 140737488355328) (hbase : base ≤ w.heap.size)
    (h : ∀ g cap w', w'.ownsRow base e size (.slice (some ⟨g, 0, none⟩) (n + 1) cap) (n + 1) (xs ++ cells.toList) → w.grownBy w' v.ownBlock → (v.ownBlock = some g ∨ g = w.heap.size) → g < w'.heap.size → K (a.put o.dst (.slice (some ⟨g, 0, none⟩) (n + 1) cap)) w') : o.wp P a w K Q :=
  wp_append_lies w s x t ho base e i z size bytes ht hi hz hsize hby hzs hsz v n xs hs hown ⟨g, 0, none⟩ 1 c cells.toList hx (by simp [hcs]) (World.news_of_block IB)
    (fun u hu => Array.all_eq_true_iff_forall_mem.1 h1 u (by simpa using hu)) (by omega) h63 hbytes hbase _ rfl h
theorem op_store_own (ty : TypeId) (x y : Operand) (ho : o.op = .store ty x y) {base : Nat} {e : TypeId} {size g n cap : Nat} {xs zs : List Value} (cells : Array Value)
    (hO : w.ownsRow base e size (.slice (some ⟨g, 0, none⟩) (n + 1) cap) (n + 1) (xs ++ zs)) (hxs : xs.length = n * size) (hcs : cells.size = size)
    (hx : a.eval x = .pointer (some ⟨g, n * size, none⟩)) (hy : a.eval y = .agg cells) (hi : (P.info? ty).map (·.size) = some cells.size) (h1 : cells.all (·.oneCell') = true)
    (h : ∀ w', w'.ownsRow base e size (.slice (some ⟨g, 0, none⟩) (n + 1) cap) (n + 1) (xs ++ cells.toList) → Bes (· = g) w w' → K (a.put o.dst undef) w') : o.wp P a w K Q := by
  obtain ⟨h2, h3, h4⟩ := own_over hO hxs (vs := cells.toList) (by simpa using hcs)
  exact wp_store_mid ty x y ho g (n * size) cells hx hy (by rw [hcs]; exact h4) hi h1 (h _ h2 (h3 (· = g) rfl))
end Go.Proofs.YtbehakabglegjaaGreatDoor
