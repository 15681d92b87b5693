/- Characters and their bytes, in plain words. Small words used by every text of this seat: endings, worlds that only grew, a row's post from Below. JSON values and rows of structs in memory: what the -/
import Derived.Lib.MapLaws
import Derived.Lib.ValidLaws
import Derived.Lib.RuneBytes
import Derived.Test.YtnjhmnolngdfaaaGreatDoorRows
import Derived.WalkKit
import Derived.ProofKit
import Derived.WalkLawsBesides
import Derived.WalkSpells
import Derived.Handy
import Derived.BigQuiet
import Derived.Laws.RangeAny
import Derived.Lib.OthersKept
import Derived.Lib.Hide
import Derived.LaidEql
import Derived.Deep.QuietTactic
import Derived.Deep.MidRow
import Derived.Deep.WholeRow
import Derived.Great.BuildSlice
import Derived.StillTailTactics
import Derived.Deep.RegionHeld3
import Derived.Deep.DrawnRows
set_option linter.unusedVariables false
set_option linter.unusedSimpArgs false
set_option maxHeartbeats 16000000
set_option maxRecDepth 100000
namespace Go.Proofs.YtnjhmnolngdfaaaGreatDoor
def qDp (r : Int) : Prop := (0 ≤ r ∧ r < 55296) ∨ (57344 ≤ r ∧ r ≤ 1114111)
theorem u8n {x : Int} (h0 : 0 ≤ x) (h1 : x < 256) : (x.toNat.toUInt8).toNat = x.toNat := by
  simp only [Nat.toUInt8, UInt8.toNat_ofNat']; omega
theorem qHs {r : Int} (h : qDp r) (t : List UInt8) : Lib.decodeL (Lib.encodeRune r ++ t) = (r.toNat, (Lib.encodeRune r).length) := by
 unfold qDp at h; rw [Lib.decodeL_N]; unfold Lib.encodeRune
 by_cases c1 : r ≤ 127
 ·rw [Lib.encodeRuneZ_one (by omega) c1]; have e0 := u8n (x := r) (by omega) (by omega); simp only [List.map_cons, List.map_nil, List.cons_append, List.nil_append, List.getD_cons_zero, List.length_cons, List.length_nil]; rw [e0]; unfold Lib.decodeN; rw [if_pos (by omega)]
 ·by_cases c2 : r ≤ 2047
  ·rw [Lib.encodeRuneZ_two (by omega) c2]; have e0 := u8n (x := 192 + r / 64) (by omega) (by omega); have e1 := u8n (x := 128 + r % 64) (by omega) (by omega); simp only [List.map_cons, List.map_nil, List.cons_append, List.nil_append, List.getD_cons_zero, List.getD_cons_succ, List.length_cons, List.length_nil]; rw [e0, e1]; unfold Lib.decodeN; rw [if_neg (by omega), if_pos (by omega), if_pos (by omega)]
   ext <;> dsimp only <;> omega
  ·by_cases c3 : r ≤ 65535
   ·rw [Lib.encodeRuneZ_three (by omega)]; have e0 := u8n (x := 224 + r / 4096) (by omega) (by omega); have e1 := u8n (x := 128 + r / 64 % 64) (by omega) (by omega); have e2 := u8n (x := 128 + r % 64) (by omega) (by omega); simp only [List.map_cons, List.map_nil, List.cons_append, List.nil_append, List.getD_cons_zero, List.getD_cons_succ, List.length_cons, List.length_nil]; rw [e0, e1, e2]; unfold Lib.decodeN; rw [if_neg (by omega), if_neg (by omega), if_pos (by omega), if_pos (by omega)]
    ext <;> dsimp only <;> omega
   ·rw [Lib.encodeRuneZ_four (by omega) (by omega)]; have e0 := u8n (x := 240 + r / 262144) (by omega) (by omega); have e1 := u8n (x := 128 + r / 4096 % 64) (by omega) (by omega); have e2 := u8n (x := 128 + r / 64 % 64) (by omega) (by omega); have e3 := u8n (x := 128 + r % 64) (by omega) (by omega); simp only [List.map_cons, List.map_nil, List.cons_append, List.nil_append, List.getD_cons_zero, List.getD_cons_succ, List.length_cons, List.length_nil]; rw [e0, e1, e2, e3]; unfold Lib.decodeN; rw [if_neg (by omega), if_neg (by omega), if_neg (by omega), if_pos (by omega), if_pos (by omega)]
    ext <;> dsimp only <;> omega
theorem qHX (r : Int) : Lib.encodeRune r ≠ [] := by
  have := (Lib.encodeRuneZ_length r).1; unfold Lib.encodeRune; intro h; rw [List.map_eq_nil_iff] at h; rw [h] at this; simp at this
theorem qJd {r : Int} (h : qDp r) (t : List UInt8) : Lib.validD (Lib.encodeRune r ++ t) = Lib.validD t := by
  rw [Lib.validD_step _ (by simp [qHX]), qHs h t]
  have hl : 1 ≤ (Lib.encodeRune r).length := by
    have := qHX r; exact List.length_pos_iff.2 this
  have h3 : r = 65533 → (Lib.encodeRune r).length = 3 := by
    rintro rfl; rfl
  rw [if_neg (by dsimp only; rintro ⟨a, b⟩; have := h3 (by omega); omega)]; rw [List.drop_left]
inductive qLj : List UInt8 → Prop where
  | nil : qLj []
  | cons {r : Int} {t : List UInt8} (h : qDp r) (ht : qLj t) : qLj (Lib.encodeRune r ++ t)
theorem qLj.valid {a : List UInt8} (h : qLj a) : Lib.validD a = true := by
  induction h with
  | nil => rfl
  | cons h _ ih => rw [qJd h]; exact ih
theorem qIr (l : List UInt8) (h : ¬ ((Lib.decodeL l).1 = 65533 ∧ (Lib.decodeL l).2 ≤ 1)) : qDp ((Lib.decodeL l).1 : Int) := by
  unfold qDp; rw [Lib.decodeL_N] at h ⊢; rcases Lib.decodeN_shape l.length (l.getD 0 0).toNat (l.getD 1 0).toNat (l.getD 2 0).toNat (l.getD 3 0).toNat with ⟨c, e⟩ | ⟨c1, c2, c3, cv, e⟩ | ⟨c1, c2, c3, c4, cv, cs, e⟩ | ⟨c1, c2, c3, c4, c5, cv, cw, e⟩ | e
  all_goals rw [e] at h ⊢
  all_goals dsimp only at h ⊢
  all_goals first | omega | exact absurd ⟨rfl, Nat.le_refl _⟩ h
end Go.Proofs.YtnjhmnolngdfaaaGreatDoor
namespace Go.Proofs.YtnjhmnolngdfaaaGreatDoor
open Go.RowKit
theorem qA5 {a b : Bool} (h : a = b) : Ending.returned (.bool a) = .returned (.bool b) := by rw [h]
theorem qBD {k : IntKind} {a b : Int} (h : a = b) : Ending.returned (.int k a) = .returned (.int k b) := by rw [h]
theorem qOg (bs : ByteArray) (i : Nat) (r : List UInt8) : ByteArray.toList.loop bs i r = r.reverse ++ bs.data.toList.drop i := by
 induction h : bs.size - i generalizing i r with
 | zero =>
  unfold ByteArray.toList.loop; rw [if_neg (by omega)]
  have : bs.data.toList.length ≤ i := by
   (have : bs.data.toList.length = bs.size := by simp); omega
  rw [List.drop_eq_nil_of_le this, List.append_nil]
 | succ n ih =>
  unfold ByteArray.toList.loop; (have hl : i < bs.size := by omega); rw [if_pos hl, ih (i + 1) _ (by omega)]; (have hl2 : i < bs.data.toList.length := by simpa using hl); rw [List.drop_eq_getElem_cons hl2, List.reverse_cons, List.append_assoc]
  congr 1
  show bs.get! i :: _ = _
  congr 1
  simp [ByteArray.get!, getElem!_pos, hl]
theorem qBN (bs : ByteArray) : bs.toList = bs.data.toList := by
  unfold ByteArray.toList; rw [qOg]; rfl
section
variable {P : Program} (w : World)
theorem qDQ (d : Nat) {ti tn : TypeId} {ms : Array (String × TypeId)} {i : TypeInfo} {k : IntKind} (a b : Int)
    (hi : P.underlying ti = some (.interface ms)) (hn : P.underlying tn = some (.int k)) (hinfo : P.info? tn = some i) (hcomp : i.comparable = true) :
    (Op.equalIn (d + 2) ti (.iface tn (.int k a)) (.iface tn (.int k b))).run P w = .ok (a == b) w := by
  simp [Op.equalIn, run_underlying hi, run_underlying hn, typeInfo, hinfo, hcomp]
theorem qEX {ti tn : TypeId} {ms : Array (String × TypeId)} {i : TypeInfo} {k : IntKind} (a b : Int)
    (hi : P.underlying ti = some (.interface ms)) (hn : P.underlying tn = some (.int k)) (hinfo : P.info? tn = some i) (hcomp : i.comparable = true) :
    (binOp .eql ti (.iface tn (.int k a)) (.iface tn (.int k b))).run P w = .ok (.bool (a == b)) w := by
  simp only [binOp]; simp [Op.equal, Op.maxDepth, qDQ w 9998 a b hi hn hinfo hcomp]
end
end Go.Proofs.YtnjhmnolngdfaaaGreatDoor
namespace Go.Proofs.YtnjhmnolngdfaaaGreatDoor
open Go.RowKit
def qAW (w : World) (g : Nat) (t : TypeId) (arr : Array Value) : Prop := w.heap[g]? = some (.cells arr t (0, 0))
theorem qAW.cell {w : World} {g : Nat} {t : TypeId} {arr : Array Value} (h : qAW w g t arr) (j : Nat) : w.cell? ⟨g, j, none⟩ = arr[j]? := cell_of_row w g j arr t (0, 0) h
theorem qAW.frozen {w : World} {g : Nat} {t : TypeId} {arr : Array Value} (h : qAW w g t arr) (j : Nat) : w.frozen? ⟨g, j, none⟩ = false := frozen_of_row w g j arr t h
theorem qAW.lt {w : World} {g : Nat} {t : TypeId} {arr : Array Value} (h : qAW w g t arr) : g < w.heap.size := by
  rcases Nat.lt_or_ge g w.heap.size with hlt | hge
  · exact hlt
  · unfold qAW at h; rw [Array.getElem?_eq_none hge] at h; cases h
theorem qAW.new (w : World) (t : TypeId) (arr : Array Value) : qAW (w.alloc (.cells arr t)) w.heap.size t arr := by
  show (w.heap.push _)[w.heap.size]? = _; simp
theorem qAW.alloc {w : World} {g : Nat} {t : TypeId} {arr : Array Value} (h : qAW w g t arr) (o : Obj) : qAW (w.alloc o) g t arr := (Below.heap_alloc w o g h.lt).trans h
theorem qAW.below {w w' : World} {g B : Nat} {t : TypeId} {arr : Array Value} (h : qAW w g t arr) (hb : Below B w w') (hg : g < B) : qAW w' g t arr := (hb.block g hg).trans h
theorem qAW.row {w : World} {g : Nat} {t : TypeId} {old : Array Value} (h : qAW w g t old) (arr : Array Value) : qAW (w.setRow g arr) g t arr := setRow_heap w g old arr t (0, 0) h
theorem qAW.row_other {w : World} {g k : Nat} {t : TypeId} {arr : Array Value} (h : qAW w g t arr) (cs : Array Value) (hk : g ≠ k) : qAW (w.setRow k cs) g t arr := (setRow_other w k g cs hk).trans h
theorem qEk {B : Nat} {a w : World} (h : Below B a w) {g : Nat} (hg : B ≤ g) (cs : Array Value) : Below B a (w.setRow g cs) :=
  h.trans ⟨rfl, rfl, rfl, by rw [size_setRow]; exact Nat.le_refl _, fun k hk => setRow_other w g k cs (by omega)⟩
theorem qD9 {P : Program} {ops : Array Oper} {rest : List Oper} {o : Oper} {a : Act} {w : World} {Q : Exit → Act → World → Prop} (hgd : o.guard = none) (ty : TypeId) (x y : Operand) (ho : o.op = .store ty x y)
    (g : Nat) (cells : Array Value) (hx : a.eval x = .pointer (some ⟨g, 0, none⟩)) (hy : a.eval y = .agg cells)
    (t : TypeId) (old : Array Value) (hg : w.heap[g]? = some (.cells old t (0, 0))) (hi : (P.info? ty).map (·.size) = some cells.size)
    (hold : old.size = cells.size) (h1 : cells.all (·.oneCell') = true)
    (h : wpList P ops Q rest (a.put o.dst undef) (w.setRow g cells)) : wpList P ops Q (o :: rest) a w :=
  wpList_plain hgd fun _ hK => wp_store_row ty x y ho g cells hx hy t old hg hi hold h1 (hK _ _ h)
theorem qDP {P : Program} {fn : Func} {p q : Tmp} {ty : TypeId} (h : fn.results = #[.cell p ty, .tmp q]) (tmps : Array Value) (w : World) (g : Nat) (t : TypeId) (cs : Array Value) (d : TypeDesc)
    (hp : tmps.getD p undef = .pointer (some ⟨g, 0, none⟩)) (hg : qAW w g t cs)
    (hu : P.underlying ty = some d) (hd : (match d with | .struct _ | .array _ _ => true | _ => false) = true) (hi : (P.info? ty).map (·.size) = some cs.size) :
    (results fn tmps).run P w = .ok (.tuple #[.agg cs, tmps.getD q undef]) w := by
  (have hp' : tmps[p]?.getD undef = .pointer (some ⟨g, 0, none⟩) := by simpa using hp); simp [results, h, hp', asAddr, run_loadVar_row w g t ty cs (0, 0) d hg hu hd hi]
theorem qAb {P : Program} {fn : Func} {p : Tmp} {ty : TypeId} (h : fn.results = #[.cell p ty]) (tmps : Array Value) (w : World) (g : Nat) (t : TypeId) (cs : Array Value) (d : TypeDesc)
    (hp : tmps.getD p undef = .pointer (some ⟨g, 0, none⟩)) (hg : qAW w g t cs)
    (hu : P.underlying ty = some d) (hd : (match d with | .struct _ | .array _ _ => true | _ => false) = true) (hi : (P.info? ty).map (·.size) = some cs.size) :
    (results fn tmps).run P w = .ok (.agg cs) w := results_cell_row h tmps w g t cs (0, 0) d hp hg hu hd hi
structure VM where
  kind : Int
  b : Bool
  i : Int
  t : ByteArray
  LA : Option Addr
  Ln : Nat
  Lc : Nat
  FA : Option Addr
  Fn : Nat
  Fc : Nat
def VM.cells (v : VM) : Array Value := #[.int .i64 v.kind, .bool v.b, .int .i64 v.i, .string v.t, .slice v.LA v.Ln v.Lc, .slice v.FA v.Fn v.Fc]
def VM.zero : VM := ⟨0, false, 0, ⟨#[]⟩, none, 0, 0, none, 0, 0⟩
inductive JV where
  | mk (v : VM) (l : List JV) (ns : List ByteArray) (vs : List JV)
def JV.v : JV → VM | .mk v _ _ _ => v
def JV.l : JV → List JV | .mk _ l _ _ => l
def JV.ns : JV → List ByteArray | .mk _ _ n _ => n
def JV.vs : JV → List JV | .mk _ _ _ s => s
def JV.cells (j : JV) : Array Value := j.v.cells
def JV.zero : JV := .mk VM.zero [] [] []
instance : Inhabited JV := ⟨JV.zero⟩
def I64 (n : Int) : Prop := -9223372036854775808 ≤ n ∧ n ≤ 9223372036854775807
def qAy : Nat := 140737488355328
def qBA (w : World) (A : Option Addr) (step : Nat) : Nat → List ByteArray → Prop
  | _, [] => True
  | k, n :: r => (∃ b off, A = some ⟨b, off, none⟩ ∧ w.cell? ⟨b, off + k * step, none⟩ = some (.string n)) ∧ n.size ≤ qAy ∧ qBA w A step (k + 1) r
mutual
def qAi (w : World) : JV → Prop
  | .mk v l ns vs => (I64 v.kind ∧ I64 v.i ∧ v.t.size ≤ qAy ∧ v.Ln = l.length ∧ v.Fn = vs.length ∧ ns.length = vs.length ∧ v.Ln * 80 ≤ qAy ∧ v.Fn * 96 ≤ qAy ∧ qBA w v.FA 7 0 ns) ∧ qBf w v.LA 6 0 0 l ∧ qBf w v.FA 7 1 0 vs
def qBf (w : World) (A : Option Addr) (step shift : Nat) : Nat → List JV → Prop
  | _, [] => True
  | k, x :: r => (∃ b off, A = some ⟨b, off, none⟩ ∧ w.rangeAt b (off + k * step + shift) x.cells.toList) ∧ qAi w x ∧ qBf w A step shift (k + 1) r
end
theorem qBA.get {w : World} {A : Option Addr} {step : Nat} : ∀ {l : List ByteArray} {k : Nat}, qBA w A step k l → ∀ {j : Nat} {n : ByteArray}, l[j]? = some n →
    (∃ b off, A = some ⟨b, off, none⟩ ∧ w.cell? ⟨b, off + (k + j) * step, none⟩ = some (.string n)) ∧ n.size ≤ qAy
  | [], _, _, j, n, hj => by simp at hj
  | m :: r, k, h, 0, n, hj => by
    unfold qBA at h; simp only [List.getElem?_cons_zero, Option.some.injEq] at hj; subst hj; exact ⟨h.1, h.2.1⟩
  | m :: r, k, h, j + 1, n, hj => by
    unfold qBA at h; simp only [List.getElem?_cons_succ] at hj; have := h.2.2.get hj; rw [show k + 1 + j = k + (j + 1) from by omega] at this; exact this
theorem qBf.get {w : World} {A : Option Addr} {step shift : Nat} : ∀ {l : List JV} {k : Nat}, qBf w A step shift k l → ∀ {j : Nat} {x : JV}, l[j]? = some x →
    (∃ b off, A = some ⟨b, off, none⟩ ∧ w.rangeAt b (off + (k + j) * step + shift) x.cells.toList) ∧ qAi w x
  | [], _, _, j, n, hj => by simp at hj
  | m :: r, k, h, 0, n, hj => by
    unfold qBf at h; simp only [List.getElem?_cons_zero, Option.some.injEq] at hj; subst hj; exact ⟨h.1, h.2.1⟩
  | m :: r, k, h, j + 1, n, hj => by
    unfold qBf at h; simp only [List.getElem?_cons_succ] at hj; have := h.2.2.get hj; rw [show k + 1 + j = k + (j + 1) from by omega] at this; exact this
theorem qBm {w w' : World} (hb : Below w.heap.size w w') {b o : Nat} {cs : List Value} (h : w.rangeAt b o cs) : w'.rangeAt b o cs := fun j v hv => by
  have hc := h j v hv; rw [hb.cell (p := ⟨b, o + j, none⟩) (block_lt_of_cell hc)]; exact hc
theorem qAB {w w' : World} (hb : Below w.heap.size w w') {a : Addr} {v : Value} (h : w.cell? a = some v) : w'.cell? a = some v := by
  rw [hb.cell (p := a) (block_lt_of_cell h)]; exact h
theorem qNe (w : World) : qAi w JV.zero := by
  unfold JV.zero qAi; refine ⟨⟨?_, ?_, ?_, rfl, rfl, rfl, ?_, ?_, ?_⟩, ?_, ?_⟩
  · exact ⟨by decide, by decide⟩
  · exact ⟨by decide, by decide⟩
  · decide
  · decide
  · decide
  · exact True.intro
  · unfold qBf; exact True.intro
  · unfold qBf; exact True.intro
theorem qBA.below {w w' : World} (hb : Below w.heap.size w w') {A : Option Addr} {step : Nat} : ∀ {l : List ByteArray} {k : Nat}, qBA w A step k l → qBA w' A step k l
  | [], _, _ => by unfold qBA; exact True.intro
  | n :: r, k, h => by
    unfold qBA at h ⊢; obtain ⟨⟨b, off, e, hc⟩, h2, h3⟩ := h; exact ⟨⟨b, off, e, qAB hb hc⟩, h2, h3.below hb⟩
structure qER (w : World) (bl o : Nat) (n : ByteArray) (x : VM) : Prop where
  c0 : w.cell? ⟨bl, o, none⟩ = some (.string n)
  c1 : w.cell? ⟨bl, o + 1, none⟩ = some (.int .i64 x.kind)
  c2 : w.cell? ⟨bl, o + 2, none⟩ = some (.bool x.b)
  c3 : w.cell? ⟨bl, o + 3, none⟩ = some (.int .i64 x.i)
  c4 : w.cell? ⟨bl, o + 4, none⟩ = some (.string x.t)
  c5 : w.cell? ⟨bl, o + 5, none⟩ = some (.slice x.LA x.Ln x.Lc)
  c6 : w.cell? ⟨bl, o + 6, none⟩ = some (.slice x.FA x.Fn x.Fc)
theorem qER.below {w w' : World} (hb : Below w.heap.size w w') {bl o : Nat} {n : ByteArray} {x : VM} (h : qER w bl o n x) : qER w' bl o n x :=
  ⟨qAB hb h.c0, qAB hb h.c1, qAB hb h.c2, qAB hb h.c3, qAB hb h.c4, qAB hb h.c5, qAB hb h.c6⟩
def look : List ByteArray → List JV → ByteArray → Option JV
  | n :: ns, x :: vs, name => if (n.toList == name.toList) = true then some x else look ns vs name
  | _, _, _ => none
def qOx (j : JV) (name : ByteArray) : Option JV := if (j.v.kind == 5) = true then look j.ns j.vs name else none
def qQM (j : JV) (name : ByteArray) : JV := (qOx j name).getD JV.zero
end Go.Proofs.YtnjhmnolngdfaaaGreatDoor
namespace Go.Proofs.YtnjhmnolngdfaaaGreatDoor
open Go.RowKit
variable {P : Program} {ops : Array Oper} {rest : List Oper} {o : Oper} {a : Act} {w : World} {Q : Exit → Act → World → Prop}
theorem qAX (hgd : o.guard = none) (ty : TypeId) (x : Operand) (ho : o.op = .load ty x) (b off : Nat) (hx : a.eval x = .pointer (some ⟨b, off, none⟩)) (arr : Array Value) (d : TypeDesc)
    (hc : w.rangeAt b off arr.toList) (hu : P.underlying ty = some d) (hd : d.isRow = true) (hi : (P.info? ty).map (·.size) = some arr.size)
    (h : wpList P ops Q rest (a.put o.dst (.agg arr)) w) : wpList P ops Q (o :: rest) a w := by
  refine wpList_load_mid hgd ty x ho b off hx arr.toList d hc hu hd (by simpa using hi) ?_; rw [Array.toArray_toList]; exact h
theorem qAL (hgd : o.guard = none) (ty : TypeId) (x : Operand) (ho : o.op = .load ty x) (g : Nat) (hx : a.eval x = .pointer (some ⟨g, 0, none⟩)) (t : TypeId) (arr : Array Value) (d : TypeDesc)
    (hc : qAW w g t arr) (hu : P.underlying ty = some d) (hd : d.isRow = true) (hi : (P.info? ty).map (·.size) = some arr.size)
    (h : wpList P ops Q rest (a.put o.dst (.agg arr)) w) : wpList P ops Q (o :: rest) a w := by
  refine qAX hgd ty x ho g 0 hx arr d (fun j v hv => ?_) hu hd hi h; rw [Nat.zero_add, hc.cell j]
  simpa using hv
theorem qAI {w w' : World} {z : Array Value} {t : TypeId} (h : Hid (w' = w.alloc (.cells z t))) : qAW w' w.heap.size t z := by
  have e := h.out; subst e; exact qAW.new _ _ _
theorem qAE (hgd : o.guard = none) (ty : TypeId) (ho : o.op = .alloc ty) (z : Array Value) (hz : ∀ w, (zeroValue ty).run P w = .ok (.agg z) w)
    (h : ∀ w', Hid (w' = w.alloc (.cells z ty)) → wpList P ops Q rest (a.put o.dst (.pointer (some ⟨w.heap.size, 0, none⟩))) w') : wpList P ops Q (o :: rest) a w :=
  wpList_plain hgd fun _ hK => by
    unfold Oper.wp execOp; simp [ho, Instr.alloc, Sem.run_bind, hz, newVar, Value.cells]; exact hK _ _ (h _ rfl)
theorem qAH (hgd : o.guard = none) (ty : TypeId) (x y : Operand) (ho : o.op = .store ty x y) (g : Nat) (cells : Array Value) (hx : a.eval x = .pointer (some ⟨g, 0, none⟩)) (hy : a.eval y = .agg cells)
    (t : TypeId) (old : Array Value) (hg : qAW w g t old) (hi : (P.info? ty).map (·.size) = some cells.size) (hold : old.size = cells.size) (h1 : cells.all (·.oneCell') = true)
    (h : ∀ w', Hid (w' = w.setRow g cells) → wpList P ops Q rest (a.put o.dst undef) w') : wpList P ops Q (o :: rest) a w :=
  qD9 hgd ty x y ho g cells hx hy t old hg hi hold h1 (h _ rfl)
theorem qAM (hgd : o.guard = none) (ty : TypeId) (x : Operand) (ho : o.op = .box ty x) (arr : Array Value) (hx : a.eval x = .agg arr)
    (h : ∀ w', Hid (w' = w.alloc (.cells arr ty)) → wpList P ops Q rest (a.put o.dst (.pointer (some ⟨w.heap.size, 0, none⟩))) w') : wpList P ops Q (o :: rest) a w :=
  wpList_plain hgd fun _ hK => by
    unfold Oper.wp execOp; simp [ho, hx]; exact hK _ _ (h _ rfl)
theorem qAO {o2 : Oper} (d : Tmp) (hgd : o.guard = none) (hdst : o.dst = some d) (ty : TypeId) (ho : o.op = .alloc ty) (hgd2 : o2.guard = none) (y : Operand) (ho2 : o2.op = .store ty (.tmp d) y) (z : Array Value) (hz : ∀ w, (zeroValue ty).run P w = .ok (.agg z) w)
    (cells : Array Value) (hx : (a.put o.dst (.pointer (some ⟨w.heap.size, 0, none⟩))).eval (.tmp d) = .pointer (some ⟨w.heap.size, 0, none⟩)) (hy : (a.put o.dst (.pointer (some ⟨w.heap.size, 0, none⟩))).eval y = .agg cells)
    (hi : (P.info? ty).map (·.size) = some cells.size) (hold : z.size = cells.size) (h1 : cells.all (·.oneCell') = true)
    (h : ∀ w', Hid (w' = w.alloc (.cells cells ty)) → wpList P ops Q rest ((a.put o.dst (.pointer (some ⟨w.heap.size, 0, none⟩))).put o2.dst undef) w') : wpList P ops Q (o :: o2 :: rest) a w := by
  (refine qAE hgd ty ho z hz fun w1 hw1 => ?_); have hI := qAI hw1; refine qD9 hgd2 ty (.tmp d) y ho2 w.heap.size cells hx hy ty z hI hi hold h1 ?_; refine h _ ?_; have e := hw1.out; subst e; exact World.setRow_alloc_new w z cells ty
theorem qAC {w w' : World} {z : Array Value} {t : TypeId} (h : Hid (w' = w.alloc (.cells z t))) : qAW w' w.heap.size t z ∧ w'.heap.size = w.heap.size + 1 ∧ Below w.heap.size w w' := by
  have e := h.out; subst e; exact ⟨qAW.new _ _ _, by simp, (Below.refl _ _).alloc (Nat.le_refl _) _⟩
theorem qAQ {w w' : World} {g : Nat} {t : TypeId} {old arr : Array Value} (h : Hid (w' = w.setRow g arr)) (hb : qAW w g t old) : qAW w' g t arr := by
  have e := h.out; subst e; exact hb.row _
theorem qAu {w w' : World} {g k : Nat} {t : TypeId} {arr cs : Array Value} (h : Hid (w' = w.setRow k cs)) (hk : g ≠ k) (hb : qAW w g t arr) : qAW w' g t arr := by
  have e := h.out; subst e; exact hb.row_other _ hk
theorem qAN {w w' a : World} {g B : Nat} {arr : Array Value} (h : Hid (w' = w.setRow g arr)) (hg : B ≤ g) (hb : Below B a w) : Below B a w' ∧ w'.heap.size = w.heap.size := by
  have e := h.out; subst e; exact ⟨qEk hb hg _, size_setRow _ _ _⟩
theorem qAD {w w' : World} {z : Array Value} {t : TypeId} (h : Hid (w' = w.alloc (.cells z t))) : Below w.heap.size w w' := (qAC h).2.2
end Go.Proofs.YtnjhmnolngdfaaaGreatDoor
namespace Go.Proofs.YtnjhmnolngdfaaaGreatDoor
open Go.RowKit
variable {P : Program} {ops : Array Oper} {rest : List Oper} {o : Oper} {a : Act} {w : World} {Q : Exit → Act → World → Prop}
theorem qAs (hgd : o.guard = none) (ty : TypeId) (x y : Operand) (ho : o.op = .store ty x y) (g off : Nat) (hx : a.eval x = .pointer (some ⟨g, off, none⟩)) (v : Value) (hy : a.eval y = v)
    (t : TypeId) (old : Array Value) (hg : qAW w g t old) (hoff : off < old.size) (hi : (P.info? ty).map (·.size) = some 1) (h1 : v.oneCell' = true)
    (h : ∀ w', Hid (w' = w.setRow g (old.setIfInBounds off v)) → wpList P ops Q rest (a.put o.dst undef) w') : wpList P ops Q (o :: rest) a w := by
  have hc : v.cells = #[v] := by cases v <;> first | rfl | cases h1
  have ht : w.there g off 1 := fun j hj => by
    (obtain rfl : j = 0 := by omega); refine ⟨?_, hg.frozen off⟩; rw [Nat.add_zero, hg.cell off, Array.getElem?_eq_getElem hoff]; rfl
  have hrun : (storeVar ty ⟨g, off, none⟩ v).run P w = .ok () (w.setCells g off [v]) := by
    have := run_storeVar_mid (P := P) w g off ty #[v] ht hi (by simp [h1]); unfold storeVar at this ⊢; rw [hc]; exact this
  have hset : w.setCells g off [v] = w.setRow g (old.setIfInBounds off v) := by
    rw [← setCell_eq_setRow w g off old t (0, 0) v hg]; simp [World.setCells]
  (refine wpList_plain hgd fun _ hK => ?_); unfold Oper.wp execOp; simp only [ho, hx, hy, Instr.storeAt, Instr.sureAddr, Sem.run_bind, Sem.run_pure, Result.andThen_ok, hrun]; rw [hset]; exact hK _ _ (h _ rfl)
theorem qDh (parts : Array (Nat × Operand)) (vals : List (Nat × Value)) (hv : parts.toList.map (fun x => (x.1, a.eval x.2)) = vals) : (parts.map fun (i, x) => (i, a.eval x)) = vals.toArray := by
  apply Array.ext'; rw [Array.toList_map, ← hv]
theorem qAU (len : Nat) (vals : List (Nat × Value)) (cells : Array Value) (ie : TypeInfo) (z : Value)
    (hf : Instr.fill (fun i => some (i * ie.size, ie.size)) ((Array.range (len * ie.size)).map (z.cells[· % z.cells.size]!)) vals = some cells)
    (hgd : o.guard = none) (t e : TypeId) (parts : Array (Nat × Operand)) (ho : o.op = .buildSlice t len parts) (hv : parts.toList.map (fun x => (x.1, a.eval x.2)) = vals)
    (hu : P.underlying t = some (.slice e)) (hie : P.info? e = some ie) (hz : ie.zero = some z) (hsmall : ¬ len * ie.size > 2 ^ 24) (hpos : ¬ len * ie.size = 0)
    (h : ∀ w', Hid (w' = w.alloc (.cells cells e)) → wpList P ops Q rest (a.put o.dst (.slice (some ⟨w.heap.size, 0, none⟩) len len)) w') : wpList P ops Q (o :: rest) a w :=
  wpList_buildSlice hgd t e len parts ho cells ie z hu hie hz hsmall hpos (by rw [qDh parts vals hv]; exact hf) (h _ rfl)
theorem qAK {t : TypeId} {vals : List (Nat × Value)} {cells : Array Value} (hrun : ∀ w, (Instr.build t vals.toArray).run P w = .ok (.agg cells) w) (hgd : o.guard = none) (parts : Array (Nat × Operand)) (ho : o.op = .build t parts)
    (hv : parts.toList.map (fun x => (x.1, a.eval x.2)) = vals)
    (h : wpList P ops Q rest (a.put o.dst (.agg cells)) w) : wpList P ops Q (o :: rest) a w := by
  (refine wpList_plain hgd fun _ hK => ?_); unfold Oper.wp execOp; simp only [ho, qDh parts vals hv, Sem.run_bind, hrun, Result.andThen_ok, Sem.run_pure]; exact hK _ _ h
theorem qAF {d : Option Tmp} {ty : TypeId} {x y : Operand} {tt : TypeId} {ps : String} {af : Array Edge} {gd : Option (Nat × Bool)} (h : wpList P ops Q (⟨d, .store ty x y, tt, ps, af, gd⟩ :: rest) a w) : wpList P ops Q (⟨d, .store ty x y, tt, ps, af, gd⟩ :: rest) a w := h
theorem qAT {d : Option Tmp} {ty : TypeId} {x : Array (Nat × Operand)} {tt : TypeId} {ps : String} {af : Array Edge} {gd : Option (Nat × Bool)} (h : wpList P ops Q (⟨d, .build ty x, tt, ps, af, gd⟩ :: rest) a w) : wpList P ops Q (⟨d, .build ty x, tt, ps, af, gd⟩ :: rest) a w := h
theorem qAm {d : Option Tmp} {ty : TypeId} {n : Nat} {x : Array (Nat × Operand)} {tt : TypeId} {ps : String} {af : Array Edge} {gd : Option (Nat × Bool)} (h : wpList P ops Q (⟨d, .buildSlice ty n x, tt, ps, af, gd⟩ :: rest) a w) : wpList P ops Q (⟨d, .buildSlice ty n x, tt, ps, af, gd⟩ :: rest) a w := h
theorem qAG {d : Option Tmp} {ty : TypeId} {tt : TypeId} {ps : String} {af : Array Edge} {gd : Option (Nat × Bool)} (h : wpList P ops Q (⟨d, .alloc ty, tt, ps, af, gd⟩ :: rest) a w) : wpList P ops Q (⟨d, .alloc ty, tt, ps, af, gd⟩ :: rest) a w := h
theorem qAR {d : Option Tmp} {ty : TypeId} {x : Operand} {tt : TypeId} {ps : String} {af : Array Edge} {gd : Option (Nat × Bool)} (h : wpList P ops Q (⟨d, .load ty x, tt, ps, af, gd⟩ :: rest) a w) : wpList P ops Q (⟨d, .load ty x, tt, ps, af, gd⟩ :: rest) a w := h
end Go.Proofs.YtnjhmnolngdfaaaGreatDoor
namespace Go.Proofs.YtnjhmnolngdfaaaGreatDoor
open Go.RowKit
theorem qBY {w w' : World} {base : Nat} {e : TypeId} {size : Nat} {v : Value} {n : Nat} {xs : List Value} (h : w.ownsRow base e size v n xs) (hb : Below w.heap.size w w') : w'.ownsRow base e size v n xs :=
  h.kept (row := none) ⟨hb.os, hb.tape, hb.output, hb.size, fun k hk _ => hb.block k hk⟩ (by cases hv : v.ownBlock <;> simp)
theorem qDH {P : Program} {ops : Array Oper} {rest : List Oper} {o : Oper} {a : Act} {w : World} {Q : Exit → Act → World → Prop} (hgd : o.guard = none) (s x : Operand) (t : TypeId)
    (ho : o.op = .call { callee := .builtin .append, args := #[s, x], argTypes := #[t, t] })
    (base : Nat) (e : TypeId) (i : TypeInfo) (z : Value) (size bytes : Nat) (ht : P.underlying t = some (.slice e)) (hi : P.info? e = some i) (hz : i.zero = some z)
    (hsize : i.size = size) (hby : i.bytes = bytes) (hzs : z.cells.size = size) (hsz : 0 < size)
    (v : Value) (n : Nat) (xs : List Value) (hs : a.eval s = v) (hown : w.ownsRow base e size v n xs)
    (g c : Nat) (cells : Array Value) (ty : TypeId) (IB : qAW w g ty cells) (hcs : cells.size = size) (hx : a.eval x = .slice (some ⟨g, 0, none⟩) 1 c) (h1 : cells.all (·.oneCell') = true)
    (h63 : n + 1 ≤ maxLen) (hbytes : (n + 1) * bytes ≤ 140737488355328) (hbase : base ≤ w.heap.size)
    (h : ∀ v' w', w'.ownsRow base e size v' (n + 1) (xs ++ cells.toList) → Below base w w' → wpList P ops Q rest (a.put o.dst v') w') : wpList P ops Q (o :: rest) a w := by
  refine wpList_append_own w hgd s x t ho base e i z size bytes ht hi hz hsize hby hzs hsz v n xs hs hown ⟨g, 0, none⟩ 1 c cells.toList hx (by simp [hcs]) ?_ ?_ h63 hbytes hbase ?_
  · intro j u hu; (have hadd : (⟨g, 0, none⟩ : Addr).add j = ⟨g, j, none⟩ := by unfold Addr.add; split <;> simp_all); rw [hadd, IB.cell]
    simpa using hu
  · intro u hu; have := Array.all_eq_true_iff_forall_mem.1 h1 u (by simpa using hu); exact this
  · intro v' w' h2 h3 _; exact h v' w' h2 ((Below.refl base w).grown h3 hbase fun k hk => (hown.lt k hk).1)
theorem qBe {α : Type} {l : List α} {k : Nat} {x : α} (h : l[k]? = some x) : l.take (k + 1) = l.take k ++ [x] := by
  obtain ⟨hl, e⟩ := List.getElem?_eq_some_iff.1 h; rw [List.take_succ_eq_append_getElem hl, e]
end Go.Proofs.YtnjhmnolngdfaaaGreatDoor
namespace Go.Proofs.YtnjhmnolngdfaaaGreatDoor
open Go.RowKit
end Go.Proofs.YtnjhmnolngdfaaaGreatDoor
namespace Go.Proofs.YtnjhmnolngdfaaaGreatDoor
open Go.RowKit
theorem qAc {P : Program} {ops : Array Oper} {id : Nat} {Q : Exit → Act → World → Prop} {a : Act} {w : World} (hm : P.follows .mixedOrders = true)
    (h : ∀ w2, Below w.heap.size w w2 → wpAnyH P .any ops Q (fun w' => Below w.heap.size w w') ops.size (Array.replicate ops.size false) a w2) : (Code.region id ops true).wp P Q a w :=
  wp_region_held_drew (S := fun w' => Below w.heap.size w w') hm ⟨rfl, rfl, rfl, Nat.le_refl _, fun _ _ => rfl⟩ (fun h1 => h _ h1)
end Go.Proofs.YtnjhmnolngdfaaaGreatDoor
namespace Go.Proofs.YtnjhmnolngdfaaaGreatDoor
open Go.RowKit
variable {P : Program} {o : Oper} {a : Act} {w : World} {Q : Exit → Act → World → Prop} {K : Act → World → Prop}
theorem qFo (ty : TypeId) (ho : o.op = .alloc ty) (z : Array Value) (hz : ∀ w, (zeroValue ty).run P w = .ok (.agg z) w)
    (h : ∀ w', Hid (w' = w.alloc (.cells z ty)) → K (a.put o.dst (.pointer (some ⟨w.heap.size, 0, none⟩))) w') : o.wp P a w K Q := by
  unfold Oper.wp execOp; simp [ho, Instr.alloc, Sem.run_bind, hz, newVar, Value.cells]; exact h _ rfl
theorem qCH (ty : TypeId) (x y : Operand) (ho : o.op = .store ty x y) (g : Nat) (cells : Array Value) (hx : a.eval x = .pointer (some ⟨g, 0, none⟩)) (hy : a.eval y = .agg cells)
    (t : TypeId) (old : Array Value) (hg : qAW w g t old) (hi : (P.info? ty).map (·.size) = some cells.size) (hold : old.size = cells.size) (h1 : cells.all (·.oneCell') = true)
    (h : ∀ w', Hid (w' = w.setRow g cells) → K (a.put o.dst undef) w') : o.wp P a w K Q :=
  wp_store_row ty x y ho g cells hx hy t old hg hi hold h1 (h _ rfl)
end Go.Proofs.YtnjhmnolngdfaaaGreatDoor
namespace Go.Proofs.YtnjhmnolngdfaaaGreatDoor
open Go.RowKit
theorem qDE {w w' : World} {n : Nat} (h : w.drewN n = w') : Below w.heap.size w w' := h ▸ ⟨rfl, rfl, rfl, Nat.le_refl _, fun _ _ => rfl⟩
end Go.Proofs.YtnjhmnolngdfaaaGreatDoor
namespace Go.Proofs.YtnjhmnolngdfaaaGreatDoor
open Go.RowKit
mutual
theorem qAi.below {w w' : World} (hb : Below w.heap.size w w') : ∀ {j : JV}, qAi w j → qAi w' j
  | .mk v l ns vs, h => by
    unfold qAi at h ⊢; exact ⟨⟨h.1.1, h.1.2.1, h.1.2.2.1, h.1.2.2.2.1, h.1.2.2.2.2.1, h.1.2.2.2.2.2.1, h.1.2.2.2.2.2.2.1, h.1.2.2.2.2.2.2.2.1, h.1.2.2.2.2.2.2.2.2.below hb⟩, h.2.1.below hb, h.2.2.below hb⟩
theorem qBf.below {w w' : World} (hb : Below w.heap.size w w') {A : Option Addr} {step shift : Nat} : ∀ {l : List JV} {k : Nat}, qBf w A step shift k l → qBf w' A step shift k l
  | [], _, h => by unfold qBf; exact True.intro
  | x :: r, k, h => by
    unfold qBf at h ⊢; obtain ⟨⟨b, off, e, hr⟩, h2, h3⟩ := h; exact ⟨⟨b, off, e, qBm hb hr⟩, h2.below hb, h3.below hb⟩
end
theorem qAA : (Tryz.prog.info? 25).map (·.size) = some 6 := by kernel_rfl
theorem qJe : (Tryz.prog.info? 25).map (fun i => (i.zero, i.size)) = some (some (.agg JV.zero.cells), 6) := by kernel_rfl
theorem qAY (w : World) : (zeroValue 25).run Tryz.prog w = .ok (.agg JV.zero.cells) w := (Go.zero_of_info qJe).1 w
theorem qAP (j : JV) : j.cells.all (·.oneCell') = true := by simp [JV.cells, VM.cells, Value.oneCell']
inductive JT where
  | mk (kind : Int) (b : Bool) (i : Int) (t : ByteArray) (l : List JT) (ns : List ByteArray) (vs : List JT)
mutual
def er : JV → JT
  | .mk v l ns vs => .mk v.kind v.b v.i v.t (erL l) ns (erL vs)
def erL : List JV → List JT
  | [] => []
  | x :: r => er x :: erL r
end
theorem qBj : ∀ l : List JV, (erL l).length = l.length
  | [] => by unfold erL; rfl
  | x :: r => by unfold erL; rw [List.length_cons, List.length_cons, qBj r]
theorem qCI {w : World} {j : JV} (h : qAi w j) : j.v.Ln = j.l.length ∧ j.v.Fn = j.vs.length ∧ j.ns.length = j.vs.length ∧ j.v.Ln ≤ 9223372036854775807 ∧ j.v.Fn ≤ 9223372036854775807 := by
  obtain ⟨v, l, ns, vs⟩ := j; unfold qAi at h; have h1 := h.1.2.2.2.2.2.2.1; have h2 := h.1.2.2.2.2.2.2.2.1; unfold qAy at h1 h2; exact ⟨h.1.2.2.2.1, h.1.2.2.2.2.1, h.1.2.2.2.2.2.1, by show v.Ln ≤ _; omega, by show v.Fn ≤ _; omega⟩
theorem qDv {w : World} {j : JV} (h : qAi w j) {i : Nat} (hi : i < j.l.length) : ∃ bl off x, j.v.LA = some ⟨bl, off, none⟩ ∧ j.l[i]? = some x ∧ w.rangeAt bl (off + i * 6) x.cells.toList ∧ qAi w x := by
  obtain ⟨v, l, ns, vs⟩ := j; unfold qAi at h; have e : l[i]? = some l[i] := List.getElem?_eq_getElem hi; obtain ⟨⟨b, off, hA, hr⟩, hx⟩ := h.2.1.get e; rw [Nat.zero_add, Nat.add_zero] at hr; exact ⟨b, off, l[i], hA, e, hr, hx⟩
theorem qEI {w : World} {j : JV} (h : qAi w j) {i : Nat} (hi : i < j.vs.length) : ∃ bl off n x, j.v.FA = some ⟨bl, off, none⟩ ∧ j.vs[i]? = some x ∧ j.ns[i]? = some n ∧ w.cell? ⟨bl, off + i * 7, none⟩ = some (.string n) ∧ w.rangeAt bl (off + i * 7 + 1) x.cells.toList ∧ qAi w x := by
  obtain ⟨v, l, ns, vs⟩ := j; unfold qAi at h; have e : vs[i]? = some vs[i] := List.getElem?_eq_getElem hi; have hi2 : i < vs.length := hi; (have hn : i < ns.length := by have := h.1.2.2.2.2.2.1; omega); have e2 : ns[i]? = some ns[i] := List.getElem?_eq_getElem hn; obtain ⟨⟨b, off, hA, hr⟩, hx⟩ := h.2.2.get e; obtain ⟨⟨b2, off2, hA2, hc⟩, _⟩ := h.1.2.2.2.2.2.2.2.2.get e2; rw [Nat.zero_add] at hr hc; have hAA := hA.symm.trans hA2; cases hAA; exact ⟨b, off, ns[i], vs[i], hA, e, e2, hc, hr, hx⟩
theorem qFB {j x : JV} {i : Nat} (h : j.l[i]? = some x) : SizeOf.sizeOf x < SizeOf.sizeOf j := by
  obtain ⟨v, l, ns, vs⟩ := j; have h1 := List.sizeOf_lt_of_mem (List.mem_of_getElem? h); have h2 : SizeOf.sizeOf (JV.mk v l ns vs) = 1 + SizeOf.sizeOf v + SizeOf.sizeOf l + SizeOf.sizeOf ns + SizeOf.sizeOf vs := JV.mk.sizeOf_spec v l ns vs; have h3 : SizeOf.sizeOf (JV.l (.mk v l ns vs)) = SizeOf.sizeOf l := rfl; omega
theorem qDu {j x : JV} {i : Nat} (h : j.vs[i]? = some x) : SizeOf.sizeOf x < SizeOf.sizeOf j := by
  obtain ⟨v, l, ns, vs⟩ := j; have h1 := List.sizeOf_lt_of_mem (List.mem_of_getElem? h); have h2 : SizeOf.sizeOf (JV.mk v l ns vs) = 1 + SizeOf.sizeOf v + SizeOf.sizeOf l + SizeOf.sizeOf ns + SizeOf.sizeOf vs := JV.mk.sizeOf_spec v l ns vs; have h3 : SizeOf.sizeOf (JV.vs (.mk v l ns vs)) = SizeOf.sizeOf vs := rfl; omega
end Go.Proofs.YtnjhmnolngdfaaaGreatDoor
