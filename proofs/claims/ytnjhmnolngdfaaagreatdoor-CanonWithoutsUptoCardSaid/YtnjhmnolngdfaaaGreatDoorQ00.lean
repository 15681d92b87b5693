/- Characters and their bytes, in plain words. Small words used by every text of this seat: endings, worlds that only grew, a row's post from Below. JSON values and rows of structs in memory: what they read as. -/
import Derived.Lib.MapLaws
import Derived.Lib.ValidLaws
import Derived.Lib.RuneBytes
import Derived.Test.YtnjhmnolngdfaaaGreatDoorRows
import Derived.WalkKit
import Derived.ProofKit
import Derived.WalkLawsBesides
import Derived.WalkSpells
import Derived.Handy
import Derived.BigQuiet
import Derived.Laws.RangeAny
import Derived.Lib.OthersKept
import Derived.Lib.Hide
import Derived.LaidEql
import Derived.Deep.QuietTactic
import Derived.Deep.MidRow
namespace Go.Proofs.YtnjhmnolngdfaaaGreatDoor
set_option linter.unusedVariables false
/-- The number of a character. -/
def Scal (r : Int) : Prop := (0 ≤ r ∧ r < 55296) ∨ (57344 ≤ r ∧ r ≤ 1114111)
theorem u8n {x : Int} (h0 : 0 ≤ x) (h1 : x < 256) : (x.toNat.toUInt8).toNat = x.toNat := by
  simp only [Nat.toUInt8, UInt8.toNat_ofNat']
  omega
theorem decodeL_enc {r : Int} (h : Scal r) (t : List UInt8) : Lib.decodeL (Lib.encodeRune r ++ t) = (r.toNat, (Lib.encodeRune r).length) := by
  unfold Scal at h
  rw [Lib.decodeL_N]
  unfold Lib.encodeRune
  by_cases c1 : r ≤ 127
  · rw [Lib.encodeRuneZ_one (by omega) c1]
    have e0 := u8n (x := r) (by omega) (by omega)
    simp only [List.map_cons, List.map_nil, List.cons_append, List.nil_append, List.getD_cons_zero, List.length_cons, List.length_nil]
    rw [e0]
    unfold Lib.decodeN
    rw [if_pos (by omega)]
  · by_cases c2 : r ≤ 2047
    · rw [Lib.encodeRuneZ_two (by omega) c2]
      have e0 := u8n (x := 192 + r / 64) (by omega) (by omega)
      have e1 := u8n (x := 128 + r % 64) (by omega) (by omega)
      simp only [List.map_cons, List.map_nil, List.cons_append, List.nil_append, List.getD_cons_zero, List.getD_cons_succ, List.length_cons, List.length_nil]
      rw [e0, e1]
      unfold Lib.decodeN
      rw [if_neg (by omega), if_pos (by omega), if_pos (by omega)]
      ext <;> dsimp only <;> omega
    · by_cases c3 : r ≤ 65535
      · rw [Lib.encodeRuneZ_three (by omega)]
        have e0 := u8n (x := 224 + r / 4096) (by omega) (by omega)
        have e1 := u8n (x := 128 + r / 64 % 64) (by omega) (by omega)
        have e2 := u8n (x := 128 + r % 64) (by omega) (by omega)
        simp only [List.map_cons, List.map_nil, List.cons_append, List.nil_append, List.getD_cons_zero, List.getD_cons_succ, List.length_cons, List.length_nil]
        rw [e0, e1, e2]
        unfold Lib.decodeN
        rw [if_neg (by omega), if_neg (by omega), if_pos (by omega), if_pos (by omega)]
        ext <;> dsimp only <;> omega
      · rw [Lib.encodeRuneZ_four (by omega) (by omega)]
        have e0 := u8n (x := 240 + r / 262144) (by omega) (by omega)
        have e1 := u8n (x := 128 + r / 4096 % 64) (by omega) (by omega)
        have e2 := u8n (x := 128 + r / 64 % 64) (by omega) (by omega)
        have e3 := u8n (x := 128 + r % 64) (by omega) (by omega)
        simp only [List.map_cons, List.map_nil, List.cons_append, List.nil_append, List.getD_cons_zero, List.getD_cons_succ, List.length_cons, List.length_nil]
        rw [e0, e1, e2, e3]
        unfold Lib.decodeN
        rw [if_neg (by omega), if_neg (by omega), if_neg (by omega), if_pos (by omega), if_pos (by omega)]
        ext <;> dsimp only <;> omega
theorem enc_ne (r : Int) : Lib.encodeRune r ≠ [] := by
  have := (Lib.encodeRuneZ_length r).1
  unfold Lib.encodeRune
  intro h
  rw [List.map_eq_nil_iff] at h
  rw [h] at this
  simp at this
theorem validD_enc {r : Int} (h : Scal r) (t : List UInt8) : Lib.validD (Lib.encodeRune r ++ t) = Lib.validD t := by
  rw [Lib.validD_step _ (by simp [enc_ne]), decodeL_enc h t]
  have hl : 1 ≤ (Lib.encodeRune r).length := by
    have := enc_ne r
    exact List.length_pos_iff.2 this
  have h3 : r = 65533 → (Lib.encodeRune r).length = 3 := by
    rintro rfl; rfl
  rw [if_neg (by dsimp only; rintro ⟨a, b⟩; have := h3 (by omega); omega)]
  rw [List.drop_left]
/-- Bytes that are those of characters, one behind the other. -/
inductive Runes : List UInt8 → Prop where
  | nil : Runes []
  | cons {r : Int} {t : List UInt8} (h : Scal r) (ht : Runes t) : Runes (Lib.encodeRune r ++ t)
theorem Runes.valid {a : List UInt8} (h : Runes a) : Lib.validD a = true := by
  induction h with
  | nil => rfl
  | cons h _ ih => rw [validD_enc h]; exact ih
theorem dec_scal (l : List UInt8) (h : ¬ ((Lib.decodeL l).1 = 65533 ∧ (Lib.decodeL l).2 ≤ 1)) : Scal ((Lib.decodeL l).1 : Int) := by
  unfold Scal
  rw [Lib.decodeL_N] at h ⊢
  rcases Lib.decodeN_shape l.length (l.getD 0 0).toNat (l.getD 1 0).toNat (l.getD 2 0).toNat (l.getD 3 0).toNat with ⟨c, e⟩ | ⟨c1, c2, c3, cv, e⟩ | ⟨c1, c2, c3, c4, cv, cs, e⟩ | ⟨c1, c2, c3, c4, c5, cv, cw, e⟩ | e
  all_goals rw [e] at h ⊢
  all_goals dsimp only at h ⊢
  all_goals first | omega | exact absurd ⟨rfl, Nat.le_refl _⟩ h
end Go.Proofs.YtnjhmnolngdfaaaGreatDoor
namespace Go.Proofs.YtnjhmnolngdfaaaGreatDoor
open Go.RowKit

theorem ret_bool {a b : Bool} (h : a = b) : Ending.returned (.bool a) = .returned (.bool b) := by rw [h]
theorem ret_int {k : IntKind} {a b : Int} (h : a = b) : Ending.returned (.int k a) = .returned (.int k b) := by rw [h]

theorem ba_loop (bs : ByteArray) (i : Nat) (r : List UInt8) : ByteArray.toList.loop bs i r = r.reverse ++ bs.data.toList.drop i := by
  induction h : bs.size - i generalizing i r with
  | zero =>
    unfold ByteArray.toList.loop
    rw [if_neg (by omega)]
    have : bs.data.toList.length ≤ i := by
      have : bs.data.toList.length = bs.size := by simp
      omega
    rw [List.drop_eq_nil_of_le this, List.append_nil]
  | succ n ih =>
    unfold ByteArray.toList.loop
    have hl : i < bs.size := by omega
    rw [if_pos hl, ih (i + 1) _ (by omega)]
    have hl2 : i < bs.data.toList.length := by simpa using hl
    rw [List.drop_eq_getElem_cons hl2, List.reverse_cons, List.append_assoc]
    congr 1
    show bs.get! i :: _ = _
    congr 1
    simp [ByteArray.get!, getElem!_pos, hl]
theorem ba_toList (bs : ByteArray) : bs.toList = bs.data.toList := by
  unfold ByteArray.toList
  rw [ba_loop]; rfl

/-! Two interface values of one integer type held against each other (the guide's law for errors that are constants of one integer type). -/
section
variable {P : Program} (w : World)
theorem run_equalIn_iface_int (d : Nat) {ti tn : TypeId} {ms : Array (String × TypeId)} {i : TypeInfo} {k : IntKind} (a b : Int)
    (hi : P.underlying ti = some (.interface ms)) (hn : P.underlying tn = some (.int k)) (hinfo : P.info? tn = some i) (hcomp : i.comparable = true) :
    (Op.equalIn (d + 2) ti (.iface tn (.int k a)) (.iface tn (.int k b))).run P w = .ok (a == b) w := by
  simp [Op.equalIn, run_underlying hi, run_underlying hn, typeInfo, hinfo, hcomp]
theorem run_eql_iface_int {ti tn : TypeId} {ms : Array (String × TypeId)} {i : TypeInfo} {k : IntKind} (a b : Int)
    (hi : P.underlying ti = some (.interface ms)) (hn : P.underlying tn = some (.int k)) (hinfo : P.info? tn = some i) (hcomp : i.comparable = true) :
    (binOp .eql ti (.iface tn (.int k a)) (.iface tn (.int k b))).run P w = .ok (.bool (a == b)) w := by
  simp only [binOp]
  simp [Op.equal, Op.maxDepth, run_equalIn_iface_int w 9998 a b hi hn hinfo hcomp]
end

/-! Quiet calls behind quiet regions. -/
end Go.Proofs.YtnjhmnolngdfaaaGreatDoor
namespace Go.Proofs.YtnjhmnolngdfaaaGreatDoor
open Go.RowKit
set_option linter.unusedVariables false

/-! ### Boxes: blocks of the call's own, known whole -/
def IBox (w : World) (g : Nat) (t : TypeId) (arr : Array Value) : Prop := w.heap[g]? = some (.cells arr t (0, 0))
theorem IBox.cell {w : World} {g : Nat} {t : TypeId} {arr : Array Value} (h : IBox w g t arr) (j : Nat) : w.cell? ⟨g, j, none⟩ = arr[j]? := cell_of_row w g j arr t (0, 0) h
theorem IBox.frozen {w : World} {g : Nat} {t : TypeId} {arr : Array Value} (h : IBox w g t arr) (j : Nat) : w.frozen? ⟨g, j, none⟩ = false := frozen_of_row w g j arr t h
theorem IBox.lt {w : World} {g : Nat} {t : TypeId} {arr : Array Value} (h : IBox w g t arr) : g < w.heap.size := by
  rcases Nat.lt_or_ge g w.heap.size with hlt | hge
  · exact hlt
  · unfold IBox at h; rw [Array.getElem?_eq_none hge] at h; cases h
theorem IBox.new (w : World) (t : TypeId) (arr : Array Value) : IBox (w.alloc (.cells arr t)) w.heap.size t arr := by
  show (w.heap.push _)[w.heap.size]? = _
  simp
theorem IBox.alloc {w : World} {g : Nat} {t : TypeId} {arr : Array Value} (h : IBox w g t arr) (o : Obj) : IBox (w.alloc o) g t arr := (Below.heap_alloc w o g h.lt).trans h
theorem IBox.below {w w' : World} {g B : Nat} {t : TypeId} {arr : Array Value} (h : IBox w g t arr) (hb : Below B w w') (hg : g < B) : IBox w' g t arr := (hb.block g hg).trans h
theorem IBox.row {w : World} {g : Nat} {t : TypeId} {old : Array Value} (h : IBox w g t old) (arr : Array Value) : IBox (w.setRow g arr) g t arr := setRow_heap w g old arr t (0, 0) h
theorem IBox.row_other {w : World} {g k : Nat} {t : TypeId} {arr : Array Value} (h : IBox w g t arr) (cs : Array Value) (hk : g ≠ k) : IBox (w.setRow k cs) g t arr := (setRow_other w k g cs hk).trans h
theorem below_setRow {B : Nat} {a w : World} (h : Below B a w) {g : Nat} (hg : B ≤ g) (cs : Array Value) : Below B a (w.setRow g cs) :=
  h.trans ⟨rfl, rfl, rfl, by rw [size_setRow]; exact Nat.le_refl _, fun k hk => setRow_other w g k cs (by omega)⟩

theorem wpl_store_row {P : Program} {ops : Array Oper} {rest : List Oper} {o : Oper} {a : Act} {w : World} {Q : Exit → Act → World → Prop} (hgd : o.guard = none) (ty : TypeId) (x y : Operand) (ho : o.op = .store ty x y)
    (g : Nat) (cells : Array Value) (hx : a.eval x = .pointer (some ⟨g, 0, none⟩)) (hy : a.eval y = .agg cells)
    (t : TypeId) (old : Array Value) (hg : w.heap[g]? = some (.cells old t (0, 0))) (hi : (P.info? ty).map (·.size) = some cells.size)
    (hold : old.size = cells.size) (h1 : cells.all (·.oneCell') = true)
    (h : wpList P ops Q rest (a.put o.dst undef) (w.setRow g cells)) : wpList P ops Q (o :: rest) a w :=
  wpList_plain hgd fun _ hK => wp_store_row ty x y ho g cells hx hy t old hg hi hold h1 (hK _ _ h)

/-- Two results, the first a struct in a box of the call's own. -/
theorem results_box_tmp {P : Program} {fn : Func} {p q : Tmp} {ty : TypeId} (h : fn.results = #[.cell p ty, .tmp q]) (tmps : Array Value) (w : World) (g : Nat) (t : TypeId) (cs : Array Value) (d : TypeDesc)
    (hp : tmps.getD p undef = .pointer (some ⟨g, 0, none⟩)) (hg : IBox w g t cs)
    (hu : P.underlying ty = some d) (hd : (match d with | .struct _ | .array _ _ => true | _ => false) = true) (hi : (P.info? ty).map (·.size) = some cs.size) :
    (results fn tmps).run P w = .ok (.tuple #[.agg cs, tmps.getD q undef]) w := by
  have hp' : tmps[p]?.getD undef = .pointer (some ⟨g, 0, none⟩) := by simpa using hp
  simp [results, h, hp', asAddr, run_loadVar_row w g t ty cs (0, 0) d hg hu hd hi]
theorem results_box {P : Program} {fn : Func} {p : Tmp} {ty : TypeId} (h : fn.results = #[.cell p ty]) (tmps : Array Value) (w : World) (g : Nat) (t : TypeId) (cs : Array Value) (d : TypeDesc)
    (hp : tmps.getD p undef = .pointer (some ⟨g, 0, none⟩)) (hg : IBox w g t cs)
    (hu : P.underlying ty = some d) (hd : (match d with | .struct _ | .array _ _ => true | _ => false) = true) (hi : (P.info? ty).map (·.size) = some cs.size) :
    (results fn tmps).run P w = .ok (.agg cs) w := results_cell_row h tmps w g t cs (0, 0) d hp hg hu hd hi

/-! ### JSON values -/
/-- A value as its six cells say it. -/
structure VM where
  kind : Int
  b : Bool
  i : Int
  t : ByteArray
  LA : Option Addr
  Ln : Nat
  Lc : Nat
  FA : Option Addr
  Fn : Nat
  Fc : Nat
def VM.cells (v : VM) : Array Value := #[.int .i64 v.kind, .bool v.b, .int .i64 v.i, .string v.t, .slice v.LA v.Ln v.Lc, .slice v.FA v.Fn v.Fc]
def VM.zero : VM := ⟨0, false, 0, ⟨#[]⟩, none, 0, 0, none, 0, 0⟩

/-- A value with all that is within it, each with its own cells. -/
inductive JV where
  | mk (v : VM) (l : List JV) (ns : List ByteArray) (vs : List JV)
def JV.v : JV → VM | .mk v _ _ _ => v
def JV.l : JV → List JV | .mk _ l _ _ => l
def JV.ns : JV → List ByteArray | .mk _ _ n _ => n
def JV.vs : JV → List JV | .mk _ _ _ s => s
def JV.cells (j : JV) : Array Value := j.v.cells
def JV.zero : JV := .mk VM.zero [] [] []
instance : Inhabited JV := ⟨JV.zero⟩

/-- What fits an int64, and a length that may be. -/
def I64 (n : Int) : Prop := -9223372036854775808 ≤ n ∧ n ≤ 9223372036854775807
def reach : Nat := 140737488355328

/-- Names at the heads of cells, one behind the other. -/
def NamesAt (w : World) (A : Option Addr) (step : Nat) : Nat → List ByteArray → Prop
  | _, [] => True
  | k, n :: r => (∃ b off, A = some ⟨b, off, none⟩ ∧ w.cell? ⟨b, off + k * step, none⟩ = some (.string n)) ∧ n.size ≤ reach ∧ NamesAt w A step (k + 1) r

mutual
def IsJV (w : World) : JV → Prop
  | .mk v l ns vs => (I64 v.kind ∧ I64 v.i ∧ v.t.size ≤ reach ∧ v.Ln = l.length ∧ v.Fn = vs.length ∧ ns.length = vs.length ∧ v.Ln * 80 ≤ reach ∧ v.Fn * 96 ≤ reach ∧ NamesAt w v.FA 7 0 ns) ∧ IsRow w v.LA 6 0 0 l ∧ IsRow w v.FA 7 1 0 vs
def IsRow (w : World) (A : Option Addr) (step shift : Nat) : Nat → List JV → Prop
  | _, [] => True
  | k, x :: r => (∃ b off, A = some ⟨b, off, none⟩ ∧ w.rangeAt b (off + k * step + shift) x.cells.toList) ∧ IsJV w x ∧ IsRow w A step shift (k + 1) r
end

theorem NamesAt.get {w : World} {A : Option Addr} {step : Nat} : ∀ {l : List ByteArray} {k : Nat}, NamesAt w A step k l → ∀ {j : Nat} {n : ByteArray}, l[j]? = some n →
    (∃ b off, A = some ⟨b, off, none⟩ ∧ w.cell? ⟨b, off + (k + j) * step, none⟩ = some (.string n)) ∧ n.size ≤ reach
  | [], _, _, j, n, hj => by simp at hj
  | m :: r, k, h, 0, n, hj => by
    unfold NamesAt at h
    simp only [List.getElem?_cons_zero, Option.some.injEq] at hj
    subst hj
    exact ⟨h.1, h.2.1⟩
  | m :: r, k, h, j + 1, n, hj => by
    unfold NamesAt at h
    simp only [List.getElem?_cons_succ] at hj
    have := h.2.2.get hj
    rw [show k + 1 + j = k + (j + 1) from by omega] at this
    exact this
theorem IsRow.get {w : World} {A : Option Addr} {step shift : Nat} : ∀ {l : List JV} {k : Nat}, IsRow w A step shift k l → ∀ {j : Nat} {x : JV}, l[j]? = some x →
    (∃ b off, A = some ⟨b, off, none⟩ ∧ w.rangeAt b (off + (k + j) * step + shift) x.cells.toList) ∧ IsJV w x
  | [], _, _, j, n, hj => by simp at hj
  | m :: r, k, h, 0, n, hj => by
    unfold IsRow at h
    simp only [List.getElem?_cons_zero, Option.some.injEq] at hj
    subst hj
    exact ⟨h.1, h.2.1⟩
  | m :: r, k, h, j + 1, n, hj => by
    unfold IsRow at h
    simp only [List.getElem?_cons_succ] at hj
    have := h.2.2.get hj
    rw [show k + 1 + j = k + (j + 1) from by omega] at this
    exact this

/-- Cells that stand in w stand in w', a world that is as w was below w's own size. -/
theorem range_below {w w' : World} (hb : Below w.heap.size w w') {b o : Nat} {cs : List Value} (h : w.rangeAt b o cs) : w'.rangeAt b o cs := fun j v hv => by
  have hc := h j v hv
  rw [hb.cell (p := ⟨b, o + j, none⟩) (block_lt_of_cell hc)]
  exact hc
theorem cell_below {w w' : World} (hb : Below w.heap.size w w') {a : Addr} {v : Value} (h : w.cell? a = some v) : w'.cell? a = some v := by
  rw [hb.cell (p := a) (block_lt_of_cell h)]
  exact h

theorem jv_zero (w : World) : IsJV w JV.zero := by
  unfold JV.zero IsJV
  refine ⟨⟨?_, ?_, ?_, rfl, rfl, rfl, ?_, ?_, ?_⟩, ?_, ?_⟩
  · exact ⟨by decide, by decide⟩
  · exact ⟨by decide, by decide⟩
  · decide
  · decide
  · decide
  · exact True.intro
  · unfold IsRow; exact True.intro
  · unfold IsRow; exact True.intro

theorem NamesAt.below {w w' : World} (hb : Below w.heap.size w w') {A : Option Addr} {step : Nat} : ∀ {l : List ByteArray} {k : Nat}, NamesAt w A step k l → NamesAt w' A step k l
  | [], _, _ => by unfold NamesAt; exact True.intro
  | n :: r, k, h => by
    unfold NamesAt at h ⊢
    obtain ⟨⟨b, off, e, hc⟩, h2, h3⟩ := h
    exact ⟨⟨b, off, e, cell_below hb hc⟩, h2, h3.below hb⟩

/-- The seven cells of field k. -/
structure FieldCells (w : World) (bl o : Nat) (n : ByteArray) (x : VM) : Prop where
  c0 : w.cell? ⟨bl, o, none⟩ = some (.string n)
  c1 : w.cell? ⟨bl, o + 1, none⟩ = some (.int .i64 x.kind)
  c2 : w.cell? ⟨bl, o + 2, none⟩ = some (.bool x.b)
  c3 : w.cell? ⟨bl, o + 3, none⟩ = some (.int .i64 x.i)
  c4 : w.cell? ⟨bl, o + 4, none⟩ = some (.string x.t)
  c5 : w.cell? ⟨bl, o + 5, none⟩ = some (.slice x.LA x.Ln x.Lc)
  c6 : w.cell? ⟨bl, o + 6, none⟩ = some (.slice x.FA x.Fn x.Fc)
theorem FieldCells.below {w w' : World} (hb : Below w.heap.size w w') {bl o : Nat} {n : ByteArray} {x : VM} (h : FieldCells w bl o n x) : FieldCells w' bl o n x :=
  ⟨cell_below hb h.c0, cell_below hb h.c1, cell_below hb h.c2, cell_below hb h.c3, cell_below hb h.c4, cell_below hb h.c5, cell_below hb h.c6⟩
def look : List ByteArray → List JV → ByteArray → Option JV
  | n :: ns, x :: vs, name => if (n.toList == name.toList) = true then some x else look ns vs name
  | _, _, _ => none
def fieldS (j : JV) (name : ByteArray) : Option JV := if (j.v.kind == 5) = true then look j.ns j.vs name else none
def fieldD (j : JV) (name : ByteArray) : JV := (fieldS j name).getD JV.zero
end Go.Proofs.YtnjhmnolngdfaaaGreatDoor
