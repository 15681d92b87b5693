/- Rows of bytes of the call's own: appending a text; a few bytes built as a row. Characters and their bytes, in plain words. The document's way to read a character off its bytes (layer 1), in plain words: it finds the characters that Go's decoder finds, and nothing else. The document's layer 1 (coveyref01), walked: size, isPoint, Bytes, At. The document's layer 1, walked: coveyref01.At finds what Go's decoder finds. The document's layer 1, walked: coveyref01.Points, coveyref01.Bad; what is sound is what Go takes for valid. Layer 9: a message's text, a header, a target and its parts (plain). Layer 9: kinds of bytes, a digit's worth; a text in small letters. -/
import Derived.Lib.AppendStr
import Derived.Maps.AppendAt
import Derived.Test.YtbehakabglegjaaGreatDoorQ03
import Derived.Lib.MapLaws
import Derived.Lib.ValidLaws
import Derived.Lib.RuneBytes
import Derived.PlainAid
import Derived.Test.YtbehakabglegjaaGreatDoorQ02
import Derived.Test.YtbehakabglegjaaGreatDoorQ00
import Derived.Test.YtbehakabglegjaaGreatDoorShelf
import Derived.Lib.ConvBytes
import Derived.Test.YtbehakabglegjaaGreatDoorQZip
namespace Go.Proofs.YtbehakabglegjaaGreatDoor
open Go.RowKit
set_option linter.unusedVariables false
set_option linter.unusedSimpArgs false
variable {ops : Array Oper} {rest : List Oper} {o : Oper} {a : Act} {w : World} {Q : Exit → Act → World → Prop}
/-- What lay below base is as it was, and so is every block that holds no bytes. -/
def KB (base : Nat) (w w' : World) : Prop := Below base w w' ∧ ∀ (g : Nat) (T : TypeId) (arr : Array Value), T ≠ 5 → IBox w g T arr → IBox w' g T arr
theorem KB.trans {base : Nat} {a b c : World} (h : KB base a b) (k : KB base b c) : KB base a c := ⟨h.1.trans k.1, fun g T arr hT hI => k.2 g T arr hT (h.2 g T arr hT hI)⟩
theorem KB.of {base : Nat} {w w' : World} (h : Below w.heap.size w w') (hb : base ≤ w.heap.size) : KB base w w' := ⟨h.mono hb, fun g T arr hT hI => zI hI h⟩
theorem KB.refl {base : Nat} {w : World} (hb : base ≤ w.heap.size) : KB base w w := KB.of (Below.refl _ _) hb
theorem KB.up {base : Nat} {w w' : World} (h : KB base w w') {n : Nat} (hn : n ≤ w.heap.size) : n ≤ w'.heap.size := Nat.le_trans hn h.1.size
theorem KB.grown {base : Nat} {w w' : World} {v : Value} {l : List UInt8} (hO : OwnB w base v l) (h : w.grownBy w' v.ownBlock) (hb : base ≤ w.heap.size) : KB base w w' := by
  refine ⟨(Below.refl base w).grown h hb fun k hk => (hO.lt k hk).1, fun g T arr hT hI => ?_⟩
  refine Bes.box (Bes.grown (X := fun q => v.ownBlock = some q) h (fun _ e => e)) hI fun e => ?_
  rcases hO.2 with ⟨rfl, _⟩ | ⟨g2, cap, cur, rfl, _, hg, _⟩
  · cases e
  · have e2 : g2 = g := Option.some.inj e
    subst e2
    have e3 := hg.symm.trans hI
    injection e3 with e3
    injection e3 with _ e4 _
    exact hT e4.symm
theorem bfill1 (p : Int) : Instr.fill (fun i => some (i * 1, 1)) ((Array.range (1 * 1)).map ((Value.int .u8 0).cells[· % (Value.int .u8 0).cells.size]!)) [(0, .int .u8 p)] = some #[.int .u8 p] := by kernel_rfl
theorem IBox.cells {w : World} {g : Nat} {t : TypeId} {arr : Array Value} (h : IBox w g t arr) {m : List UInt8} (hm : arr.toList = Lib.byteCells m) : ∀ (j : Nat) (u : Value), (Lib.byteCells m)[j]? = some u → w.cell? ⟨g, j, none⟩ = some u := fun j u hu => by
  rw [h.cell, ← Array.getElem?_toList, hm]
  exact hu
end Go.Proofs.YtbehakabglegjaaGreatDoor
namespace Go.Proofs.YtbehakabglegjaaGreatDoor
set_option linter.unusedVariables false
/-- The number of a character. -/
def Scal (r : Int) : Prop := (0 ≤ r ∧ r < 55296) ∨ (57344 ≤ r ∧ r ≤ 1114111)
/-- Bytes that are those of characters, one behind the other. -/
inductive Runes : List UInt8 → Prop where
  | nil : Runes []
  | cons {r : Int} {t : List UInt8} (h : Scal r) (ht : Runes t) : Runes (Lib.encodeRune r ++ t)
theorem Runes.one {r : Int} (h : Scal r) : Runes (Lib.encodeRune r) := by
  have := Runes.cons h .nil
  rwa [List.append_nil] at this
end Go.Proofs.YtbehakabglegjaaGreatDoor
namespace Go.Proofs.YtbehakabglegjaaGreatDoor
open Go.PlainAid
set_option linter.unusedVariables false
set_option linter.unusedSimpArgs false
/-- How many bytes a character has whose first one that is. -/
def szI (c : Int) : Nat := if c < 128 then 1 else if 192 ≤ c ∧ c < 224 then 2 else if 224 ≤ c ∧ c < 240 then 3 else if 240 ≤ c ∧ c < 248 then 4 else 0
def offI (n : Nat) : Int := if n = 2 then 192 else if n = 3 then 224 else if n = 4 then 240 else 0
/-- The number behind k further bytes. -/
def valI (s : ByteArray) (i n : Nat) : Nat → Int
  | 0 => bt s i - offI n
  | k + 1 => 64 * valI s i n k + bt s (i + (k + 1)) - 128
def ptB (p : Int) : Bool := (decide (0 ≤ p) && decide (p ≤ 1114111)) && (decide (p < 55296) || decide (57343 < p))
def lenE (p : Int) : Nat := if p < 128 then 1 else if p < 2048 then 2 else if p < 65536 then 3 else 4
def badU (s : ByteArray) (i : Nat) : Prop := (Utf8.decode s i).1 = 65533 ∧ (Utf8.decode s i).2 ≤ 1
/-- What the document's way finds at a place: the number and how many bytes; two noughts: none stands there. -/
def atS (s : ByteArray) (i : Nat) : Nat × Nat := if (Utf8.decode s i).1 = 65533 ∧ (Utf8.decode s i).2 ≤ 1 then (0, 0) else Utf8.decode s i
theorem atS_bad {s : ByteArray} {i : Nat} (h : badU s i) : atS s i = (0, 0) := if_pos h
theorem atS_ok {s : ByteArray} {i : Nat} (h : ¬ badU s i) : atS s i = Utf8.decode s i := if_neg h
end Go.Proofs.YtbehakabglegjaaGreatDoor
namespace Go.Proofs.YtbehakabglegjaaGreatDoor
open Go.RowKit Go.PlainAid
set_option linter.unusedVariables false
set_option linter.unusedSimpArgs false
/-- The call gave a new row of these bytes. -/
def NewB (l : List Value) (w : World) (e : Ending) (w' : World) : Prop := ∃ g, w.heap.size ≤ g ∧ e = .returned (.slice (some ⟨g, 0, none⟩) l.length l.length) ∧ IBox w' g 5 l.toArray ∧ Below w.heap.size w w'
theorem NewB.mk {w : World} {l : List Value} {n : Nat} {arr : Array Value} (hn : l.length = n) (ha : l.toArray = arr) : NewB l w (.returned (.slice (some ⟨w.heap.size, 0, none⟩) n n)) (w.alloc (.cells arr 5)) := by
  subst hn ha
  exact ⟨_, Nat.le_refl _, rfl, IBox.new _ _ _, (Below.refl _ _).alloc (Nat.le_refl _) _⟩
end Go.Proofs.YtbehakabglegjaaGreatDoor
namespace Go.Proofs.YtbehakabglegjaaGreatDoor
open Go.RowKit Go.PlainAid
set_option linter.unusedVariables false
set_option linter.unusedSimpArgs false
/-- What the call of At answers. -/
def AtP (s : ByteArray) (i : Nat) (w : World) (e : Ending) (w' : World) : Prop := e = .returned (.tuple #[.int .i64 (atS s i).1, .int .i64 (atS s i).2]) ∧ Below w.heap.size w w'
theorem AtP.no {s : ByteArray} {i : Nat} {w w' : World} (h : badU s i) (hb : Below w.heap.size w w') : AtP s i w (.returned (.tuple #[.int .i64 0, .int .i64 0])) w' := ⟨by rw [atS_bad h]; rfl, hb⟩
theorem AtP.yes {s : ByteArray} {i n : Nat} {p : Int} {w w' : World} (h : Utf8.decode s i = (p.toNat, n) ∧ ¬ badU s i) (h0 : 0 ≤ p) (hb : Below w.heap.size w w') : AtP s i w (.returned (.tuple #[.int .i64 p, .int .i64 n])) w' := ⟨by
  rw [atS_ok h.2, h.1]
  show _ = Ending.returned (.tuple #[.int .i64 (p.toNat : Nat), .int .i64 n])
  rw [show ((p.toNat : Nat) : Int) = p by omega], hb⟩
end Go.Proofs.YtbehakabglegjaaGreatDoor
namespace Go.Proofs.YtbehakabglegjaaGreatDoor
open Go.RowKit Go.PlainAid
set_option linter.unusedVariables false
set_option linter.unusedSimpArgs false
/-- The first place from i on where no character stands; -1: there is none. -/
def badFrom (s : ByteArray) : Nat → Nat → Int
  | 0, _ => -1
  | n + 1, i => if i < s.size then (if (Utf8.decode s i).1 = 65533 ∧ (Utf8.decode s i).2 ≤ 1 then (i : Int) else badFrom s n (i + (Utf8.decode s i).2)) else -1
def badI (s : ByteArray) : Int := badFrom s s.size 0
theorem bf_end {s : ByteArray} {n i : Nat} (h : ¬ i < s.size) : badFrom s n i = -1 := by
  cases n with
  | zero => rfl
  | succ n => unfold badFrom; rw [if_neg h]
theorem bf_bad {s : ByteArray} {n i : Nat} (h : i < s.size) (hb : badU s i) : badFrom s (n + 1) i = i := by
  unfold badU at hb
  unfold badFrom
  rw [if_pos h, if_pos hb]
theorem bf_go {s : ByteArray} {n i : Nat} (h : i < s.size) (hb : ¬ badU s i) : badFrom s (n + 1) i = badFrom s n (i + (Utf8.decode s i).2) := by
  unfold badU at hb
  conv => lhs; unfold badFrom
  rw [if_pos h, if_neg hb]
/-- What Points answers: some row, and the first place that is amiss. -/
def PtsP (s : ByteArray) (w : World) (e : Ending) (w' : World) : Prop := (∃ v, e = .returned (.tuple #[v, .int .i64 (badI s)])) ∧ Below w.heap.size w w'
theorem PtsP.of {s : ByteArray} {w w' : World} {v : Value} {x : Int} (h : badI s = x) (hb : Below w.heap.size w w') : PtsP s w (.returned (.tuple #[v, .int .i64 x])) w' := by subst h; exact ⟨⟨v, rfl⟩, hb⟩
end Go.Proofs.YtbehakabglegjaaGreatDoor
namespace Go.Proofs.YtbehakabglegjaaGreatDoor
set_option linter.unusedVariables false
set_option linter.unusedSimpArgs false
def bl (s : ByteArray) : List UInt8 := s.data.toList
def isUpB (c : UInt8) : Bool := 65 ≤ c.toNat && c.toNat ≤ 90
def isSeenB (c : UInt8) : Bool := 33 ≤ c.toNat && c.toNat ≤ 126
def isTextB (c : UInt8) : Bool := 32 ≤ c.toNat && c.toNat ≤ 126
def protoL : List UInt8 := [72, 84, 84, 80, 47, 49, 46, 49]
def crlf : List UInt8 := [13, 10]
/-- A message's first line, and can it be written? -/
def startL (m : Ms) : List UInt8 := if m.meth.size ≠ 0 then bl m.meth ++ 32 :: bl m.targ ++ 32 :: protoL else protoL ++ 32 :: Lib.itoa m.stat ++ 32 :: bl m.reas
def startB (m : Ms) : Bool :=
  if m.meth.size ≠ 0 then (decide (m.meth.size ≤ 16) && (bl m.meth).all isUpB) && ((decide (m.targ.size ≠ 0) && decide (m.targ.size ≤ 2048)) && (bl m.targ).all isSeenB) && (decide (m.stat = 0) && decide (m.reas.size = 0))
  else (decide (m.targ.size = 0) && (decide (100 ≤ m.stat) && decide (m.stat ≤ 599))) && (bl m.reas).all isTextB
def fitB (p : ByteArray × ByteArray) : Bool :=
  ((decide (p.1.size ≠ 0) && (bl p.1).all isNameB) && ((bl p.2).all isValueB && (trimL (bl p.2) == bl p.2))) && (!alikeB (bl p.1) codingL && !alikeB (bl p.1) lengthL)
def headL (p : ByteArray × ByteArray) : List UInt8 := bl p.1 ++ [58, 32] ++ bl p.2 ++ crlf
/-- A message's head, as it is written. -/
def topL (m : Ms) : List UInt8 := startL m ++ crlf ++ m.heads.flatMap headL ++ (lengthL ++ [58, 32] ++ Lib.itoa (m.body.length : Int) ++ crlf ++ crlf)
/-- Its bytes; a code where it can't be written. -/
def writeS (m : Ms) : Int × List UInt8 :=
  if (startB m && m.heads.all fitB) = false then (1, [])
  else if 64 ≤ m.heads.length ∨ 65536 < m.body.length then (2, [])
  else if 8192 < (topL m).length then (2, [])
  else (0, topL m ++ m.body)
/-- What the first header of a name says. -/
def headerS (l : List (ByteArray × ByteArray)) (name : ByteArray) : Option ByteArray := (l.find? fun p => alikeB (bl p.1) (bl name)).map (·.2)
/-- A part of a target, up to one of some ends or the end: a code and its place, or what it tells and where it ends. -/
def partL (ends : List UInt8) : Nat → List UInt8 → Nat → List UInt8 → (Int × Nat) ⊕ (List UInt8 × Nat)
  | 0, _, i, acc => .inr (acc, i)
  | _ + 1, [], i, acc => .inr (acc, i)
  | n + 1, c :: r, i, acc =>
    if ends.contains c then .inr (acc, i)
    else if (c.toNat < 33 ∨ 126 < c.toNat) ∨ c.toNat = 35 then .inl (3, i)
    else if c.toNat = 37 then
      match r with
      | a :: b :: r2 => if hexB a < 0 ∨ hexB b < 0 then .inl (3, i) else partL ends n r2 (i + 3) (acc ++ [UInt8.ofNat (hexB a * 16 + hexB b).toNat])
      | _ => .inl (3, i)
    else partL ends n r (i + 1) (acc ++ [c])
/-- A part, and is it UTF-8? -/
def partS (ends s : List UInt8) (i : Nat) : (Int × Nat) ⊕ (ByteArray × Nat) :=
  match partL ends (s.length + 1) (s.drop i) i [] with
  | .inl e => .inl e
  | .inr (t, k) => if badI (txt t) < 0 then .inr (txt t, k) else .inl (7, i)
def pathS (s : List UInt8) : Nat → Nat → List ByteArray → (Int × Nat) ⊕ (List ByteArray × Nat)
  | 0, i, acc => .inr (acc, i)
  | n + 1, i, acc =>
    if s[i]? = some 47 then
      match partS [47, 63] s (i + 1) with
      | .inl e => .inl e
      | .inr (p, k) => pathS s n k (acc ++ [p])
    else .inr (acc, i)
def paramS (s : List UInt8) (i : Nat) : (Int × Nat) ⊕ ((ByteArray × ByteArray) × Nat) :=
  match partS [61, 38] s i with
  | .inl e => .inl e
  | .inr (n, k) =>
    if s[k]? = some 61 then
      match partS [38] s (k + 1) with
      | .inl e => .inl e
      | .inr (v, q) => .inr ((n, v), q)
    else .inr ((n, ⟨#[]⟩), k)
def queryS (s : List UInt8) : Nat → Nat → List (ByteArray × ByteArray) → (Int × Nat) ⊕ (List (ByteArray × ByteArray))
  | 0, i, acc => .inr acc
  | n + 1, i, acc =>
    match paramS s i with
    | .inl e => .inl e
    | .inr (p, k) => if s[k]? = some 38 then queryS s n (k + 1) (acc ++ [p]) else .inr (acc ++ [p])
/-- A target's parts: a code and its place, or path and query. -/
def splitS (s : List UInt8) : (Int × Nat) ⊕ (List ByteArray × List (ByteArray × ByteArray)) :=
  match pathS s (s.length + 1) 0 [] with
  | .inl e => .inl e
  | .inr ([], _) => .inl (3, 0)
  | .inr (p :: r, k) =>
    if s[k]? ≠ some 63 ∨ k + 1 = s.length then .inr (p :: r, [])
    else
      match queryS s (s.length + 1) (k + 1) [] with
      | .inl e => .inl e
      | .inr q => .inr (p :: r, q)
def plainMarks : List UInt8 := [45, 46, 95, 126, 33, 36, 58, 64]
def digU (n : Nat) : UInt8 := if n < 10 then UInt8.ofNat (48 + n) else UInt8.ofNat (55 + n)
def escB (c : UInt8) : List UInt8 := if isWordB c || plainMarks.contains c then [c] else [37, digU (c.toNat / 16), digU (c.toNat % 16)]
def escL (s : ByteArray) : List UInt8 := (bl s).flatMap escB
def pathL : List ByteArray → List UInt8
  | [] => []
  | p :: r => escL p ++ r.flatMap fun q => 47 :: escL q
def parmL (p : ByteArray × ByteArray) : List UInt8 := escL p.1 ++ 61 :: escL p.2
def queryL : List (ByteArray × ByteArray) → List UInt8
  | [] => []
  | p :: r => 63 :: parmL p ++ r.flatMap fun q => 38 :: parmL q
/-- The target of some parts. -/
def joinS (path : List ByteArray) (query : List (ByteArray × ByteArray)) : List UInt8 := 47 :: pathL path ++ queryL query
end Go.Proofs.YtbehakabglegjaaGreatDoor
namespace Go.Proofs.YtbehakabglegjaaGreatDoor
open Go.RowKit Go.PlainAid
set_option linter.unusedVariables false
set_option linter.unusedSimpArgs false
set_option maxRecDepth 100000
theorem word_any (c : UInt8) (w : World) : Calls Tryz.prog 57 #[.int .u8 (c.toNat : Int)] w fun e w' => e = .returned (.bool (isWordB c)) ∧ w = w' := by
  go_enter Tryz.func57, Tryz.ntmps57
  go_wp2
  all_goals
    go_ret
    exact ⟨ret_bool (by unfold isWordB; rw [Bool.eq_iff_iff]; simp only [Bool.or_eq_true, Bool.and_eq_true, decide_eq_true_eq, true_iff, false_iff, Bool.false_eq_true, Bool.true_eq_false]; omega), rfl⟩
theorem value_any (c : UInt8) (w : World) : Calls Tryz.prog 34 #[.int .u8 (c.toNat : Int)] w fun e w' => e = .returned (.bool (isValueB c)) ∧ w = w' := by
  go_enter Tryz.func34, Tryz.ntmps34
  go_wp2
  all_goals
    go_ret
    exact ⟨ret_bool (by unfold isValueB; rw [Bool.eq_iff_iff]; simp only [Bool.or_eq_true, Bool.and_eq_true, decide_eq_true_eq, beq_iff_eq, bne_iff_ne, true_iff, false_iff, Bool.false_eq_true, Bool.true_eq_false]; omega), rfl⟩
theorem ix_any (s : ByteArray) (c : UInt8) (w : World) : Calls Tryz.prog 58 #[.string s, .int .u8 (c.toNat : Int)] w fun e w' => e = .returned (.int .i64 (Lib.indexByte s.data.toList c)) ∧ w' = w := by
  have h := Tryz.strings_IndexByte s (c.toNat : Int) w
  rw [show ((c.toNat : Int)).toNat.toUInt8 = c by simp] at h
  exact h
theorem ix_has : ∀ (l : List UInt8) (c : UInt8), (0 ≤ Lib.indexByte l c ↔ l.contains c = true) ∧ -1 ≤ Lib.indexByte l c
  | [], c => by simp [Lib.indexByte]
  | b :: l, c => by
    obtain ⟨h1, h2⟩ := ix_has l c
    unfold Lib.indexByte
    by_cases hb : b = c
    · subst hb; simp
    · have e1 : (b == c) = false := by simpa using hb
      have e2 : (c == b) = false := by simpa using (fun e : c = b => hb e.symm)
      rw [e1, List.contains_cons, e2, Bool.false_or, ← h1]
      simp only [Bool.false_eq_true, if_false, beq_iff_eq]
      split <;> constructor <;> omega
theorem name_any (c : UInt8) (w : World) : Calls Tryz.prog 33 #[.int .u8 (c.toNat : Int)] w fun e w' => e = .returned (.bool (isNameB c)) ∧ w = w' := by
  have hz : isNameB c = (isWordB c || nameMarks.contains c) := rfl
  have hix := ix_has nameMarks c
  have HI : Hid (Lib.indexByte (⟨#[33, 35, 36, 37, 38, 39, 42, 43, 45, 46, 94, 95, 96, 124, 126]⟩ : ByteArray).data.toList c = Lib.indexByte nameMarks c) := Lib.hid rfl
  generalize Lib.indexByte nameMarks c = I at *
  cases hw : isWordB c <;> cases hc : nameMarks.contains c
  all_goals
    rw [hw, hc] at hz
    rw [hc] at hix
    have HX := Lib.hid hix
    have HZ := Lib.hid hz
    have HW := Lib.hid hw
    clear hz hw hix hc
    go_enter Tryz.func33, Tryz.ntmps33
    go_wp2_with (first
      | (go_at_call 57; refine (word_any _ _).mono ?_; rintro e w' ⟨rfl, rfl⟩; rw [HW.out])
      | (go_at_call 58; refine (ix_any _ _ _).mono ?_; rintro e w' ⟨rfl, rfl⟩; rw [HI.out]))
    all_goals
      go_ret
      exact ⟨ret_bool (by rw [HZ.out]; have := HX.out; simp at this ⊢; try omega), rfl⟩
def hexD : List UInt8 := [48, 49, 50, 51, 52, 53, 54, 55, 56, 57, 97, 98, 99, 100, 101, 102, 48, 49, 50, 51, 52, 53, 54, 55, 56, 57, 65, 66, 67, 68, 69, 70]
theorem hex_tab : ∀ n : Fin 256, Lib.indexByte hexD (UInt8.ofNat n.val) = -1 ∧ hexB (UInt8.ofNat n.val) = -1 ∨ 0 ≤ Lib.indexByte hexD (UInt8.ofNat n.val) ∧ Lib.indexByte hexD (UInt8.ofNat n.val) % 16 = hexB (UInt8.ofNat n.val) := by decide +kernel
theorem hex_any (c : UInt8) (w : World) : Calls Tryz.prog 73 #[.int .u8 (c.toNat : Int)] w fun e w' => e = .returned (.int .i64 (hexB c)) ∧ w = w' := by
  have ht := hex_tab ⟨c.toNat, c.toNat_lt⟩
  simp only [UInt8.ofNat_toNat] at ht
  have HI : Hid (Lib.indexByte (⟨#[48, 49, 50, 51, 52, 53, 54, 55, 56, 57, 97, 98, 99, 100, 101, 102, 48, 49, 50, 51, 52, 53, 54, 55, 56, 57, 65, 66, 67, 68, 69, 70]⟩ : ByteArray).data.toList c = Lib.indexByte hexD c) := Lib.hid rfl
  generalize Lib.indexByte hexD c = I at *
  generalize hH : hexB c = H at *
  clear hH
  rcases ht with ⟨rfl, rfl⟩ | ⟨h1, h2⟩
  · go_enter Tryz.func73, Tryz.ntmps73
    go_wp2_with (go_at_call 58; refine (ix_any _ _ _).mono ?_; rintro e w' ⟨rfl, rfl⟩; rw [HI.out])
    go_ret
    exact ⟨rfl, rfl⟩
  · have H2 : Hid (I % 16 = H) := Lib.hid h2
    clear h2
    go_enter Tryz.func73, Tryz.ntmps73
    go_wp2_with (go_at_call 58; refine (ix_any _ _ _).mono ?_; rintro e w' ⟨rfl, rfl⟩; rw [HI.out])
    go_ret
    exact ⟨ret_int H2.out, rfl⟩
end Go.Proofs.YtbehakabglegjaaGreatDoor
