/- The document's layer 1, walked: coveyref01.Points, coveyref01.Bad; what is sound is what Go takes for valid. Layer 9: a message's text, a header, a target and its parts (plain). Layer 9: kinds of bytes, a digit's worth; a text in small letters. Layer 9: rows of bytes that a conversion made; a text in small letters; two texts that are alike but for their cases. -/
import Derived.Test.YtbehakabglegjaaGreatDoorQ03
import Derived.Test.YtbehakabglegjaaGreatDoorQ00
import Derived.Test.YtbehakabglegjaaGreatDoorQ02
import Derived.Test.YtbehakabglegjaaGreatDoorShelf
import Derived.Lib.ConvBytes
import Derived.PlainAid
import Derived.Test.YtbehakabglegjaaGreatDoorQ01
import Derived.Lib.AtoiErrMem
import Derived.Lib.BufferMore
namespace Go.Proofs.YtbehakabglegjaaGreatDoor
open Go.RowKit Go.PlainAid
set_option linter.unusedVariables false
set_option linter.unusedSimpArgs false
/-- The first place from i on where no character stands; -1: there is none. -/
def badFrom (s : ByteArray) : Nat → Nat → Int
  | 0, _ => -1
  | n + 1, i => if i < s.size then (if (Utf8.decode s i).1 = 65533 ∧ (Utf8.decode s i).2 ≤ 1 then (i : Int) else badFrom s n (i + (Utf8.decode s i).2)) else -1
def badI (s : ByteArray) : Int := badFrom s s.size 0
theorem bf_end {s : ByteArray} {n i : Nat} (h : ¬ i < s.size) : badFrom s n i = -1 := by
  cases n with
  | zero => rfl
  | succ n => unfold badFrom; rw [if_neg h]
theorem bf_bad {s : ByteArray} {n i : Nat} (h : i < s.size) (hb : badU s i) : badFrom s (n + 1) i = i := by
  unfold badU at hb
  unfold badFrom
  rw [if_pos h, if_pos hb]
theorem bf_go {s : ByteArray} {n i : Nat} (h : i < s.size) (hb : ¬ badU s i) : badFrom s (n + 1) i = badFrom s n (i + (Utf8.decode s i).2) := by
  unfold badU at hb
  conv => lhs; unfold badFrom
  rw [if_pos h, if_neg hb]
theorem vdec_bounds (s : ByteArray) (i : Nat) (hi : i < s.size) : 0 < (Utf8.decode s i).2 ∧ i + (Utf8.decode s i).2 ≤ s.size := by
  rw [← Lib.decodeL_drop]
  have hne : s.data.toList.drop i ≠ [] := by
    intro h
    rw [List.drop_eq_nil_iff] at h
    have : s.data.toList.length = s.size := by simp
    omega
  have h1 := Lib.decodeL_width (s.data.toList.drop i)
  have h2 := Lib.decodeL_le _ hne
  rw [List.length_drop] at h2
  have : s.data.toList.length = s.size := by simp
  omega
theorem bf_valid {s : ByteArray} : ∀ (n i : Nat), s.size ≤ i + n → (badFrom s n i < 0 ↔ Lib.validD (s.data.toList.drop i) = true)
  | n, i, hn => by
    by_cases hi : i < s.size
    · have hlen : s.data.toList.length = s.size := by simp
      have hne : s.data.toList.drop i ≠ [] := by
        intro h
        rw [List.drop_eq_nil_iff] at h
        omega
      have hw := vdec_bounds s i hi
      match n, hn with
      | 0, hn => omega
      | n + 1, hn =>
        rw [Lib.validD_step _ hne, Lib.decodeL_drop, List.drop_drop]
        by_cases hb : badU s i
        · rw [bf_bad hi hb, if_pos ⟨hb.1, by have := hb.2; omega⟩]
          simp
        · rw [bf_go hi hb, if_neg (fun h => hb ⟨h.1, by omega⟩)]
          exact bf_valid n _ (by omega)
    · rw [bf_end hi]
      have : s.data.toList.drop i = [] := List.drop_eq_nil_of_le (by have : s.data.toList.length = s.size := by simp
                                                                     omega)
      rw [this]
      simp [Lib.validD_nil]
theorem badI_valid (s : ByteArray) : badI s < 0 ↔ Lib.validD s.data.toList = true := by
  have := bf_valid (s := s) s.size 0 (by omega)
  rwa [List.drop_zero] at this
theorem vinfo_int : (Tryz.prog.info? 3).map (fun i => (i.zero, i.size, i.bytes)) = some (some (.int .i64 0), 1, 8) := by kernel_rfl
theorem vint_info : ∃ ie, Tryz.prog.info? 3 = some ie ∧ ie.zero = some (.int .i64 0) ∧ ie.size = 1 ∧ ie.bytes = 8 := by
  have h := vinfo_int
  cases hq : Tryz.prog.info? 3 with
  | none => rw [hq] at h; cases h
  | some ie =>
    rw [hq] at h
    simp only [Option.map_some, Option.some.injEq, Prod.mk.injEq] at h
    exact ⟨ie, rfl, h.1, h.2.1, h.2.2⟩
theorem vint_fill (p : Int) : Instr.fill (fun i => some (i * 1, 1)) ((Array.range (1 * 1)).map ((Value.int .i64 0).cells[· % (Value.int .i64 0).cells.size]!)) [(0, .int .i64 p)] = some #[.int .i64 p] := by kernel_rfl
/-- What Points answers: some row, and the first place that is amiss. -/
def PtsP (s : ByteArray) (w : World) (e : Ending) (w' : World) : Prop := (∃ v, e = .returned (.tuple #[v, .int .i64 (badI s)])) ∧ Below w.heap.size w w'
theorem PtsP.of {s : ByteArray} {w w' : World} {v : Value} {x : Int} (h : badI s = x) (hb : Below w.heap.size w w') : PtsP s w (.returned (.tuple #[v, .int .i64 x])) w' := by subst h; exact ⟨⟨v, rfl⟩, hb⟩
set_option maxRecDepth 10000 in
set_option maxHeartbeats 8000000 in
theorem points_any {s : ByteArray} (hs : s.size ≤ 17592186044400) (w : World) : Calls Tryz.prog 44 #[.string s] w (PtsP s w) := by
  obtain ⟨ie, hie1, hie2, hie3, hie4⟩ := vint_info
  go_enter Tryz.func44, Tryz.ntmps44
  go_wp2
  go_loopw [4, 5] (fun ov av wr => ∃ (k n m : Nat) (v : Value) (xs : List Value), v = ov ∧ av = .int .i64 k ∧ k ≤ s.size ∧ wr.ownsRow w.heap.size 3 1 v m xs ∧ m ≤ k ∧ s.size ≤ k + n ∧ Hid (badFrom s n k = badI s) ∧ Below w.heap.size w wr) (fun _ av _ => s.size - (intOf av).toNat)
  case atStart => exact ⟨0, s.size, 0, _, [], rfl, rfl, Nat.zero_le _, ⟨rfl, .inl ⟨rfl, rfl⟩⟩, Nat.le_refl _, by omega, Lib.hid rfl, Below.refl _ _⟩
  case round =>
    obtain ⟨k, n, m, v, xs, rfl, rfl, hk, HO, hmk, hkn, HS, HB⟩ := hrel
    by_cases hlt : k < s.size
    · have hkr : s.size ≤ 140737488355328 := by omega
      have hlt' : (k : Int) < (s.size : Int) := by omega
      obtain ⟨n2, hn2⟩ : ∃ n2, n = n2 + 1 := ⟨n - 1, by omega⟩
      subst hn2
      by_cases hbu : badU s k
      · have HK := Lib.hid (HS.out.symm.trans (bf_bad hlt hbu))
        have HA := Lib.hid (atS_bad hbu)
        clear hbu
        go_wp2_with (go_at_call 72; (with_reducible refine (at_any hlt hkr _).mono ?_); rintro e w2 ⟨rfl, hb⟩; rw [HA.out]; replace HB := HB.trans (hb.mono HB.size); clear hb)
        go_ret2
        exact PtsP.of HK.out HB
      · have hd := vdec_bounds s k hlt
        have HS2 : Hid (badFrom s n2 (k + (Utf8.decode s k).2) = badI s) := Lib.hid ((bf_go hlt hbu).symm.trans HS.out)
        have hat := atS_ok hbu
        obtain ⟨D1, D2, hD⟩ : ∃ D1 D2, Utf8.decode s k = (D1, D2) := ⟨_, _, rfl⟩
        rw [hD] at hat hd HS2
        have hd0 : 0 < D2 := hd.1
        have hdl : k + D2 ≤ s.size := hd.2
        have HS3 : Hid (badFrom s n2 (k + D2) = badI s) := HS2
        have hd1 : ¬ (D2 : Int) = 0 := by omega
        have hd2 : (k : Int) + (D2 : Int) ≤ (s.size : Int) := by omega
        have HA := Lib.hid hat
        clear hat hD hbu hd HS HS2
        go_wp2_with (first
          | (go_at_call 72; (with_reducible refine (at_any hlt hkr _).mono ?_); rintro e w2 ⟨rfl, hb⟩; rw [HA.out]; have hbz := HB.size; replace HO := own_below HO (hb.mono (Nat.le_refl _)); replace HB := HB.trans (hb.mono HB.size); clear hb hbz)
          | ((with_reducible refine is_slice ?_); refine wpl_slice_at 1 [(0, .int .i64 (D1 : Int))] #[.int .i64 (D1 : Int)] ie _ (by rw [hie3]; exact vint_fill _) rfl 36 3 _ rfl rfl Tryz.underlying36 hie1 hie2 (by rw [hie3]; decide) (by rw [hie3]; decide) ?_; intro w9 hw; have hb := hid_grow hw; have B9 := (hid_alloc hw).1; clear hw; replace HO := own_below HO hb; replace HB := HB.trans (hb.mono HB.size); clear hb; have hbz := HB.size)
          | (at_builtin; refine wpl_append_fresh rfl (.tmp 22) (.tmp 24) 36 rfl w.heap.size 3 ie _ 1 8 Tryz.underlying36 hie1 hie2 hie3 hie4 rfl (by decide) v m xs rfl HO _ 1 #[.int .i64 (D1 : Int)] _ B9 rfl rfl (by simp [Value.oneCell']) (by unfold maxLen; omega) (by omega) hbz ?_; intro v9 w10 ho9 hb9; replace HO := ho9; replace HB := HB.trans hb9; clear ho9 hb9 B9 hbz))
        go_roundw
        case rel => exact ⟨k + D2, n2, m + 1, v9, _, rfl, by go_num, hdl, HO, by omega, by omega, HS3, HB⟩
        case measure => simp [intOf]; omega
    · have hlt' : ¬ (k : Int) < (s.size : Int) := by omega
      have HK := Lib.hid (HS.out.symm.trans (bf_end hlt))
      go_wp2
      go_ret2
      exact PtsP.of HK.out HB
theorem badu_any {s : ByteArray} (hs : s.size ≤ 17592186044400) (w : World) : Calls Tryz.prog 20 #[.string s] w fun e w' => e = .returned (.int .i64 (badI s)) ∧ Below w.heap.size w w' := by
  go_enter Tryz.func20, Tryz.ntmps20
  go_wp2_with (go_at_call 44; (with_reducible refine (points_any hs _).mono ?_); rintro e w2 ⟨⟨v, rfl⟩, hb⟩)
  go_ret
  exact ⟨rfl, hb⟩
end Go.Proofs.YtbehakabglegjaaGreatDoor
namespace Go.Proofs.YtbehakabglegjaaGreatDoor
set_option linter.unusedVariables false
set_option linter.unusedSimpArgs false
def bl (s : ByteArray) : List UInt8 := s.data.toList
def isUpB (c : UInt8) : Bool := 65 ≤ c.toNat && c.toNat ≤ 90
def isSeenB (c : UInt8) : Bool := 33 ≤ c.toNat && c.toNat ≤ 126
def isTextB (c : UInt8) : Bool := 32 ≤ c.toNat && c.toNat ≤ 126
def protoL : List UInt8 := [72, 84, 84, 80, 47, 49, 46, 49]
def crlf : List UInt8 := [13, 10]
/-- A message's first line, and can it be written? -/
def startL (m : Ms) : List UInt8 := if m.meth.size ≠ 0 then bl m.meth ++ 32 :: bl m.targ ++ 32 :: protoL else protoL ++ 32 :: Lib.itoa m.stat ++ 32 :: bl m.reas
def startB (m : Ms) : Bool :=
  if m.meth.size ≠ 0 then (decide (m.meth.size ≤ 16) && (bl m.meth).all isUpB) && ((decide (m.targ.size ≠ 0) && decide (m.targ.size ≤ 2048)) && (bl m.targ).all isSeenB) && (decide (m.stat = 0) && decide (m.reas.size = 0))
  else (decide (m.targ.size = 0) && (decide (100 ≤ m.stat) && decide (m.stat ≤ 599))) && (bl m.reas).all isTextB
def fitB (p : ByteArray × ByteArray) : Bool :=
  ((decide (p.1.size ≠ 0) && (bl p.1).all isNameB) && ((bl p.2).all isValueB && (trimL (bl p.2) == bl p.2))) && (!alikeB (bl p.1) codingL && !alikeB (bl p.1) lengthL)
def headL (p : ByteArray × ByteArray) : List UInt8 := bl p.1 ++ [58, 32] ++ bl p.2 ++ crlf
/-- A message's head, as it is written. -/
def topL (m : Ms) : List UInt8 := startL m ++ crlf ++ m.heads.flatMap headL ++ (lengthL ++ [58, 32] ++ Lib.itoa (m.body.length : Int) ++ crlf ++ crlf)
/-- Its bytes; a code where it can't be written. -/
def writeS (m : Ms) : Int × List UInt8 :=
  if (startB m && m.heads.all fitB) = false then (1, [])
  else if 64 ≤ m.heads.length ∨ 65536 < m.body.length then (2, [])
  else if 8192 < (topL m).length then (2, [])
  else (0, topL m ++ m.body)
/-- What the first header of a name says. -/
def headerS (l : List (ByteArray × ByteArray)) (name : ByteArray) : Option ByteArray := (l.find? fun p => alikeB (bl p.1) (bl name)).map (·.2)
/-- A part of a target, up to one of some ends or the end: a code and its place, or what it tells and where it ends. -/
def partL (ends : List UInt8) : Nat → List UInt8 → Nat → List UInt8 → (Int × Nat) ⊕ (List UInt8 × Nat)
  | 0, _, i, acc => .inr (acc, i)
  | _ + 1, [], i, acc => .inr (acc, i)
  | n + 1, c :: r, i, acc =>
    if ends.contains c then .inr (acc, i)
    else if (c.toNat < 33 ∨ 126 < c.toNat) ∨ c.toNat = 35 then .inl (3, i)
    else if c.toNat = 37 then
      match r with
      | a :: b :: r2 => if hexB a < 0 ∨ hexB b < 0 then .inl (3, i) else partL ends n r2 (i + 3) (acc ++ [UInt8.ofNat (hexB a * 16 + hexB b).toNat])
      | _ => .inl (3, i)
    else partL ends n r (i + 1) (acc ++ [c])
/-- A part, and is it UTF-8? -/
def partS (ends s : List UInt8) (i : Nat) : (Int × Nat) ⊕ (ByteArray × Nat) :=
  match partL ends (s.length + 1) (s.drop i) i [] with
  | .inl e => .inl e
  | .inr (t, k) => if badI (txt t) < 0 then .inr (txt t, k) else .inl (7, i)
def pathS (s : List UInt8) : Nat → Nat → List ByteArray → (Int × Nat) ⊕ (List ByteArray × Nat)
  | 0, i, acc => .inr (acc, i)
  | n + 1, i, acc =>
    if s[i]? = some 47 then
      match partS [47, 63] s (i + 1) with
      | .inl e => .inl e
      | .inr (p, k) => pathS s n k (acc ++ [p])
    else .inr (acc, i)
def paramS (s : List UInt8) (i : Nat) : (Int × Nat) ⊕ ((ByteArray × ByteArray) × Nat) :=
  match partS [61, 38] s i with
  | .inl e => .inl e
  | .inr (n, k) =>
    if s[k]? = some 61 then
      match partS [38] s (k + 1) with
      | .inl e => .inl e
      | .inr (v, q) => .inr ((n, v), q)
    else .inr ((n, ⟨#[]⟩), k)
def queryS (s : List UInt8) : Nat → Nat → List (ByteArray × ByteArray) → (Int × Nat) ⊕ (List (ByteArray × ByteArray))
  | 0, i, acc => .inr acc
  | n + 1, i, acc =>
    match paramS s i with
    | .inl e => .inl e
    | .inr (p, k) => if s[k]? = some 38 then queryS s n (k + 1) (acc ++ [p]) else .inr (acc ++ [p])
/-- A target's parts: a code and its place, or path and query. -/
def splitS (s : List UInt8) : (Int × Nat) ⊕ (List ByteArray × List (ByteArray × ByteArray)) :=
  match pathS s (s.length + 1) 0 [] with
  | .inl e => .inl e
  | .inr ([], _) => .inl (3, 0)
  | .inr (p :: r, k) =>
    if s[k]? ≠ some 63 ∨ k + 1 = s.length then .inr (p :: r, [])
    else
      match queryS s (s.length + 1) (k + 1) [] with
      | .inl e => .inl e
      | .inr q => .inr (p :: r, q)
def plainMarks : List UInt8 := [45, 46, 95, 126, 33, 36, 58, 64]
def digU (n : Nat) : UInt8 := if n < 10 then UInt8.ofNat (48 + n) else UInt8.ofNat (55 + n)
def escB (c : UInt8) : List UInt8 := if isWordB c || plainMarks.contains c then [c] else [37, digU (c.toNat / 16), digU (c.toNat % 16)]
def escL (s : ByteArray) : List UInt8 := (bl s).flatMap escB
def pathL : List ByteArray → List UInt8
  | [] => []
  | p :: r => escL p ++ r.flatMap fun q => 47 :: escL q
def parmL (p : ByteArray × ByteArray) : List UInt8 := escL p.1 ++ 61 :: escL p.2
def queryL : List (ByteArray × ByteArray) → List UInt8
  | [] => []
  | p :: r => 63 :: parmL p ++ r.flatMap fun q => 38 :: parmL q
/-- The target of some parts. -/
def joinS (path : List ByteArray) (query : List (ByteArray × ByteArray)) : List UInt8 := 47 :: pathL path ++ queryL query
end Go.Proofs.YtbehakabglegjaaGreatDoor
namespace Go.Proofs.YtbehakabglegjaaGreatDoor
open Go.RowKit Go.PlainAid
set_option linter.unusedVariables false
set_option linter.unusedSimpArgs false
set_option maxRecDepth 100000
theorem word_any (c : UInt8) (w : World) : Calls Tryz.prog 57 #[.int .u8 (c.toNat : Int)] w fun e w' => e = .returned (.bool (isWordB c)) ∧ w = w' := by
  go_enter Tryz.func57, Tryz.ntmps57
  go_wp2
  all_goals
    go_ret
    exact ⟨ret_bool (by unfold isWordB; rw [Bool.eq_iff_iff]; simp only [Bool.or_eq_true, Bool.and_eq_true, decide_eq_true_eq, true_iff, false_iff, Bool.false_eq_true, Bool.true_eq_false]; omega), rfl⟩
theorem value_any (c : UInt8) (w : World) : Calls Tryz.prog 34 #[.int .u8 (c.toNat : Int)] w fun e w' => e = .returned (.bool (isValueB c)) ∧ w = w' := by
  go_enter Tryz.func34, Tryz.ntmps34
  go_wp2
  all_goals
    go_ret
    exact ⟨ret_bool (by unfold isValueB; rw [Bool.eq_iff_iff]; simp only [Bool.or_eq_true, Bool.and_eq_true, decide_eq_true_eq, beq_iff_eq, bne_iff_ne, true_iff, false_iff, Bool.false_eq_true, Bool.true_eq_false]; omega), rfl⟩
theorem ix_any (s : ByteArray) (c : UInt8) (w : World) : Calls Tryz.prog 58 #[.string s, .int .u8 (c.toNat : Int)] w fun e w' => e = .returned (.int .i64 (Lib.indexByte s.data.toList c)) ∧ w' = w := by
  have h := Tryz.strings_IndexByte s (c.toNat : Int) w
  rw [show ((c.toNat : Int)).toNat.toUInt8 = c by simp] at h
  exact h
theorem ix_has : ∀ (l : List UInt8) (c : UInt8), (0 ≤ Lib.indexByte l c ↔ l.contains c = true) ∧ -1 ≤ Lib.indexByte l c
  | [], c => by simp [Lib.indexByte]
  | b :: l, c => by
    obtain ⟨h1, h2⟩ := ix_has l c
    unfold Lib.indexByte
    by_cases hb : b = c
    · subst hb; simp
    · have e1 : (b == c) = false := by simpa using hb
      have e2 : (c == b) = false := by simpa using (fun e : c = b => hb e.symm)
      rw [e1, List.contains_cons, e2, Bool.false_or, ← h1]
      simp only [Bool.false_eq_true, if_false, beq_iff_eq]
      split <;> constructor <;> omega
theorem name_any (c : UInt8) (w : World) : Calls Tryz.prog 33 #[.int .u8 (c.toNat : Int)] w fun e w' => e = .returned (.bool (isNameB c)) ∧ w = w' := by
  have hz : isNameB c = (isWordB c || nameMarks.contains c) := rfl
  have hix := ix_has nameMarks c
  have HI : Hid (Lib.indexByte (⟨#[33, 35, 36, 37, 38, 39, 42, 43, 45, 46, 94, 95, 96, 124, 126]⟩ : ByteArray).data.toList c = Lib.indexByte nameMarks c) := Lib.hid rfl
  generalize Lib.indexByte nameMarks c = I at *
  cases hw : isWordB c <;> cases hc : nameMarks.contains c
  all_goals
    rw [hw, hc] at hz
    rw [hc] at hix
    have HX := Lib.hid hix
    have HZ := Lib.hid hz
    have HW := Lib.hid hw
    clear hz hw hix hc
    go_enter Tryz.func33, Tryz.ntmps33
    go_wp2_with (first
      | (go_at_call 57; refine (word_any _ _).mono ?_; rintro e w' ⟨rfl, rfl⟩; rw [HW.out])
      | (go_at_call 58; refine (ix_any _ _ _).mono ?_; rintro e w' ⟨rfl, rfl⟩; rw [HI.out]))
    all_goals
      go_ret
      exact ⟨ret_bool (by rw [HZ.out]; have := HX.out; simp at this ⊢; try omega), rfl⟩
def hexD : List UInt8 := [48, 49, 50, 51, 52, 53, 54, 55, 56, 57, 97, 98, 99, 100, 101, 102, 48, 49, 50, 51, 52, 53, 54, 55, 56, 57, 65, 66, 67, 68, 69, 70]
theorem hex_tab : ∀ n : Fin 256, Lib.indexByte hexD (UInt8.ofNat n.val) = -1 ∧ hexB (UInt8.ofNat n.val) = -1 ∨ 0 ≤ Lib.indexByte hexD (UInt8.ofNat n.val) ∧ Lib.indexByte hexD (UInt8.ofNat n.val) % 16 = hexB (UInt8.ofNat n.val) := by decide +kernel
theorem hex_any (c : UInt8) (w : World) : Calls Tryz.prog 73 #[.int .u8 (c.toNat : Int)] w fun e w' => e = .returned (.int .i64 (hexB c)) ∧ w = w' := by
  have ht := hex_tab ⟨c.toNat, c.toNat_lt⟩
  simp only [UInt8.ofNat_toNat] at ht
  have HI : Hid (Lib.indexByte (⟨#[48, 49, 50, 51, 52, 53, 54, 55, 56, 57, 97, 98, 99, 100, 101, 102, 48, 49, 50, 51, 52, 53, 54, 55, 56, 57, 65, 66, 67, 68, 69, 70]⟩ : ByteArray).data.toList c = Lib.indexByte hexD c) := Lib.hid rfl
  generalize Lib.indexByte hexD c = I at *
  generalize hH : hexB c = H at *
  clear hH
  rcases ht with ⟨rfl, rfl⟩ | ⟨h1, h2⟩
  · go_enter Tryz.func73, Tryz.ntmps73
    go_wp2_with (go_at_call 58; refine (ix_any _ _ _).mono ?_; rintro e w' ⟨rfl, rfl⟩; rw [HI.out])
    go_ret
    exact ⟨rfl, rfl⟩
  · have H2 : Hid (I % 16 = H) := Lib.hid h2
    clear h2
    go_enter Tryz.func73, Tryz.ntmps73
    go_wp2_with (go_at_call 58; refine (ix_any _ _ _).mono ?_; rintro e w' ⟨rfl, rfl⟩; rw [HI.out])
    go_ret
    exact ⟨ret_int H2.out, rfl⟩
end Go.Proofs.YtbehakabglegjaaGreatDoor
namespace Go.Proofs.YtbehakabglegjaaGreatDoor
open Go.RowKit Go.PlainAid
set_option linter.unusedVariables false
set_option linter.unusedSimpArgs false
set_option maxRecDepth 100000
/-- A row of bytes that may be written, whatever its mark. -/
def BR (w : World) (g : Nat) (l : List UInt8) : Prop := ∃ (cs : Array Value) (fr : Nat × Nat), w.heap[g]? = some (.cells cs 5 fr) ∧ l.length ≤ fr.1 ∧ ∀ (j : Nat) (u : UInt8), l[j]? = some u → cs[j]? = some (Value.int .u8 (u.toNat : Int))
theorem BR.cell {w : World} {g : Nat} {l : List UInt8} (h : BR w g l) {j : Nat} {u : UInt8} (hu : l[j]? = some u) : w.cell? ⟨g, j, none⟩ = some (.int .u8 (u.toNat : Int)) := by
  obtain ⟨cs, fr, h1, _, h3⟩ := h
  unfold World.cell?
  simp [h1, h3 j u hu]
theorem BR.lt {w : World} {g : Nat} {l : List UInt8} (h : BR w g l) : g < w.heap.size := by
  obtain ⟨cs, fr, h1, _⟩ := h
  exact (Array.getElem?_eq_some_iff.1 h1).1
theorem BR.below {w w' : World} {g : Nat} {l : List UInt8} (h : BR w g l) (hb : Below w.heap.size w w') : BR w' g l := by
  have hl := h.lt
  obtain ⟨cs, fr, h1, h2⟩ := h
  exact ⟨cs, fr, (hb.block g hl).trans h1, h2⟩
theorem BR.there {w : World} {g : Nat} {l : List UInt8} (h : BR w g l) {i : Nat} (hi : i < l.length) : w.there g i 1 := fun j hj => by
  obtain rfl : j = 0 := by omega
  refine ⟨?_, ?_⟩
  · rw [Nat.add_zero, h.cell (List.getElem?_eq_getElem hi)]; rfl
  · obtain ⟨cs, fr, h1, h2, _⟩ := h
    unfold World.frozen?
    simp [h1]
    omega
section
variable {ops : Array Oper} {rest : List Oper} {o : Oper} {a : Act} {w : World} {Q : Exit → Act → World → Prop}
theorem BR.set {g : Nat} {l : List UInt8} (h : BR w g l) {i : Nat} (c : UInt8) : BR (w.setCells g i [.int .u8 (c.toNat : Int)]) g (l.set i c) := by
  obtain ⟨cs, fr, h1, h2, h3⟩ := h
  refine ⟨cs.setIfInBounds i (.int .u8 (c.toNat : Int)), fr, ?_, by rw [List.length_set]; exact h2, fun j u hu => ?_⟩
  · show (w.setCell ⟨g, i, none⟩ _).heap[g]? = _
    exact Lib.heap_setCell_same h1 _
  · rw [List.getElem?_set] at hu
    rw [Array.getElem?_setIfInBounds]
    split at hu
    · rename_i hij
      subst hij
      split at hu
      · rename_i hl
        obtain rfl := Option.some.inj hu
        have h4 := h3 i _ (List.getElem?_eq_getElem hl)
        rw [if_pos rfl, if_pos (Array.getElem?_eq_some_iff.1 h4).1]
      · cases hu
    · rename_i hij
      rw [if_neg hij]
      exact h3 j u hu
theorem wpl_store_br (hgd : o.guard = none) (x y : Operand) (ho : o.op = .store 5 x y) {g i : Nat} {l : List UInt8} (h : BR w g l) (hi : i < l.length) (c : UInt8) (hx : a.eval x = .pointer (some ⟨g, i, none⟩)) (hy : a.eval y = .int .u8 (c.toNat : Int))
    (hQ : ∀ w', BR w' g (l.set i c) → Below g w w' → wpList Tryz.prog ops Q rest (a.put o.dst undef) w') : wpList Tryz.prog ops Q (o :: rest) a w :=
  wpList_plain hgd fun _ hK => by
    have hrun : (storeVar 5 ⟨g, i, none⟩ (.int .u8 (c.toNat : Int))).run Tryz.prog w = .ok () (w.setCells g i [.int .u8 (c.toNat : Int)]) := by
      have := run_storeVar_mid (P := Tryz.prog) w g i 5 #[.int .u8 (c.toNat : Int)] (h.there hi) (by kernel_rfl) (by simp [Value.oneCell'])
      unfold storeVar at this ⊢
      exact this
    have hK2 := hK _ _ (hQ _ (h.set c) ((Below.refl g w).setCell (p := ⟨g, i, none⟩) (Nat.le_refl _) _))
    generalize hP : Tryz.prog = P at *
    unfold Oper.wp execOp
    simp only [ho, hx, hy, Instr.storeAt, Instr.sureAddr, Sem.run_bind, Sem.run_pure, Result.andThen_ok, hrun]
    exact hK2
/-- A text's bytes in a new row. -/
theorem wpl_bytes_of (hgd : o.guard = none) (x : Operand) (ho : o.op = .convert 9 23 x) (s : ByteArray) (hx : a.eval x = .string s)
    (hQ : ∀ w' c, BR w' w.heap.size s.data.toList → Below w.heap.size w w' → wpList Tryz.prog ops Q rest (a.put o.dst (.slice (some ⟨w.heap.size, 0, none⟩) s.size c)) w') : wpList Tryz.prog ops Q (o :: rest) a w :=
  wpList_plain hgd fun _ hK => by
    have e := Lib.run_convert_string_bytes (P := Tryz.prog) w 9 23 5 s Tryz.underlying9 Tryz.underlying23 Tryz.underlying5
    have hr : BR (Lib.bytesWorld w 5 s) w.heap.size s.data.toList := ⟨_, _, Lib.bytesWorld_at_new w 5 s, by
      show s.data.toList.length ≤ (Lib.bytesCells w 5 s).size
      unfold Lib.bytesCells
      rw [Array.size_append, Array.size_map]
      have : s.data.toList.length = s.data.size := rfl
      omega, fun j u hu => by
      have hj := (List.getElem?_eq_some_iff.1 hu).1
      have hj2 : j < s.data.size := by simpa using hj
      unfold Lib.bytesCells
      rw [Array.getElem?_append_left (by rw [Array.size_map]; exact hj2), Array.getElem?_map]
      rw [Array.getElem?_toList] at hu
      rw [hu]
      rfl⟩
    have hb : Below w.heap.size w (Lib.bytesWorld w 5 s) := Lib.bytesWorld_below w 5 s
    generalize Lib.bytesWorld w 5 s = w9 at *
    generalize hP : Tryz.prog = P at *
    unfold Oper.wp execOp
    simp only [ho, hx, Sem.run_bind, e, Result.andThen_ok, Sem.run_pure]
    exact hK _ _ (hQ w9 _ hr hb)
/-- A row of bytes as a text. -/
theorem wpl_text_of (hgd : o.guard = none) (x : Operand) (ho : o.op = .convert 23 9 x) {g n c : Nat} {l : List UInt8} (h : BR w g l) (hn : n = l.length) (hx : a.eval x = .slice (some ⟨g, 0, none⟩) n c)
    (hQ : wpList Tryz.prog ops Q rest (a.put o.dst (.string ⟨l.toArray⟩)) w) : wpList Tryz.prog ops Q (o :: rest) a w :=
  wpList_plain hgd fun _ hK => by
    subst hn
    have e := run_convert_bytes_back (P := Tryz.prog) w 23 9 5 ⟨g, 0, none⟩ c l Tryz.underlying23 Tryz.underlying5 Tryz.underlying9 (fun j hj => by
      have hadd : (⟨g, 0, none⟩ : Addr).add j = ⟨g, j, none⟩ := by unfold Addr.add; split <;> simp_all
      rw [hadd]
      exact h.cell (List.getElem?_eq_getElem hj))
    generalize hP : Tryz.prog = P at *
    unfold Oper.wp execOp
    simp only [ho, hx, Sem.run_bind, e, Result.andThen_ok, Sem.run_pure]
    exact hK _ _ hQ
end
/-- The first i bytes made small. -/
def lowTo (l : List UInt8) (i : Nat) : List UInt8 := lowL (l.take i) ++ l.drop i
theorem lowTo_len (l : List UInt8) (i : Nat) : (lowTo l i).length = l.length := by
  unfold lowTo lowL
  rw [List.length_append, List.length_map, ← List.length_append, List.take_append_drop]
theorem lowTo_get {l : List UInt8} {i : Nat} (hi : i < l.length) : (lowTo l i)[i]? = some l[i] := by
  unfold lowTo lowL
  rw [List.getElem?_append_right (by rw [List.length_map, List.length_take]; omega), List.getElem?_drop, List.length_map, List.length_take, ← List.getElem?_eq_getElem hi]
  congr 1
  omega
theorem lowTo_next {l : List UInt8} {i : Nat} (hi : i < l.length) : lowTo l (i + 1) = (lowTo l i).set i (lowB l[i]) := by
  apply List.ext_getElem?
  intro k
  have hl := lowTo_len l i
  rw [List.getElem?_set, hl]
  unfold lowTo lowL
  by_cases h1 : i = k
  · subst h1
    rw [if_pos rfl, if_pos (by omega), List.getElem?_append_left (by rw [List.length_map, List.length_take]; omega), List.getElem?_map, List.getElem?_take, if_pos (by omega), List.getElem?_eq_getElem hi]
    rfl
  · rw [if_neg h1]
    by_cases h2 : k < i
    · rw [List.getElem?_append_left (by rw [List.length_map, List.length_take]; omega), List.getElem?_append_left (by rw [List.length_map, List.length_take]; omega), List.getElem?_map, List.getElem?_map, List.getElem?_take, List.getElem?_take, if_pos (by omega), if_pos h2]
    · rw [List.getElem?_append_right (by rw [List.length_map, List.length_take]; omega), List.getElem?_append_right (by rw [List.length_map, List.length_take]; omega), List.length_map, List.length_map, List.length_take, List.length_take, List.getElem?_drop, List.getElem?_drop]
      congr 1
      omega
theorem lowTo_all (l : List UInt8) : lowTo l l.length = lowL l := by unfold lowTo; rw [List.take_length, List.drop_length, List.append_nil]
theorem lowB_up {c : UInt8} (h1 : 65 ≤ c.toNat) (h2 : c.toNat ≤ 90) : ((lowB c).toNat : Int) = (c.toNat : Int) + 32 := by
  unfold lowB
  rw [if_pos (by simp [h1, h2]), UInt8.toNat_add]
  have : (32 : UInt8).toNat = 32 := rfl
  omega
theorem lowB_same {c : UInt8} (h : ¬ (65 ≤ c.toNat ∧ c.toNat ≤ 90)) : lowB c = c := by
  unfold lowB
  rw [if_neg (by simp; omega)]
theorem set_same {l : List UInt8} {i : Nat} {c : UInt8} (h : l[i]? = some c) : l.set i c = l := by
  apply List.ext_getElem?
  intro k
  rw [List.getElem?_set]
  split
  · rename_i e; subst e
    rw [if_pos (List.getElem?_eq_some_iff.1 h).1, h]
  · rfl
set_option maxHeartbeats 4000000 in
theorem lower_any (s : ByteArray) (w : World) (hs : s.size ≤ 9223372036854775806) : Calls Tryz.prog 66 #[.string s] w fun e w' => e = .returned (.string (txt (lowL s.data.toList))) ∧ Below w.heap.size w w' := by
  have hlen : s.data.toList.length = s.size := rfl
  have hlow : ∀ i, (lowTo s.data.toList i).length = s.size := fun i => lowTo_len _ _
  have hll : (lowL s.data.toList).length = s.size := by unfold lowL; rw [List.length_map]; rfl
  have hlr : lowTo s.data.toList s.size = lowL s.data.toList := lowTo_all _
  have HG : Hid (∀ i, i < s.size → ∃ c, (lowTo s.data.toList i)[i]? = some c ∧ lowTo s.data.toList (i + 1) = (lowTo s.data.toList i).set i (lowB c)) := Lib.hid fun i hi => ⟨_, lowTo_get hi, lowTo_next hi⟩
  have H0 : lowTo s.data.toList 0 = s.data.toList := by simp [lowTo, lowL]
  have HLL := Lib.hid hll
  have HLR := Lib.hid hlr
  have HLO := Lib.hid hlow
  have HH0 := Lib.hid H0
  clear hlen hlow hll hlr H0
  go_enter Tryz.func66, Tryz.ntmps66
  go_wp2_with ((with_reducible refine is_convert ?_); refine wpl_bytes_of rfl (.tmp 6) rfl s rfl ?_; intro w1 c1 B hb)
  go_loopw [10, 4, 5] (fun iv kv cv wr => ∃ i : Nat, iv = .int .i64 (i : Int) ∧ i ≤ s.size ∧ BR wr w.heap.size (lowTo s.data.toList i) ∧ Below w.heap.size w wr) (fun iv _ _ _ => match iv with | .int _ i => (s.size - i.toNat) | _ => 0)
  case atStart => exact ⟨0, rfl, Nat.zero_le _, by rw [HH0.out]; exact B, hb⟩
  case round =>
    obtain ⟨i, rfl, hi, B, HB⟩ := hrel
    by_cases hlt : i < s.size
    · obtain ⟨c, hget, hnx⟩ := HG.out i hlt
      have hc := B.cell hget
      have HGT := Lib.hid hget
      clear hget
      by_cases h1 : 65 ≤ c.toNat ∧ c.toNat ≤ 90
      · have HUP := Lib.hid (lowB_up h1.1 h1.2)
        obtain ⟨a1, a2⟩ := h1
        have HN := Lib.hid hnx
        clear hnx
        go_wp2_with ((with_reducible refine is_store ?_); refine wpl_store_br rfl (.tmp 26) (.tmp 25) rfl B (by rw [HLO.out]; exact hlt) (lowB c) rfl (by rw [HUP.out]; show Value.int .u8 ((c.toNat : Int) + 97 - 65) = _; congr 1; omega) ?_; intro w3 B3 hb3; replace B := B3; replace HB := HB.trans hb3; clear B3 hb3)
        go_roundw
        case rel => exact ⟨i + 1, rfl, by omega, HN.out ▸ B, HB⟩
        case measure => (simp only; omega)
      · have hsm : lowTo s.data.toList (i + 1) = lowTo s.data.toList i := by rw [hnx, lowB_same h1]; exact set_same HGT.out
        have HN := Lib.hid hsm
        clear hnx hsm
        by_cases a1 : 65 ≤ c.toNat <;> by_cases a2 : c.toNat ≤ 90
        all_goals first
          | (exfalso; omega)
          | skip
        all_goals
          clear h1
          go_wp2
          go_roundw
          case rel => exact ⟨i + 1, rfl, by omega, HN.out ▸ B, HB⟩
          case measure => (simp only; omega)
    · obtain rfl : i = s.size := by omega
      rw [HLR.out] at B
      go_wp2_with ((with_reducible refine is_convert ?_); refine wpl_text_of rfl (.tmp 28) rfl B HLL.out.symm rfl ?_)
      go_ret
      exact ⟨rfl, HB⟩
theorem alike_any (a b : ByteArray) (w : World) (ha : a.size ≤ 9223372036854775806) (hb : b.size ≤ 9223372036854775806) : Calls Tryz.prog 36 #[.string a, .string b] w fun e w' => e = .returned (.bool (alikeB a.data.toList b.data.toList)) ∧ Below w.heap.size w w' := by
  have HA : Hid ((lowL a.data.toList == lowL b.data.toList) = alikeB a.data.toList b.data.toList) := Lib.hid rfl
  have HX := Lib.hid (lower_any a w ha)
  generalize lowL a.data.toList = x at *
  have HY := Lib.hid (fun w1 => lower_any b w1 hb)
  generalize lowL b.data.toList = y at *
  go_enter Tryz.func36, Tryz.ntmps36
  go_wp2_with (first
    | (go_at_call 66; (with_reducible refine HX.out.mono ?_); rintro e w1 ⟨rfl, hb1⟩)
    | (go_at_call 66; (with_reducible refine (HY.out _).mono ?_); rintro e w2 ⟨rfl, hb2⟩))
  all_goals
    go_ret
    exact ⟨ret_bool (by rw [← HA.out, Bool.eq_iff_iff]; simp [ba_toList, txt]), hb1.trans (hb2.mono hb1.size)⟩
end Go.Proofs.YtbehakabglegjaaGreatDoor
