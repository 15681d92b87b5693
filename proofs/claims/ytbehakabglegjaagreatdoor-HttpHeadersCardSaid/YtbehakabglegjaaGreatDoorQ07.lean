/- The document's layer 1, walked: coveyref01.Points, coveyref01.Bad; what is sound is what Go takes for valid. Layer 9: a message's text, a header, a target and its parts (plain). Layer 9: kinds of bytes, a digit's worth; a text in small letters. -/
import Derived.Test.YtbehakabglegjaaGreatDoorQ06
import Derived.Test.YtbehakabglegjaaGreatDoorQ01
import Derived.Test.YtbehakabglegjaaGreatDoorQ04
import Derived.Test.YtbehakabglegjaaGreatDoorShelf
import Derived.Lib.ConvBytes
import Derived.PlainAid
import Derived.Test.YtbehakabglegjaaGreatDoorQ02
import Derived.Test.YtbehakabglegjaaGreatDoorQ03
namespace Go.Proofs.YtbehakabglegjaaGreatDoor
open Go.RowKit Go.PlainAid
set_option linter.unusedVariables false
set_option linter.unusedSimpArgs false
/-- The first place from i on where no character stands; -1: there is none. -/
def badFrom (s : ByteArray) : Nat → Nat → Int
  | 0, _ => -1
  | n + 1, i => if i < s.size then (if (Utf8.decode s i).1 = 65533 ∧ (Utf8.decode s i).2 ≤ 1 then (i : Int) else badFrom s n (i + (Utf8.decode s i).2)) else -1
def badI (s : ByteArray) : Int := badFrom s s.size 0
theorem bf_end {s : ByteArray} {n i : Nat} (h : ¬ i < s.size) : badFrom s n i = -1 := by
  cases n with
  | zero => rfl
  | succ n => unfold badFrom; rw [if_neg h]
theorem bf_bad {s : ByteArray} {n i : Nat} (h : i < s.size) (hb : badU s i) : badFrom s (n + 1) i = i := by
  unfold badU at hb
  unfold badFrom
  rw [if_pos h, if_pos hb]
theorem bf_go {s : ByteArray} {n i : Nat} (h : i < s.size) (hb : ¬ badU s i) : badFrom s (n + 1) i = badFrom s n (i + (Utf8.decode s i).2) := by
  unfold badU at hb
  conv => lhs; unfold badFrom
  rw [if_pos h, if_neg hb]
theorem vdec_bounds (s : ByteArray) (i : Nat) (hi : i < s.size) : 0 < (Utf8.decode s i).2 ∧ i + (Utf8.decode s i).2 ≤ s.size := by
  rw [← Lib.decodeL_drop]
  have hne : s.data.toList.drop i ≠ [] := by
    intro h
    rw [List.drop_eq_nil_iff] at h
    have : s.data.toList.length = s.size := by simp
    omega
  have h1 := Lib.decodeL_width (s.data.toList.drop i)
  have h2 := Lib.decodeL_le _ hne
  rw [List.length_drop] at h2
  have : s.data.toList.length = s.size := by simp
  omega
theorem bf_valid {s : ByteArray} : ∀ (n i : Nat), s.size ≤ i + n → (badFrom s n i < 0 ↔ Lib.validD (s.data.toList.drop i) = true)
  | n, i, hn => by
    by_cases hi : i < s.size
    · have hlen : s.data.toList.length = s.size := by simp
      have hne : s.data.toList.drop i ≠ [] := by
        intro h
        rw [List.drop_eq_nil_iff] at h
        omega
      have hw := vdec_bounds s i hi
      match n, hn with
      | 0, hn => omega
      | n + 1, hn =>
        rw [Lib.validD_step _ hne, Lib.decodeL_drop, List.drop_drop]
        by_cases hb : badU s i
        · rw [bf_bad hi hb, if_pos ⟨hb.1, by have := hb.2; omega⟩]
          simp
        · rw [bf_go hi hb, if_neg (fun h => hb ⟨h.1, by omega⟩)]
          exact bf_valid n _ (by omega)
    · rw [bf_end hi]
      have : s.data.toList.drop i = [] := List.drop_eq_nil_of_le (by have : s.data.toList.length = s.size := by simp
                                                                     omega)
      rw [this]
      simp [Lib.validD_nil]
theorem badI_valid (s : ByteArray) : badI s < 0 ↔ Lib.validD s.data.toList = true := by
  have := bf_valid (s := s) s.size 0 (by omega)
  rwa [List.drop_zero] at this
theorem vinfo_int : (Tryz.prog.info? 3).map (fun i => (i.zero, i.size, i.bytes)) = some (some (.int .i64 0), 1, 8) := by kernel_rfl
theorem vint_info : ∃ ie, Tryz.prog.info? 3 = some ie ∧ ie.zero = some (.int .i64 0) ∧ ie.size = 1 ∧ ie.bytes = 8 := by
  have h := vinfo_int
  cases hq : Tryz.prog.info? 3 with
  | none => rw [hq] at h; cases h
  | some ie =>
    rw [hq] at h
    simp only [Option.map_some, Option.some.injEq, Prod.mk.injEq] at h
    exact ⟨ie, rfl, h.1, h.2.1, h.2.2⟩
theorem vint_fill (p : Int) : Instr.fill (fun i => some (i * 1, 1)) ((Array.range (1 * 1)).map ((Value.int .i64 0).cells[· % (Value.int .i64 0).cells.size]!)) [(0, .int .i64 p)] = some #[.int .i64 p] := by kernel_rfl
/-- What Points answers: some row, and the first place that is amiss. -/
def PtsP (s : ByteArray) (w : World) (e : Ending) (w' : World) : Prop := (∃ v, e = .returned (.tuple #[v, .int .i64 (badI s)])) ∧ Below w.heap.size w w'
theorem PtsP.of {s : ByteArray} {w w' : World} {v : Value} {x : Int} (h : badI s = x) (hb : Below w.heap.size w w') : PtsP s w (.returned (.tuple #[v, .int .i64 x])) w' := by subst h; exact ⟨⟨v, rfl⟩, hb⟩
set_option maxRecDepth 10000 in
set_option maxHeartbeats 8000000 in
theorem points_any {s : ByteArray} (hs : s.size ≤ 17592186044400) (w : World) : Calls Tryz.prog 44 #[.string s] w (PtsP s w) := by
  obtain ⟨ie, hie1, hie2, hie3, hie4⟩ := vint_info
  go_enter Tryz.func44, Tryz.ntmps44
  go_wp2
  go_loopw [4, 5] (fun ov av wr => ∃ (k n m : Nat) (v : Value) (xs : List Value), v = ov ∧ av = .int .i64 k ∧ k ≤ s.size ∧ wr.ownsRow w.heap.size 3 1 v m xs ∧ m ≤ k ∧ s.size ≤ k + n ∧ Hid (badFrom s n k = badI s) ∧ Below w.heap.size w wr) (fun _ av _ => s.size - (intOf av).toNat)
  case atStart => exact ⟨0, s.size, 0, _, [], rfl, rfl, Nat.zero_le _, ⟨rfl, .inl ⟨rfl, rfl⟩⟩, Nat.le_refl _, by omega, Lib.hid rfl, Below.refl _ _⟩
  case round =>
    obtain ⟨k, n, m, v, xs, rfl, rfl, hk, HO, hmk, hkn, HS, HB⟩ := hrel
    by_cases hlt : k < s.size
    · have hkr : s.size ≤ 140737488355328 := by omega
      have hlt' : (k : Int) < (s.size : Int) := by omega
      obtain ⟨n2, hn2⟩ : ∃ n2, n = n2 + 1 := ⟨n - 1, by omega⟩
      subst hn2
      by_cases hbu : badU s k
      · have HK := Lib.hid (HS.out.symm.trans (bf_bad hlt hbu))
        have HA := Lib.hid (atS_bad hbu)
        clear hbu
        go_wp2_with (go_at_call 72; (with_reducible refine (at_any hlt hkr _).mono ?_); rintro e w2 ⟨rfl, hb⟩; rw [HA.out]; replace HB := HB.trans (hb.mono HB.size); clear hb)
        go_ret2
        exact PtsP.of HK.out HB
      · have hd := vdec_bounds s k hlt
        have HS2 : Hid (badFrom s n2 (k + (Utf8.decode s k).2) = badI s) := Lib.hid ((bf_go hlt hbu).symm.trans HS.out)
        have hat := atS_ok hbu
        obtain ⟨D1, D2, hD⟩ : ∃ D1 D2, Utf8.decode s k = (D1, D2) := ⟨_, _, rfl⟩
        rw [hD] at hat hd HS2
        have hd0 : 0 < D2 := hd.1
        have hdl : k + D2 ≤ s.size := hd.2
        have HS3 : Hid (badFrom s n2 (k + D2) = badI s) := HS2
        have hd1 : ¬ (D2 : Int) = 0 := by omega
        have hd2 : (k : Int) + (D2 : Int) ≤ (s.size : Int) := by omega
        have HA := Lib.hid hat
        clear hat hD hbu hd HS HS2
        go_wp2_with (first
          | (go_at_call 72; (with_reducible refine (at_any hlt hkr _).mono ?_); rintro e w2 ⟨rfl, hb⟩; rw [HA.out]; have hbz := HB.size; replace HO := own_below HO (hb.mono (Nat.le_refl _)); replace HB := HB.trans (hb.mono HB.size); clear hb hbz)
          | ((with_reducible refine is_slice ?_); refine wpl_slice_at 1 [(0, .int .i64 (D1 : Int))] #[.int .i64 (D1 : Int)] ie _ (by rw [hie3]; exact vint_fill _) rfl 36 3 _ rfl rfl Tryz.underlying36 hie1 hie2 (by rw [hie3]; decide) (by rw [hie3]; decide) ?_; intro w9 hw; have hb := hid_grow hw; have B9 := (hid_alloc hw).1; clear hw; replace HO := own_below HO hb; replace HB := HB.trans (hb.mono HB.size); clear hb; have hbz := HB.size)
          | (at_builtin; refine wpl_append_fresh rfl (.tmp 22) (.tmp 24) 36 rfl w.heap.size 3 ie _ 1 8 Tryz.underlying36 hie1 hie2 hie3 hie4 rfl (by decide) v m xs rfl HO _ 1 #[.int .i64 (D1 : Int)] _ B9 rfl rfl (by simp [Value.oneCell']) (by unfold maxLen; omega) (by omega) hbz ?_; intro v9 w10 ho9 hb9; replace HO := ho9; replace HB := HB.trans hb9; clear ho9 hb9 B9 hbz))
        go_roundw
        case rel => exact ⟨k + D2, n2, m + 1, v9, _, rfl, by go_num, hdl, HO, by omega, by omega, HS3, HB⟩
        case measure => simp [intOf]; omega
    · have hlt' : ¬ (k : Int) < (s.size : Int) := by omega
      have HK := Lib.hid (HS.out.symm.trans (bf_end hlt))
      go_wp2
      go_ret2
      exact PtsP.of HK.out HB
theorem badu_any {s : ByteArray} (hs : s.size ≤ 17592186044400) (w : World) : Calls Tryz.prog 20 #[.string s] w fun e w' => e = .returned (.int .i64 (badI s)) ∧ Below w.heap.size w w' := by
  go_enter Tryz.func20, Tryz.ntmps20
  go_wp2_with (go_at_call 44; (with_reducible refine (points_any hs _).mono ?_); rintro e w2 ⟨⟨v, rfl⟩, hb⟩)
  go_ret
  exact ⟨rfl, hb⟩
end Go.Proofs.YtbehakabglegjaaGreatDoor
namespace Go.Proofs.YtbehakabglegjaaGreatDoor
set_option linter.unusedVariables false
set_option linter.unusedSimpArgs false
def bl (s : ByteArray) : List UInt8 := s.data.toList
def isUpB (c : UInt8) : Bool := 65 ≤ c.toNat && c.toNat ≤ 90
def isSeenB (c : UInt8) : Bool := 33 ≤ c.toNat && c.toNat ≤ 126
def isTextB (c : UInt8) : Bool := 32 ≤ c.toNat && c.toNat ≤ 126
def protoL : List UInt8 := [72, 84, 84, 80, 47, 49, 46, 49]
def crlf : List UInt8 := [13, 10]
/-- A message's first line, and can it be written? -/
def startL (m : Ms) : List UInt8 := if m.meth.size ≠ 0 then bl m.meth ++ 32 :: bl m.targ ++ 32 :: protoL else protoL ++ 32 :: Lib.itoa m.stat ++ 32 :: bl m.reas
def startB (m : Ms) : Bool :=
  if m.meth.size ≠ 0 then (decide (m.meth.size ≤ 16) && (bl m.meth).all isUpB) && ((decide (m.targ.size ≠ 0) && decide (m.targ.size ≤ 2048)) && (bl m.targ).all isSeenB) && (decide (m.stat = 0) && decide (m.reas.size = 0))
  else (decide (m.targ.size = 0) && (decide (100 ≤ m.stat) && decide (m.stat ≤ 599))) && (bl m.reas).all isTextB
def fitB (p : ByteArray × ByteArray) : Bool :=
  ((decide (p.1.size ≠ 0) && (bl p.1).all isNameB) && ((bl p.2).all isValueB && (trimL (bl p.2) == bl p.2))) && (!alikeB (bl p.1) codingL && !alikeB (bl p.1) lengthL)
def headL (p : ByteArray × ByteArray) : List UInt8 := bl p.1 ++ [58, 32] ++ bl p.2 ++ crlf
/-- A message's head, as it is written. -/
def topL (m : Ms) : List UInt8 := startL m ++ crlf ++ m.heads.flatMap headL ++ (lengthL ++ [58, 32] ++ Lib.itoa (m.body.length : Int) ++ crlf ++ crlf)
/-- Its bytes; a code where it can't be written. -/
def writeS (m : Ms) : Int × List UInt8 :=
  if (startB m && m.heads.all fitB) = false then (1, [])
  else if 64 ≤ m.heads.length ∨ 65536 < m.body.length then (2, [])
  else if 8192 < (topL m).length then (2, [])
  else (0, topL m ++ m.body)
/-- What the first header of a name says. -/
def headerS (l : List (ByteArray × ByteArray)) (name : ByteArray) : Option ByteArray := (l.find? fun p => alikeB (bl p.1) (bl name)).map (·.2)
/-- A part of a target, up to one of some ends or the end: a code and its place, or what it tells and where it ends. -/
def partL (ends : List UInt8) : Nat → List UInt8 → Nat → List UInt8 → (Int × Nat) ⊕ (List UInt8 × Nat)
  | 0, _, i, acc => .inr (acc, i)
  | _ + 1, [], i, acc => .inr (acc, i)
  | n + 1, c :: r, i, acc =>
    if ends.contains c then .inr (acc, i)
    else if (c.toNat < 33 ∨ 126 < c.toNat) ∨ c.toNat = 35 then .inl (3, i)
    else if c.toNat = 37 then
      match r with
      | a :: b :: r2 => if hexB a < 0 ∨ hexB b < 0 then .inl (3, i) else partL ends n r2 (i + 3) (acc ++ [UInt8.ofNat (hexB a * 16 + hexB b).toNat])
      | _ => .inl (3, i)
    else partL ends n r (i + 1) (acc ++ [c])
/-- A part, and is it UTF-8? -/
def partS (ends s : List UInt8) (i : Nat) : (Int × Nat) ⊕ (ByteArray × Nat) :=
  match partL ends (s.length + 1) (s.drop i) i [] with
  | .inl e => .inl e
  | .inr (t, k) => if badI (txt t) < 0 then .inr (txt t, k) else .inl (7, i)
def pathS (s : List UInt8) : Nat → Nat → List ByteArray → (Int × Nat) ⊕ (List ByteArray × Nat)
  | 0, i, acc => .inr (acc, i)
  | n + 1, i, acc =>
    if s[i]? = some 47 then
      match partS [47, 63] s (i + 1) with
      | .inl e => .inl e
      | .inr (p, k) => pathS s n k (acc ++ [p])
    else .inr (acc, i)
def paramS (s : List UInt8) (i : Nat) : (Int × Nat) ⊕ ((ByteArray × ByteArray) × Nat) :=
  match partS [61, 38] s i with
  | .inl e => .inl e
  | .inr (n, k) =>
    if s[k]? = some 61 then
      match partS [38] s (k + 1) with
      | .inl e => .inl e
      | .inr (v, q) => .inr ((n, v), q)
    else .inr ((n, ⟨#[]⟩), k)
def queryS (s : List UInt8) : Nat → Nat → List (ByteArray × ByteArray) → (Int × Nat) ⊕ (List (ByteArray × ByteArray))
  | 0, i, acc => .inr acc
  | n + 1, i, acc =>
    match paramS s i with
    | .inl e => .inl e
    | .inr (p, k) => if s[k]? = some 38 then queryS s n (k + 1) (acc ++ [p]) else .inr (acc ++ [p])
/-- A target's parts: a code and its place, or path and query. -/
def splitS (s : List UInt8) : (Int × Nat) ⊕ (List ByteArray × List (ByteArray × ByteArray)) :=
  match pathS s (s.length + 1) 0 [] with
  | .inl e => .inl e
  | .inr ([], _) => .inl (3, 0)
  | .inr (p :: r, k) =>
    if s[k]? ≠ some 63 ∨ k + 1 = s.length then .inr (p :: r, [])
    else
      match queryS s (s.length + 1) (k + 1) [] with
      | .inl e => .inl e
      | .inr q => .inr (p :: r, q)
def plainMarks : List UInt8 := [45, 46, 95, 126, 33, 36, 58, 64]
def digU (n : Nat) : UInt8 := if n < 10 then UInt8.ofNat (48 + n) else UInt8.ofNat (55 + n)
def escB (c : UInt8) : List UInt8 := if isWordB c || plainMarks.contains c then [c] else [37, digU (c.toNat / 16), digU (c.toNat % 16)]
def escL (s : ByteArray) : List UInt8 := (bl s).flatMap escB
def pathL : List ByteArray → List UInt8
  | [] => []
  | p :: r => escL p ++ r.flatMap fun q => 47 :: escL q
def parmL (p : ByteArray × ByteArray) : List UInt8 := escL p.1 ++ 61 :: escL p.2
def queryL : List (ByteArray × ByteArray) → List UInt8
  | [] => []
  | p :: r => 63 :: parmL p ++ r.flatMap fun q => 38 :: parmL q
/-- The target of some parts. -/
def joinS (path : List ByteArray) (query : List (ByteArray × ByteArray)) : List UInt8 := 47 :: pathL path ++ queryL query
end Go.Proofs.YtbehakabglegjaaGreatDoor
namespace Go.Proofs.YtbehakabglegjaaGreatDoor
open Go.RowKit Go.PlainAid
set_option linter.unusedVariables false
set_option linter.unusedSimpArgs false
set_option maxRecDepth 100000
theorem word_any (c : UInt8) (w : World) : Calls Tryz.prog 57 #[.int .u8 (c.toNat : Int)] w fun e w' => e = .returned (.bool (isWordB c)) ∧ w = w' := by
  go_enter Tryz.func57, Tryz.ntmps57
  go_wp2
  all_goals
    go_ret
    exact ⟨ret_bool (by unfold isWordB; rw [Bool.eq_iff_iff]; simp only [Bool.or_eq_true, Bool.and_eq_true, decide_eq_true_eq, true_iff, false_iff, Bool.false_eq_true, Bool.true_eq_false]; omega), rfl⟩
theorem value_any (c : UInt8) (w : World) : Calls Tryz.prog 34 #[.int .u8 (c.toNat : Int)] w fun e w' => e = .returned (.bool (isValueB c)) ∧ w = w' := by
  go_enter Tryz.func34, Tryz.ntmps34
  go_wp2
  all_goals
    go_ret
    exact ⟨ret_bool (by unfold isValueB; rw [Bool.eq_iff_iff]; simp only [Bool.or_eq_true, Bool.and_eq_true, decide_eq_true_eq, beq_iff_eq, bne_iff_ne, true_iff, false_iff, Bool.false_eq_true, Bool.true_eq_false]; omega), rfl⟩
theorem ix_any (s : ByteArray) (c : UInt8) (w : World) : Calls Tryz.prog 58 #[.string s, .int .u8 (c.toNat : Int)] w fun e w' => e = .returned (.int .i64 (Lib.indexByte s.data.toList c)) ∧ w' = w := by
  have h := Tryz.strings_IndexByte s (c.toNat : Int) w
  rw [show ((c.toNat : Int)).toNat.toUInt8 = c by simp] at h
  exact h
theorem ix_has : ∀ (l : List UInt8) (c : UInt8), (0 ≤ Lib.indexByte l c ↔ l.contains c = true) ∧ -1 ≤ Lib.indexByte l c
  | [], c => by simp [Lib.indexByte]
  | b :: l, c => by
    obtain ⟨h1, h2⟩ := ix_has l c
    unfold Lib.indexByte
    by_cases hb : b = c
    · subst hb; simp
    · have e1 : (b == c) = false := by simpa using hb
      have e2 : (c == b) = false := by simpa using (fun e : c = b => hb e.symm)
      rw [e1, List.contains_cons, e2, Bool.false_or, ← h1]
      simp only [Bool.false_eq_true, if_false, beq_iff_eq]
      split <;> constructor <;> omega
theorem name_any (c : UInt8) (w : World) : Calls Tryz.prog 33 #[.int .u8 (c.toNat : Int)] w fun e w' => e = .returned (.bool (isNameB c)) ∧ w = w' := by
  have hz : isNameB c = (isWordB c || nameMarks.contains c) := rfl
  have hix := ix_has nameMarks c
  have HI : Hid (Lib.indexByte (⟨#[33, 35, 36, 37, 38, 39, 42, 43, 45, 46, 94, 95, 96, 124, 126]⟩ : ByteArray).data.toList c = Lib.indexByte nameMarks c) := Lib.hid rfl
  generalize Lib.indexByte nameMarks c = I at *
  cases hw : isWordB c <;> cases hc : nameMarks.contains c
  all_goals
    rw [hw, hc] at hz
    rw [hc] at hix
    have HX := Lib.hid hix
    have HZ := Lib.hid hz
    have HW := Lib.hid hw
    clear hz hw hix hc
    go_enter Tryz.func33, Tryz.ntmps33
    go_wp2_with (first
      | (go_at_call 57; refine (word_any _ _).mono ?_; rintro e w' ⟨rfl, rfl⟩; rw [HW.out])
      | (go_at_call 58; refine (ix_any _ _ _).mono ?_; rintro e w' ⟨rfl, rfl⟩; rw [HI.out]))
    all_goals
      go_ret
      exact ⟨ret_bool (by rw [HZ.out]; have := HX.out; simp at this ⊢; try omega), rfl⟩
def hexD : List UInt8 := [48, 49, 50, 51, 52, 53, 54, 55, 56, 57, 97, 98, 99, 100, 101, 102, 48, 49, 50, 51, 52, 53, 54, 55, 56, 57, 65, 66, 67, 68, 69, 70]
theorem hex_tab : ∀ n : Fin 256, Lib.indexByte hexD (UInt8.ofNat n.val) = -1 ∧ hexB (UInt8.ofNat n.val) = -1 ∨ 0 ≤ Lib.indexByte hexD (UInt8.ofNat n.val) ∧ Lib.indexByte hexD (UInt8.ofNat n.val) % 16 = hexB (UInt8.ofNat n.val) := by decide +kernel
theorem hex_any (c : UInt8) (w : World) : Calls Tryz.prog 73 #[.int .u8 (c.toNat : Int)] w fun e w' => e = .returned (.int .i64 (hexB c)) ∧ w = w' := by
  have ht := hex_tab ⟨c.toNat, c.toNat_lt⟩
  simp only [UInt8.ofNat_toNat] at ht
  have HI : Hid (Lib.indexByte (⟨#[48, 49, 50, 51, 52, 53, 54, 55, 56, 57, 97, 98, 99, 100, 101, 102, 48, 49, 50, 51, 52, 53, 54, 55, 56, 57, 65, 66, 67, 68, 69, 70]⟩ : ByteArray).data.toList c = Lib.indexByte hexD c) := Lib.hid rfl
  generalize Lib.indexByte hexD c = I at *
  generalize hH : hexB c = H at *
  clear hH
  rcases ht with ⟨rfl, rfl⟩ | ⟨h1, h2⟩
  · go_enter Tryz.func73, Tryz.ntmps73
    go_wp2_with (go_at_call 58; refine (ix_any _ _ _).mono ?_; rintro e w' ⟨rfl, rfl⟩; rw [HI.out])
    go_ret
    exact ⟨rfl, rfl⟩
  · have H2 : Hid (I % 16 = H) := Lib.hid h2
    clear h2
    go_enter Tryz.func73, Tryz.ntmps73
    go_wp2_with (go_at_call 58; refine (ix_any _ _ _).mono ?_; rintro e w' ⟨rfl, rfl⟩; rw [HI.out])
    go_ret
    exact ⟨ret_int H2.out, rfl⟩
end Go.Proofs.YtbehakabglegjaaGreatDoor
