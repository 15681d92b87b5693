/- Layer 2: what a reader of a JSON text answers, in plain words (no program in sight): the value's tree and the place behind it, or a number of what is amiss and its place. -/
import Derived.Test.YtnjhmnolngdfaaaGreatDoorJtA
import Derived.PlainAid
namespace Go.Proofs.YtnjhmnolngdfaaaGreatDoor
open Go.RowKit Go.PlainAid
set_option linter.unusedVariables false

/-- What comes of reading: a value and the place behind it, or what is amiss and where. -/
inductive Out (α : Type) where
  | ok (x : α) (k : Nat)
  | bad (c : Int) (p : Nat)
def Out.map {α β : Type} (f : α → β) : Out α → Out β
  | .ok x k => .ok (f x) k
  | .bad c p => .bad c p
/-- The byte that stands here; -1 at the end. -/
def pk (s : ByteArray) (i : Nat) : Int := if i < s.size then bt s i else -1
def blankI (c : Int) : Bool := decide (c = 32) || decide (c = 10) || decide (c = 13) || decide (c = 9)
def digI (c : Int) : Bool := decide (48 ≤ c) && decide (c ≤ 57)
/-- Behind all that p holds of. -/
def over1 (p : Int → Bool) (s : ByteArray) : Nat → Nat → Nat
  | 0, i => i
  | n + 1, i => if p (pk s i) = true then over1 p s n (i + 1) else i
def overTo (p : Int → Bool) (s : ByteArray) (i : Nat) : Nat := over1 p s (s.size - i) i
def skipTo (s : ByteArray) (i : Nat) : Nat := overTo blankI s i
theorem pk_end {s : ByteArray} {i : Nat} (h : s.size ≤ i) : pk s i = -1 := by unfold pk; rw [if_neg (by omega)]
theorem pk_in {s : ByteArray} {i : Nat} (h : i < s.size) : pk s i = bt s i := by unfold pk; rw [if_pos h]
theorem blank_end : blankI (-1) = false := by decide
theorem dig_end : digI (-1) = false := by decide
theorem overTo_stop {p : Int → Bool} {s : ByteArray} {i : Nat} (h : p (pk s i) = false) : overTo p s i = i := by
  unfold overTo
  cases hn : s.size - i with
  | zero => rfl
  | succ n => unfold over1; rw [if_neg (by rw [h]; decide)]
theorem overTo_go {p : Int → Bool} {s : ByteArray} {i : Nat} (hi : i < s.size) (h : p (pk s i) = true) : overTo p s i = overTo p s (i + 1) := by
  unfold overTo
  rw [show s.size - i = (s.size - (i + 1)) + 1 by omega]
  conv => lhs; unfold over1
  rw [if_pos h]
theorem over1_bounds {p : Int → Bool} {s : ByteArray} : ∀ (n i : Nat), n = s.size - i → i ≤ over1 p s n i ∧ (i ≤ s.size → over1 p s n i ≤ s.size)
  | 0, i, _ => by unfold over1; exact ⟨Nat.le_refl _, fun h => h⟩
  | n + 1, i, hn => by
    unfold over1
    split
    · have := over1_bounds (p := p) (s := s) n (i + 1) (by omega)
      exact ⟨by omega, fun h => this.2 (by omega)⟩
    · exact ⟨Nat.le_refl _, fun h => h⟩
theorem overTo_ge {p : Int → Bool} {s : ByteArray} {i : Nat} : i ≤ overTo p s i := (over1_bounds _ _ rfl).1
theorem overTo_le {p : Int → Bool} {s : ByteArray} {i : Nat} (h : i ≤ s.size) : overTo p s i ≤ s.size := (over1_bounds _ _ rfl).2 h
/-- A word that must stand here, from its k-th letter on. -/
def wordTo (s w : ByteArray) : Nat → Nat → Out Unit
  | 0, i => .ok () i
  | n + 1, i => if pk s i = bt w (w.size - (n + 1)) then wordTo s w n (i + 1) else .bad 3 i
/-- The number of the digits from j to k, held at 2^53 once it is there. -/
def digsTo (s : ByteArray) : Nat → Nat → Int → Int
  | 0, j, v => v
  | n + 1, j, v => digsTo s n (j + 1) (10 * v + (bt s j - 48))
/-- Behind the digits that begin at j. -/
def numEnd (s : ByteArray) (j : Nat) : Nat := if pk s j = 48 then j + 1 else overTo digI s j
/-- What they say. -/
def numVal (s : ByteArray) (j : Nat) : Int := digsTo s (numEnd s j - j) j 0
/-- A number whose digits begin at j. -/
def numAt (s : ByteArray) (neg : Bool) (i j : Nat) : Out Int :=
  if digI (pk s j) = false then .bad 3 j
  else if numVal s j > 9007199254740991 then .bad 5 i
  else .ok (if neg = true then -numVal s j else numVal s j) (numEnd s j)
/-- A number that begins here. -/
def numTo (s : ByteArray) (i : Nat) : Out Int := if pk s i = 45 then numAt s true i (i + 1) else numAt s false i i
/-- A hexadecimal digit's worth; -1: it is none. -/
def hexI (c : Int) : Int := if digI c = true then c - 48 else if decide (97 ≤ c) && decide (c ≤ 102) then c - 87 else if decide (65 ≤ c) && decide (c ≤ 70) then c - 55 else -1
def hexTo (s : ByteArray) : Nat → Nat → Int → Out Int
  | 0, i, v => .ok v i
  | n + 1, i, v => if hexI (pk s i) < 0 then .bad 3 i else hexTo s n (i + 1) (16 * v + hexI (pk s i))
/-- What stands behind a backslash at i - 1. -/
def escI (c : Int) : Int := if c = 34 then 34 else if c = 92 then 92 else if c = 47 then 47 else if c = 98 then 8 else if c = 102 then 12 else if c = 110 then 10 else if c = 114 then 13 else if c = 116 then 9 else -1
def charTo (s : ByteArray) (i : Nat) : Out Int :=
  if escI (pk s i) ≥ 0 then .ok (escI (pk s i)) (i + 1)
  else if pk s i ≠ 117 then .bad 3 i
  else match hexTo s 4 (i + 1) 0 with
    | .bad c p => .bad c p
    | .ok n k =>
      if n < 55296 ∨ 57343 < n then .ok n k
      else if pk s k = 92 ∧ pk s (k + 1) = 117 then
        match hexTo s 4 (k + 2) 0 with
        | .bad _ _ => .bad 7 (i - 1)
        | .ok m k2 => if n ≤ 56319 ∧ 56320 ≤ m ∧ m ≤ 57343 then .ok (65536 + 1024 * (n - 55296) + (m - 56320)) k2 else .bad 7 (i - 1)
      else .bad 7 (i - 1)
end Go.Proofs.YtnjhmnolngdfaaaGreatDoor
