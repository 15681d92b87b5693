/- The document's layer 1, walked: coveyref01.Points, coveyref01.Bad; what is sound is what Go takes for valid. Layer 2: what a reader of a JSON text answers, in plain words (no program in sight): the value's tree and the place behind it, or a number of what is amiss and its place. Layer 2: what a reader of a JSON text answers: texts, lists, objects, values; each goes on, and stays within the text. -/
import Derived.Test.YtnjhmnolngdfaaaGreatDoorQ04
import Derived.Test.YtnjhmnolngdfaaaGreatDoorQ01
import Derived.PlainAid
import Derived.Lib.RuneBytes
import Derived.Shelf.Unicode.DecodeSlow
import Derived.Lib.RuneCountTail
import Derived.Test.YtnjhmnolngdfaaaGreatDoorQZip
namespace Go.Proofs.YtnjhmnolngdfaaaGreatDoor
open Go.RowKit Go.PlainAid
set_option linter.unusedVariables false
set_option linter.unusedSimpArgs false
/-- The first place from i on where no character stands; -1: there is none. -/
def badFrom (s : ByteArray) : Nat → Nat → Int
  | 0, _ => -1
  | n + 1, i => if i < s.size then (if (Utf8.decode s i).1 = 65533 ∧ (Utf8.decode s i).2 ≤ 1 then (i : Int) else badFrom s n (i + (Utf8.decode s i).2)) else -1
def badI (s : ByteArray) : Int := badFrom s s.size 0
theorem bf_end {s : ByteArray} {n i : Nat} (h : ¬ i < s.size) : badFrom s n i = -1 := by
  cases n with
  | zero => rfl
  | succ n => unfold badFrom; rw [if_neg h]
theorem bf_bad {s : ByteArray} {n i : Nat} (h : i < s.size) (hb : badU s i) : badFrom s (n + 1) i = i := by
  unfold badU at hb
  unfold badFrom
  rw [if_pos h, if_pos hb]
theorem bf_go {s : ByteArray} {n i : Nat} (h : i < s.size) (hb : ¬ badU s i) : badFrom s (n + 1) i = badFrom s n (i + (Utf8.decode s i).2) := by
  unfold badU at hb
  conv => lhs; unfold badFrom
  rw [if_pos h, if_neg hb]
theorem vdec_bounds (s : ByteArray) (i : Nat) (hi : i < s.size) : 0 < (Utf8.decode s i).2 ∧ i + (Utf8.decode s i).2 ≤ s.size := by
  rw [← Lib.decodeL_drop]
  have hne : s.data.toList.drop i ≠ [] := by
    intro h
    rw [List.drop_eq_nil_iff] at h
    have : s.data.toList.length = s.size := by simp
    omega
  have h1 := Lib.decodeL_width (s.data.toList.drop i)
  have h2 := Lib.decodeL_le _ hne
  rw [List.length_drop] at h2
  have : s.data.toList.length = s.size := by simp
  omega
theorem vinfo_int : (Tryz.prog.info? 3).map (fun i => (i.zero, i.size, i.bytes)) = some (some (.int .i64 0), 1, 8) := by kernel_rfl
theorem vint_info : ∃ ie, Tryz.prog.info? 3 = some ie ∧ ie.zero = some (.int .i64 0) ∧ ie.size = 1 ∧ ie.bytes = 8 := by
  have h := vinfo_int
  cases hq : Tryz.prog.info? 3 with
  | none => rw [hq] at h; cases h
  | some ie =>
    rw [hq] at h
    simp only [Option.map_some, Option.some.injEq, Prod.mk.injEq] at h
    exact ⟨ie, rfl, h.1, h.2.1, h.2.2⟩
theorem vint_fill (p : Int) : Instr.fill (fun i => some (i * 1, 1)) ((Array.range (1 * 1)).map ((Value.int .i64 0).cells[· % (Value.int .i64 0).cells.size]!)) [(0, .int .i64 p)] = some #[.int .i64 p] := by kernel_rfl
/-- What Points answers: some row, and the first place that is amiss. -/
def PtsP (s : ByteArray) (w : World) (e : Ending) (w' : World) : Prop := (∃ v, e = .returned (.tuple #[v, .int .i64 (badI s)])) ∧ Below w.heap.size w w'
theorem PtsP.of {s : ByteArray} {w w' : World} {v : Value} {x : Int} (h : badI s = x) (hb : Below w.heap.size w w') : PtsP s w (.returned (.tuple #[v, .int .i64 x])) w' := by subst h; exact ⟨⟨v, rfl⟩, hb⟩
set_option maxRecDepth 10000 in
set_option maxHeartbeats 8000000 in
theorem points_any {s : ByteArray} (hs : s.size ≤ 17592186044400) (w : World) : Calls Tryz.prog 71 #[.string s] w (PtsP s w) := by
  obtain ⟨ie, hie1, hie2, hie3, hie4⟩ := vint_info
  go_enter Tryz.func71, Tryz.ntmps71
  go_wp2
  go_loopw [4, 5] (fun ov av wr => ∃ (k n m : Nat) (v : Value) (xs : List Value), v = ov ∧ av = .int .i64 k ∧ k ≤ s.size ∧ wr.ownsRow w.heap.size 3 1 v m xs ∧ m ≤ k ∧ s.size ≤ k + n ∧ Hid (badFrom s n k = badI s) ∧ Below w.heap.size w wr) (fun _ av _ => s.size - (intOf av).toNat)
  case atStart => exact ⟨0, s.size, 0, _, [], rfl, rfl, Nat.zero_le _, ⟨rfl, .inl ⟨rfl, rfl⟩⟩, Nat.le_refl _, by omega, Lib.hid rfl, Below.refl _ _⟩
  case round =>
    obtain ⟨k, n, m, v, xs, rfl, rfl, hk, HO, hmk, hkn, HS, HB⟩ := hrel
    by_cases hlt : k < s.size
    · have hkr : s.size ≤ 140737488355328 := by omega
      have hlt' : (k : Int) < (s.size : Int) := by omega
      obtain ⟨n2, hn2⟩ : ∃ n2, n = n2 + 1 := ⟨n - 1, by omega⟩
      subst hn2
      by_cases hbu : badU s k
      · have HK := Lib.hid (HS.out.symm.trans (bf_bad hlt hbu))
        have HA := Lib.hid (atS_bad hbu)
        clear hbu
        go_wp2_with (go_at_call 91; (with_reducible refine (at_any hlt hkr _).mono ?_); rintro e w2 ⟨rfl, hb⟩; rw [HA.out]; replace HB := zT HB hb; clear hb)
        go_ret2
        exact PtsP.of HK.out HB
      · have hd := vdec_bounds s k hlt
        have HS2 : Hid (badFrom s n2 (k + (Utf8.decode s k).2) = badI s) := Lib.hid ((bf_go hlt hbu).symm.trans HS.out)
        have hat := atS_ok hbu
        obtain ⟨D1, D2, hD⟩ : ∃ D1 D2, Utf8.decode s k = (D1, D2) := ⟨_, _, rfl⟩
        rw [hD] at hat hd HS2
        have hd0 : 0 < D2 := hd.1
        have hdl : k + D2 ≤ s.size := hd.2
        have HS3 : Hid (badFrom s n2 (k + D2) = badI s) := HS2
        have hd1 : ¬ (D2 : Int) = 0 := by omega
        have hd2 : (k : Int) + (D2 : Int) ≤ (s.size : Int) := by omega
        have HA := Lib.hid hat
        clear hat hD hbu hd HS HS2
        go_wp2_with (first
          | (go_at_call 91; (with_reducible refine (at_any hlt hkr _).mono ?_); rintro e w2 ⟨rfl, hb⟩; rw [HA.out]; have hbz := HB.size; replace HO := own_below HO (hb.mono (Nat.le_refl _)); replace HB := zT HB hb; clear hb hbz)
          | ((with_reducible refine is_slice ?_); refine wpl_slice_at 1 [(0, .int .i64 (D1 : Int))] #[.int .i64 (D1 : Int)] ie _ (by rw [hie3]; exact vint_fill _) rfl 106 3 _ rfl rfl Tryz.underlying106 hie1 hie2 (by rw [hie3]; decide) (by rw [hie3]; decide) ?_; intro w9 hw; have hb := hid_grow hw; have B9 := (hid_alloc hw).1; clear hw; replace HO := own_below HO hb; replace HB := zT HB hb; clear hb; have hbz := HB.size)
          | (at_builtin; refine wpl_append_fresh rfl (.tmp 22) (.tmp 24) 106 rfl w.heap.size 3 ie _ 1 8 Tryz.underlying106 hie1 hie2 hie3 hie4 rfl (by decide) v m xs rfl HO _ 1 #[.int .i64 (D1 : Int)] _ B9 rfl rfl (by simp [Value.oneCell']) (by unfold maxLen; omega) (by omega) hbz ?_; intro v9 w10 ho9 hb9; replace HO := ho9; replace HB := HB.trans hb9; clear ho9 hb9 B9 hbz))
        go_roundw
        case rel => exact ⟨k + D2, n2, m + 1, v9, _, rfl, by go_num, hdl, HO, by omega, by omega, HS3, HB⟩
        case measure => simp [intOf]; omega
    · have hlt' : ¬ (k : Int) < (s.size : Int) := by omega
      have HK := Lib.hid (HS.out.symm.trans (bf_end hlt))
      go_wp2
      go_ret2
      exact PtsP.of HK.out HB
theorem badu_any {s : ByteArray} (hs : s.size ≤ 17592186044400) (w : World) : Calls Tryz.prog 47 #[.string s] w fun e w' => e = .returned (.int .i64 (badI s)) ∧ Below w.heap.size w w' := by
  go_enter Tryz.func47, Tryz.ntmps47
  go_wp2_with (go_at_call 71; (with_reducible refine (points_any hs _).mono ?_); rintro e w2 ⟨⟨v, rfl⟩, hb⟩)
  go_ret
  exact ⟨rfl, hb⟩
end Go.Proofs.YtnjhmnolngdfaaaGreatDoor
namespace Go.Proofs.YtnjhmnolngdfaaaGreatDoor
open Go.RowKit Go.PlainAid
set_option linter.unusedVariables false

/-- What comes of reading: a value and the place behind it, or what is amiss and where. -/
inductive Out (α : Type) where
  | ok (x : α) (k : Nat)
  | bad (c : Int) (p : Nat)
def Out.map {α β : Type} (f : α → β) : Out α → Out β
  | .ok x k => .ok (f x) k
  | .bad c p => .bad c p
/-- The byte that stands here; -1 at the end. -/
def pk (s : ByteArray) (i : Nat) : Int := if i < s.size then bt s i else -1
def blankI (c : Int) : Bool := decide (c = 32) || decide (c = 10) || decide (c = 13) || decide (c = 9)
def digI (c : Int) : Bool := decide (48 ≤ c) && decide (c ≤ 57)
/-- Behind all that p holds of. -/
def over1 (p : Int → Bool) (s : ByteArray) : Nat → Nat → Nat
  | 0, i => i
  | n + 1, i => if p (pk s i) = true then over1 p s n (i + 1) else i
def overTo (p : Int → Bool) (s : ByteArray) (i : Nat) : Nat := over1 p s (s.size - i) i
def skipTo (s : ByteArray) (i : Nat) : Nat := overTo blankI s i
theorem pk_end {s : ByteArray} {i : Nat} (h : s.size ≤ i) : pk s i = -1 := by unfold pk; rw [if_neg (by omega)]
theorem pk_in {s : ByteArray} {i : Nat} (h : i < s.size) : pk s i = bt s i := by unfold pk; rw [if_pos h]
theorem overTo_stop {p : Int → Bool} {s : ByteArray} {i : Nat} (h : p (pk s i) = false) : overTo p s i = i := by
  unfold overTo
  cases hn : s.size - i with
  | zero => rfl
  | succ n => unfold over1; rw [if_neg (by rw [h]; decide)]
theorem overTo_go {p : Int → Bool} {s : ByteArray} {i : Nat} (hi : i < s.size) (h : p (pk s i) = true) : overTo p s i = overTo p s (i + 1) := by
  unfold overTo
  rw [show s.size - i = (s.size - (i + 1)) + 1 by omega]
  conv => lhs; unfold over1
  rw [if_pos h]
theorem over1_bounds {p : Int → Bool} {s : ByteArray} : ∀ (n i : Nat), n = s.size - i → i ≤ over1 p s n i ∧ (i ≤ s.size → over1 p s n i ≤ s.size)
  | 0, i, _ => by unfold over1; exact ⟨Nat.le_refl _, fun h => h⟩
  | n + 1, i, hn => by
    unfold over1
    split
    · have := over1_bounds (p := p) (s := s) n (i + 1) (by omega)
      exact ⟨by omega, fun h => this.2 (by omega)⟩
    · exact ⟨Nat.le_refl _, fun h => h⟩
theorem overTo_ge {p : Int → Bool} {s : ByteArray} {i : Nat} : i ≤ overTo p s i := (over1_bounds _ _ rfl).1
theorem overTo_le {p : Int → Bool} {s : ByteArray} {i : Nat} (h : i ≤ s.size) : overTo p s i ≤ s.size := (over1_bounds _ _ rfl).2 h
/-- A word that must stand here, from its k-th letter on. -/
def wordTo (s w : ByteArray) : Nat → Nat → Out Unit
  | 0, i => .ok () i
  | n + 1, i => if pk s i = bt w (w.size - (n + 1)) then wordTo s w n (i + 1) else .bad 3 i
/-- The number of the digits from j to k, held at 2^53 once it is there. -/
def digsTo (s : ByteArray) : Nat → Nat → Int → Int
  | 0, j, v => v
  | n + 1, j, v => digsTo s n (j + 1) (10 * v + (bt s j - 48))
/-- Behind the digits that begin at j. -/
def numEnd (s : ByteArray) (j : Nat) : Nat := if pk s j = 48 then j + 1 else overTo digI s j
/-- What they say. -/
def numVal (s : ByteArray) (j : Nat) : Int := digsTo s (numEnd s j - j) j 0
/-- A number whose digits begin at j. -/
def numAt (s : ByteArray) (neg : Bool) (i j : Nat) : Out Int :=
  if digI (pk s j) = false then .bad 3 j
  else if numVal s j > 9007199254740991 then .bad 5 i
  else .ok (if neg = true then -numVal s j else numVal s j) (numEnd s j)
/-- A number that begins here. -/
def numTo (s : ByteArray) (i : Nat) : Out Int := if pk s i = 45 then numAt s true i (i + 1) else numAt s false i i
/-- A hexadecimal digit's worth; -1: it is none. -/
def hexI (c : Int) : Int := if digI c = true then c - 48 else if decide (97 ≤ c) && decide (c ≤ 102) then c - 87 else if decide (65 ≤ c) && decide (c ≤ 70) then c - 55 else -1
def hexTo (s : ByteArray) : Nat → Nat → Int → Out Int
  | 0, i, v => .ok v i
  | n + 1, i, v => if hexI (pk s i) < 0 then .bad 3 i else hexTo s n (i + 1) (16 * v + hexI (pk s i))
/-- What stands behind a backslash at i - 1. -/
def escI (c : Int) : Int := if c = 34 then 34 else if c = 92 then 92 else if c = 47 then 47 else if c = 98 then 8 else if c = 102 then 12 else if c = 110 then 10 else if c = 114 then 13 else if c = 116 then 9 else -1
def charTo (s : ByteArray) (i : Nat) : Out Int :=
  if escI (pk s i) ≥ 0 then .ok (escI (pk s i)) (i + 1)
  else if pk s i ≠ 117 then .bad 3 i
  else match hexTo s 4 (i + 1) 0 with
    | .bad c p => .bad c p
    | .ok n k =>
      if n < 55296 ∨ 57343 < n then .ok n k
      else if pk s k = 92 ∧ pk s (k + 1) = 117 then
        match hexTo s 4 (k + 2) 0 with
        | .bad _ _ => .bad 7 (i - 1)
        | .ok m k2 => if n ≤ 56319 ∧ 56320 ≤ m ∧ m ≤ 57343 then .ok (65536 + 1024 * (n - 55296) + (m - 56320)) k2 else .bad 7 (i - 1)
      else .bad 7 (i - 1)
end Go.Proofs.YtnjhmnolngdfaaaGreatDoor
namespace Go.Proofs.YtnjhmnolngdfaaaGreatDoor
open Go.RowKit Go.PlainAid
set_option linter.unusedVariables false
set_option linter.unusedSimpArgs false

/-- Behind a text's first quote: to the last one. -/
def textL (s : ByteArray) : Nat → Nat → List UInt8 → Out ByteArray
  | 0, i, _ => .bad 0 i
  | n + 1, i, acc =>
    if pk s i < 32 then .bad 3 i
    else if pk s i = 34 then .ok ⟨acc.toArray⟩ (i + 1)
    else if pk s i = 92 then
      match charTo s (i + 1) with
      | .bad c p => .bad c p
      | .ok x k => textL s n k (acc ++ Lib.encodeRune x)
    else if (Utf8.decode s i).1 = 65533 ∧ (Utf8.decode s i).2 ≤ 1 then .bad 7 i
    else textL s n (i + (Utf8.decode s i).2) (acc ++ Lib.encodeRune ((Utf8.decode s i).1 : Nat))
def textTo (s : ByteArray) (i : Nat) : Out ByteArray := textL s (s.size + 1) (i + 1) []
/-- What stands between two brackets, step by step. -/
def eachL {σ : Type} (s : ByteArray) (endc : Int) (step : Nat → σ → Out σ) : Nat → Nat → σ → Out σ
  | 0, i, _ => .bad 0 i
  | n + 1, i, x => match step i x with
    | .bad c p => .bad c p
    | .ok y k =>
      if pk s (skipTo s k) = endc then .ok y (skipTo s k + 1)
      else if pk s (skipTo s k) = 44 then eachL s endc step n (skipTo s (skipTo s k + 1)) y
      else .bad 3 (skipTo s k)
def eachTo {σ : Type} (s : ByteArray) (endc : Int) (step : Nat → σ → Out σ) (i : Nat) (x : σ) : Out σ :=
  if pk s (skipTo s (i + 1)) = endc then .ok x (skipTo s (i + 1) + 1) else eachL s endc step (s.size + 1) (skipTo s (i + 1)) x
def listStep (f : Nat → Out JT) (i : Nat) (l : List JT) : Out (List JT) := (f i).map fun t => l ++ [t]
/-- Is it one of these names? -/
def hasN (l : List ByteArray) (nm : ByteArray) : Bool := l.any fun m => m.toList == nm.toList
def objStep (s : ByteArray) (f : Nat → Out JT) (i : Nat) (x : List ByteArray × List JT) : Out (List ByteArray × List JT) :=
  if pk s i = 34 then
    match textTo s i with
    | .bad c p => .bad c p
    | .ok nm k =>
      if hasN x.1 nm = true then .bad 6 i
      else match wordTo s ⟨#[58]⟩ 1 (skipTo s k) with
        | .bad c p => .bad c p
        | .ok _ k2 => (f (skipTo s k2)).map fun t => (x.1 ++ [nm], x.2 ++ [t])
  else .bad 3 i
def jNull : JT := .mk 0 false 0 ⟨#[]⟩ [] [] []
def jBool (b : Bool) : JT := .mk 1 b 0 ⟨#[]⟩ [] [] []
def jInt (n : Int) : JT := .mk 2 false n ⟨#[]⟩ [] [] []
def jText (t : ByteArray) : JT := .mk 3 false 0 t [] [] []
def jList (l : List JT) : JT := .mk 4 false 0 ⟨#[]⟩ l [] []
def jObj (x : List ByteArray × List JT) : JT := .mk 5 false 0 ⟨#[]⟩ [] x.1 x.2
def nullW : ByteArray := ⟨#[110, 117, 108, 108]⟩
def trueW : ByteArray := ⟨#[116, 114, 117, 101]⟩
def falseW : ByteArray := ⟨#[102, 97, 108, 115, 101]⟩
/-- A value, within d more lists and objects. -/
def valueTo (s : ByteArray) (d i : Nat) : Out JT :=
  if pk s i = 110 then (wordTo s nullW 4 i).map fun _ => jNull
  else if pk s i = 116 then (wordTo s trueW 4 i).map fun _ => jBool true
  else if pk s i = 102 then (wordTo s falseW 5 i).map fun _ => jBool false
  else if pk s i = 45 ∨ digI (pk s i) = true then (numTo s i).map jInt
  else if pk s i = 34 then (textTo s i).map jText
  else if pk s i ≠ 91 ∧ pk s i ≠ 123 then .bad 3 i
  else match d with
    | 0 => .bad 4 i
    | d + 1 => if pk s i = 91 then (eachTo s 93 (listStep (valueTo s d)) i []).map jList else (eachTo s 125 (objStep s (valueTo s d)) i ([], [])).map jObj
/-- A whole text. -/
def parseTo (s : ByteArray) : Out JT :=
  match valueTo s 32 (skipTo s 0) with
  | .bad c p => .bad c p
  | .ok t k => if skipTo s k < s.size then .bad 3 (skipTo s k) else .ok t (skipTo s k)

/-- What is read goes on, within the text. -/
def Goes {α : Type} (s : ByteArray) (i : Nat) (o : Out α) : Prop := ∀ x k, o = .ok x k → i < k ∧ k ≤ s.size
theorem Goes.bad {α : Type} {s : ByteArray} {i : Nat} {c : Int} {p : Nat} : Goes s i (.bad c p : Out α) := fun _ _ h => nomatch h
theorem Goes.okk {α : Type} {s : ByteArray} {i : Nat} {x : α} {k : Nat} (h : i < k) (h2 : k ≤ s.size) : Goes s i (.ok x k) := fun _ _ h3 => by injection h3 with h4 h5; subst h5; exact ⟨h, h2⟩
theorem Goes.map {α β : Type} {s : ByteArray} {i : Nat} {o : Out α} {f : α → β} (h : Goes s i o) : Goes s i (o.map f) := by
  cases o with
  | bad c p => exact Goes.bad
  | ok x k => exact Goes.okk (h x k rfl).1 (h x k rfl).2
theorem Goes.le {α : Type} {s : ByteArray} {i j : Nat} {o : Out α} (h : Goes s i o) (hj : j ≤ i) : Goes s j o := fun x k hk => ⟨Nat.lt_of_le_of_lt hj (h x k hk).1, (h x k hk).2⟩
theorem pk_lt {s : ByteArray} {i : Nat} {c : Int} (h : pk s i = c) (hc : 0 ≤ c) : i < s.size := by
  rcases Nat.lt_or_ge i s.size with h1 | h1
  · exact h1
  · rw [pk_end h1] at h; omega
theorem pk_lt' {s : ByteArray} {i : Nat} (h : 0 ≤ pk s i) : i < s.size := pk_lt rfl h
theorem dig_lt {s : ByteArray} {i : Nat} (h : digI (pk s i) = true) : i < s.size := by
  unfold digI at h; simp at h; exact pk_lt' (by omega)
theorem word_goes {s v : ByteArray} : ∀ (n i : Nat), 0 < n → (∀ k, 0 ≤ bt v k) → Goes s i (wordTo s v n i)
  | 0, i, h, _ => absurd h (by omega)
  | n + 1, i, _, hv => by
    unfold wordTo
    split
    · rename_i h
      have hi := pk_lt h (hv _)
      cases n with
      | zero => unfold wordTo; exact Goes.okk (by omega) (by omega)
      | succ m => exact (word_goes (m + 1) (i + 1) (by omega) hv).le (by omega)
    · exact Goes.bad
theorem numEnd_gt {s : ByteArray} {j : Nat} (h : digI (pk s j) = true) : j < numEnd s j ∧ numEnd s j ≤ s.size := by
  have hj := dig_lt h
  have h1 := overTo_go hj h
  have h2 := overTo_ge (p := digI) (s := s) (i := j + 1)
  have h3 := overTo_le (p := digI) (s := s) (Nat.le_of_lt hj)
  unfold numEnd
  split <;> omega
theorem numAt_goes {s : ByteArray} {neg : Bool} {i j : Nat} : Goes s j (numAt s neg i j) := by
  unfold numAt
  split
  · exact Goes.bad
  · rename_i h
    simp only [Bool.not_eq_false] at h
    split
    · exact Goes.bad
    · exact Goes.okk (numEnd_gt h).1 (numEnd_gt h).2
theorem num_goes {s : ByteArray} {i : Nat} : Goes s i (numTo s i) := by
  unfold numTo
  split
  · exact numAt_goes.le (by omega)
  · exact numAt_goes
theorem hexI_end : hexI (-1) = -1 := by decide
theorem hex_goes {s : ByteArray} : ∀ (n i : Nat) (v : Int), 0 < n → Goes s i (hexTo s n i v)
  | 0, _, _, h => absurd h (by omega)
  | n + 1, i, v, _ => by
    unfold hexTo
    split
    · exact Goes.bad
    · rename_i h
      have hi : i < s.size := by
        rcases Nat.lt_or_ge i s.size with h1 | h1
        · exact h1
        · rw [pk_end h1, hexI_end] at h; omega
      cases n with
      | zero => unfold hexTo; exact Goes.okk (by omega) (by omega)
      | succ m => exact (hex_goes (m + 1) (i + 1) _ (by omega)).le (by omega)
theorem escI_end : escI (-1) = -1 := by decide
theorem char_goes {s : ByteArray} {i : Nat} : Goes s i (charTo s i) := by
  unfold charTo
  split
  · rename_i h
    have hi : i < s.size := by
      rcases Nat.lt_or_ge i s.size with h1 | h1
      · exact h1
      · rw [pk_end h1, escI_end] at h; omega
    exact Goes.okk (by omega) (by omega)
  · split
    · exact Goes.bad
    · split
      · exact Goes.bad
      · rename_i n k hk
        have hg := hex_goes 4 (i + 1) 0 (by omega) n k hk
        split
        · exact Goes.okk (by omega) (by omega)
        · split
          · split
            · exact Goes.bad
            · rename_i m k2 hk2
              have hg2 := hex_goes 4 (k + 2) 0 (by omega) m k2 hk2
              split
              · exact Goes.okk (by omega) (by omega)
              · exact Goes.bad
          · exact Goes.bad
theorem dec_bounds (s : ByteArray) (i : Nat) (hi : i < s.size) : 0 < (Utf8.decode s i).2 ∧ i + (Utf8.decode s i).2 ≤ s.size := by
  unfold Utf8.decode
  simp only
  split
  · exact ⟨Nat.succ_pos _, by show i + 1 ≤ s.size; omega⟩
  · split
    · rename_i h
      simp only [Bool.and_eq_true, decide_eq_true_eq] at h
      split
      · exact ⟨Nat.succ_pos _, by show i + 2 ≤ s.size; omega⟩
      · exact ⟨Nat.succ_pos _, by show i + 1 ≤ s.size; omega⟩
    · split
      · rename_i h
        simp only [Bool.and_eq_true, decide_eq_true_eq] at h
        split
        · exact ⟨Nat.succ_pos _, by show i + 3 ≤ s.size; omega⟩
        · exact ⟨Nat.succ_pos _, by show i + 1 ≤ s.size; omega⟩
      · split
        · rename_i h
          simp only [Bool.and_eq_true, decide_eq_true_eq] at h
          split
          · exact ⟨Nat.succ_pos _, by show i + 4 ≤ s.size; omega⟩
          · exact ⟨Nat.succ_pos _, by show i + 1 ≤ s.size; omega⟩
        · exact ⟨Nat.succ_pos _, by show i + 1 ≤ s.size; omega⟩
theorem decodeGo_at (s : ByteArray) (i : Nat) (hi : i < s.size) : Lib.decodeGo (s.extract i s.size) = Utf8.decode s i := by
  unfold Lib.decodeGo
  rw [if_neg (by simp; omega), Lib.tail_decode, Nat.add_zero]
theorem textL_goes {s : ByteArray} : ∀ (n i : Nat) (acc : List UInt8), s.size < i + n → Goes s i (textL s n i acc)
  | 0, i, acc, hn => Goes.bad
  | n + 1, i, acc, hn => by
    unfold textL
    split
    · exact Goes.bad
    · rename_i h1
      have hi : i < s.size := pk_lt' (by omega)
      split
      · exact Goes.okk (by omega) (by omega)
      · split
        · split
          · exact Goes.bad
          · rename_i x k hk
            have hg := char_goes x k hk
            exact (textL_goes n k _ (by omega)).le (by omega)
        · split
          · exact Goes.bad
          · rename_i h2
            have hd := dec_bounds s i hi
            exact (textL_goes n _ _ (by omega)).le (by omega)
theorem text_goes {s : ByteArray} {i : Nat} (hi : i < s.size) : Goes s i (textTo s i) := (textL_goes _ _ _ (by omega)).le (by omega)
theorem skip_ge {s : ByteArray} {i : Nat} : i ≤ skipTo s i := overTo_ge
theorem skip_le {s : ByteArray} {i : Nat} (h : i ≤ s.size) : skipTo s i ≤ s.size := overTo_le h
theorem eachL_goes {σ : Type} {s : ByteArray} {endc : Int} (he : 0 ≤ endc) {step : Nat → σ → Out σ} (hst : ∀ i x, Goes s i (step i x)) : ∀ (n i : Nat) (x : σ), Goes s i (eachL s endc step n i x)
  | 0, i, x => Goes.bad
  | n + 1, i, x => by
    unfold eachL
    split
    · exact Goes.bad
    · rename_i y k hk
      have hg := hst i x y k hk
      have h1 := skip_ge (s := s) (i := k)
      split
      · rename_i h2
        have := pk_lt h2 he
        exact Goes.okk (by omega) (by omega)
      · split
        · have h3 := skip_ge (s := s) (i := skipTo s k + 1)
          exact (eachL_goes he hst n _ y).le (by omega)
        · exact Goes.bad
theorem each_goes {σ : Type} {s : ByteArray} {endc : Int} (he : 0 ≤ endc) {step : Nat → σ → Out σ} (hst : ∀ i x, Goes s i (step i x)) (i : Nat) (x : σ) : Goes s i (eachTo s endc step i x) := by
  unfold eachTo
  have h1 := skip_ge (s := s) (i := i + 1)
  split
  · rename_i h2
    have := pk_lt h2 he
    exact Goes.okk (by omega) (by omega)
  · exact (eachL_goes he hst _ _ x).le (by omega)
theorem list_goes {s : ByteArray} {f : Nat → Out JT} (hf : ∀ i, Goes s i (f i)) (i : Nat) (l : List JT) : Goes s i (listStep f i l) := (hf i).map
theorem bt_colon : ∀ k, 0 ≤ bt ⟨#[58]⟩ k := fun k => bt_nonneg _ _
theorem obj_goes {s : ByteArray} {f : Nat → Out JT} (hf : ∀ i, Goes s i (f i)) (i : Nat) (x : List ByteArray × List JT) : Goes s i (objStep s f i x) := by
  unfold objStep
  split
  · rename_i h0
    have hi := pk_lt h0 (by omega)
    split
    · exact Goes.bad
    · rename_i nm k hk
      have hg := text_goes hi nm k hk
      have h1 := skip_ge (s := s) (i := k)
      split
      · exact Goes.bad
      · split
        · exact Goes.bad
        · rename_i k2 hk2
          have hg2 := word_goes 1 (skipTo s k) (by omega) bt_colon () k2 hk2
          have h3 := skip_ge (s := s) (i := k2)
          exact (hf _).map.le (by omega)
  · exact Goes.bad
theorem value_goes {s : ByteArray} : ∀ (d i : Nat), Goes s i (valueTo s d i)
  | d, i => by
    unfold valueTo
    split
    · exact (word_goes 4 i (by omega) (fun k => bt_nonneg _ _)).map
    · split
      · exact (word_goes 4 i (by omega) (fun k => bt_nonneg _ _)).map
      · split
        · exact (word_goes 5 i (by omega) (fun k => bt_nonneg _ _)).map
        · split
          · exact num_goes.map
          · split
            · rename_i h0
              exact (text_goes (pk_lt h0 (by omega))).map
            · split
              · exact Goes.bad
              · cases d with
                | zero => exact Goes.bad
                | succ d =>
                  simp only
                  split
                  · exact (each_goes (by omega) (list_goes (value_goes d)) _ _).map
                  · exact (each_goes (by omega) (obj_goes (value_goes d)) _ _).map
end Go.Proofs.YtnjhmnolngdfaaaGreatDoor
