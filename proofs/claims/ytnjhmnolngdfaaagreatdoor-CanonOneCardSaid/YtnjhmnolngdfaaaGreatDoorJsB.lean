/- Layer 2: what a reader of a JSON text answers: texts, lists, objects, values; each goes on, and stays within the text. -/
import Derived.Test.YtnjhmnolngdfaaaGreatDoorJsA
import Derived.Lib.RuneBytes
import Derived.Shelf.Unicode.DecodeSlow
import Derived.Lib.RuneCountTail
namespace Go.Proofs.YtnjhmnolngdfaaaGreatDoor
open Go.RowKit Go.PlainAid
set_option linter.unusedVariables false
set_option linter.unusedSimpArgs false

/-- Behind a text's first quote: to the last one. -/
def textL (s : ByteArray) : Nat → Nat → List UInt8 → Out ByteArray
  | 0, i, _ => .bad 0 i
  | n + 1, i, acc =>
    if pk s i < 32 then .bad 3 i
    else if pk s i = 34 then .ok ⟨acc.toArray⟩ (i + 1)
    else if pk s i = 92 then
      match charTo s (i + 1) with
      | .bad c p => .bad c p
      | .ok x k => textL s n k (acc ++ Lib.encodeRune x)
    else if (Utf8.decode s i).1 = 65533 ∧ (Utf8.decode s i).2 ≤ 1 then .bad 7 i
    else textL s n (i + (Utf8.decode s i).2) (acc ++ Lib.encodeRune ((Utf8.decode s i).1 : Nat))
def textTo (s : ByteArray) (i : Nat) : Out ByteArray := textL s (s.size + 1) (i + 1) []
/-- What stands between two brackets, step by step. -/
def eachL {σ : Type} (s : ByteArray) (endc : Int) (step : Nat → σ → Out σ) : Nat → Nat → σ → Out σ
  | 0, i, _ => .bad 0 i
  | n + 1, i, x => match step i x with
    | .bad c p => .bad c p
    | .ok y k =>
      if pk s (skipTo s k) = endc then .ok y (skipTo s k + 1)
      else if pk s (skipTo s k) = 44 then eachL s endc step n (skipTo s (skipTo s k + 1)) y
      else .bad 3 (skipTo s k)
def eachTo {σ : Type} (s : ByteArray) (endc : Int) (step : Nat → σ → Out σ) (i : Nat) (x : σ) : Out σ :=
  if pk s (skipTo s (i + 1)) = endc then .ok x (skipTo s (i + 1) + 1) else eachL s endc step (s.size + 1) (skipTo s (i + 1)) x
def listStep (f : Nat → Out JT) (i : Nat) (l : List JT) : Out (List JT) := (f i).map fun t => l ++ [t]
/-- Is it one of these names? -/
def hasN (l : List ByteArray) (nm : ByteArray) : Bool := l.any fun m => m.toList == nm.toList
def objStep (s : ByteArray) (f : Nat → Out JT) (i : Nat) (x : List ByteArray × List JT) : Out (List ByteArray × List JT) :=
  if pk s i = 34 then
    match textTo s i with
    | .bad c p => .bad c p
    | .ok nm k =>
      if hasN x.1 nm = true then .bad 6 i
      else match wordTo s ⟨#[58]⟩ 1 (skipTo s k) with
        | .bad c p => .bad c p
        | .ok _ k2 => (f (skipTo s k2)).map fun t => (x.1 ++ [nm], x.2 ++ [t])
  else .bad 3 i
def jNull : JT := .mk 0 false 0 ⟨#[]⟩ [] [] []
def jBool (b : Bool) : JT := .mk 1 b 0 ⟨#[]⟩ [] [] []
def jInt (n : Int) : JT := .mk 2 false n ⟨#[]⟩ [] [] []
def jText (t : ByteArray) : JT := .mk 3 false 0 t [] [] []
def jList (l : List JT) : JT := .mk 4 false 0 ⟨#[]⟩ l [] []
def jObj (x : List ByteArray × List JT) : JT := .mk 5 false 0 ⟨#[]⟩ [] x.1 x.2
def nullW : ByteArray := ⟨#[110, 117, 108, 108]⟩
def trueW : ByteArray := ⟨#[116, 114, 117, 101]⟩
def falseW : ByteArray := ⟨#[102, 97, 108, 115, 101]⟩
/-- A value, within d more lists and objects. -/
def valueTo (s : ByteArray) (d i : Nat) : Out JT :=
  if pk s i = 110 then (wordTo s nullW 4 i).map fun _ => jNull
  else if pk s i = 116 then (wordTo s trueW 4 i).map fun _ => jBool true
  else if pk s i = 102 then (wordTo s falseW 5 i).map fun _ => jBool false
  else if pk s i = 45 ∨ digI (pk s i) = true then (numTo s i).map jInt
  else if pk s i = 34 then (textTo s i).map jText
  else if pk s i ≠ 91 ∧ pk s i ≠ 123 then .bad 3 i
  else match d with
    | 0 => .bad 4 i
    | d + 1 => if pk s i = 91 then (eachTo s 93 (listStep (valueTo s d)) i []).map jList else (eachTo s 125 (objStep s (valueTo s d)) i ([], [])).map jObj
/-- A whole text. -/
def parseTo (s : ByteArray) : Out JT :=
  match valueTo s 32 (skipTo s 0) with
  | .bad c p => .bad c p
  | .ok t k => if skipTo s k < s.size then .bad 3 (skipTo s k) else .ok t (skipTo s k)

/-- What is read goes on, within the text. -/
def Goes {α : Type} (s : ByteArray) (i : Nat) (o : Out α) : Prop := ∀ x k, o = .ok x k → i < k ∧ k ≤ s.size
theorem Goes.bad {α : Type} {s : ByteArray} {i : Nat} {c : Int} {p : Nat} : Goes s i (.bad c p : Out α) := fun _ _ h => nomatch h
theorem Goes.okk {α : Type} {s : ByteArray} {i : Nat} {x : α} {k : Nat} (h : i < k) (h2 : k ≤ s.size) : Goes s i (.ok x k) := fun _ _ h3 => by injection h3 with h4 h5; subst h5; exact ⟨h, h2⟩
theorem Goes.map {α β : Type} {s : ByteArray} {i : Nat} {o : Out α} {f : α → β} (h : Goes s i o) : Goes s i (o.map f) := by
  cases o with
  | bad c p => exact Goes.bad
  | ok x k => exact Goes.okk (h x k rfl).1 (h x k rfl).2
theorem Goes.le {α : Type} {s : ByteArray} {i j : Nat} {o : Out α} (h : Goes s i o) (hj : j ≤ i) : Goes s j o := fun x k hk => ⟨Nat.lt_of_le_of_lt hj (h x k hk).1, (h x k hk).2⟩
theorem pk_lt {s : ByteArray} {i : Nat} {c : Int} (h : pk s i = c) (hc : 0 ≤ c) : i < s.size := by
  rcases Nat.lt_or_ge i s.size with h1 | h1
  · exact h1
  · rw [pk_end h1] at h; omega
theorem pk_lt' {s : ByteArray} {i : Nat} (h : 0 ≤ pk s i) : i < s.size := pk_lt rfl h
theorem dig_lt {s : ByteArray} {i : Nat} (h : digI (pk s i) = true) : i < s.size := by
  unfold digI at h; simp at h; exact pk_lt' (by omega)
theorem word_goes {s v : ByteArray} : ∀ (n i : Nat), 0 < n → (∀ k, 0 ≤ bt v k) → Goes s i (wordTo s v n i)
  | 0, i, h, _ => absurd h (by omega)
  | n + 1, i, _, hv => by
    unfold wordTo
    split
    · rename_i h
      have hi := pk_lt h (hv _)
      cases n with
      | zero => unfold wordTo; exact Goes.okk (by omega) (by omega)
      | succ m => exact (word_goes (m + 1) (i + 1) (by omega) hv).le (by omega)
    · exact Goes.bad
theorem numEnd_gt {s : ByteArray} {j : Nat} (h : digI (pk s j) = true) : j < numEnd s j ∧ numEnd s j ≤ s.size := by
  have hj := dig_lt h
  have h1 := overTo_go hj h
  have h2 := overTo_ge (p := digI) (s := s) (i := j + 1)
  have h3 := overTo_le (p := digI) (s := s) (Nat.le_of_lt hj)
  unfold numEnd
  split <;> omega
theorem numAt_goes {s : ByteArray} {neg : Bool} {i j : Nat} : Goes s j (numAt s neg i j) := by
  unfold numAt
  split
  · exact Goes.bad
  · rename_i h
    simp only [Bool.not_eq_false] at h
    split
    · exact Goes.bad
    · exact Goes.okk (numEnd_gt h).1 (numEnd_gt h).2
theorem num_goes {s : ByteArray} {i : Nat} : Goes s i (numTo s i) := by
  unfold numTo
  split
  · exact numAt_goes.le (by omega)
  · exact numAt_goes
theorem hexI_end : hexI (-1) = -1 := by decide
theorem hex_goes {s : ByteArray} : ∀ (n i : Nat) (v : Int), 0 < n → Goes s i (hexTo s n i v)
  | 0, _, _, h => absurd h (by omega)
  | n + 1, i, v, _ => by
    unfold hexTo
    split
    · exact Goes.bad
    · rename_i h
      have hi : i < s.size := by
        rcases Nat.lt_or_ge i s.size with h1 | h1
        · exact h1
        · rw [pk_end h1, hexI_end] at h; omega
      cases n with
      | zero => unfold hexTo; exact Goes.okk (by omega) (by omega)
      | succ m => exact (hex_goes (m + 1) (i + 1) _ (by omega)).le (by omega)
theorem escI_end : escI (-1) = -1 := by decide
theorem char_goes {s : ByteArray} {i : Nat} : Goes s i (charTo s i) := by
  unfold charTo
  split
  · rename_i h
    have hi : i < s.size := by
      rcases Nat.lt_or_ge i s.size with h1 | h1
      · exact h1
      · rw [pk_end h1, escI_end] at h; omega
    exact Goes.okk (by omega) (by omega)
  · split
    · exact Goes.bad
    · split
      · exact Goes.bad
      · rename_i n k hk
        have hg := hex_goes 4 (i + 1) 0 (by omega) n k hk
        split
        · exact Goes.okk (by omega) (by omega)
        · split
          · split
            · exact Goes.bad
            · rename_i m k2 hk2
              have hg2 := hex_goes 4 (k + 2) 0 (by omega) m k2 hk2
              split
              · exact Goes.okk (by omega) (by omega)
              · exact Goes.bad
          · exact Goes.bad
theorem dec_bounds (s : ByteArray) (i : Nat) (hi : i < s.size) : 0 < (Utf8.decode s i).2 ∧ i + (Utf8.decode s i).2 ≤ s.size := by
  unfold Utf8.decode
  simp only
  split
  · exact ⟨Nat.succ_pos _, by show i + 1 ≤ s.size; omega⟩
  · split
    · rename_i h
      simp only [Bool.and_eq_true, decide_eq_true_eq] at h
      split
      · exact ⟨Nat.succ_pos _, by show i + 2 ≤ s.size; omega⟩
      · exact ⟨Nat.succ_pos _, by show i + 1 ≤ s.size; omega⟩
    · split
      · rename_i h
        simp only [Bool.and_eq_true, decide_eq_true_eq] at h
        split
        · exact ⟨Nat.succ_pos _, by show i + 3 ≤ s.size; omega⟩
        · exact ⟨Nat.succ_pos _, by show i + 1 ≤ s.size; omega⟩
      · split
        · rename_i h
          simp only [Bool.and_eq_true, decide_eq_true_eq] at h
          split
          · exact ⟨Nat.succ_pos _, by show i + 4 ≤ s.size; omega⟩
          · exact ⟨Nat.succ_pos _, by show i + 1 ≤ s.size; omega⟩
        · exact ⟨Nat.succ_pos _, by show i + 1 ≤ s.size; omega⟩
theorem decodeGo_at (s : ByteArray) (i : Nat) (hi : i < s.size) : Lib.decodeGo (s.extract i s.size) = Utf8.decode s i := by
  unfold Lib.decodeGo
  rw [if_neg (by simp; omega), Lib.tail_decode, Nat.add_zero]
theorem textL_goes {s : ByteArray} : ∀ (n i : Nat) (acc : List UInt8), s.size < i + n → Goes s i (textL s n i acc)
  | 0, i, acc, hn => Goes.bad
  | n + 1, i, acc, hn => by
    unfold textL
    split
    · exact Goes.bad
    · rename_i h1
      have hi : i < s.size := pk_lt' (by omega)
      split
      · exact Goes.okk (by omega) (by omega)
      · split
        · split
          · exact Goes.bad
          · rename_i x k hk
            have hg := char_goes x k hk
            exact (textL_goes n k _ (by omega)).le (by omega)
        · split
          · exact Goes.bad
          · rename_i h2
            have hd := dec_bounds s i hi
            exact (textL_goes n _ _ (by omega)).le (by omega)
theorem text_goes {s : ByteArray} {i : Nat} (hi : i < s.size) : Goes s i (textTo s i) := (textL_goes _ _ _ (by omega)).le (by omega)
theorem skip_ge {s : ByteArray} {i : Nat} : i ≤ skipTo s i := overTo_ge
theorem skip_le {s : ByteArray} {i : Nat} (h : i ≤ s.size) : skipTo s i ≤ s.size := overTo_le h
theorem eachL_goes {σ : Type} {s : ByteArray} {endc : Int} (he : 0 ≤ endc) {step : Nat → σ → Out σ} (hst : ∀ i x, Goes s i (step i x)) : ∀ (n i : Nat) (x : σ), Goes s i (eachL s endc step n i x)
  | 0, i, x => Goes.bad
  | n + 1, i, x => by
    unfold eachL
    split
    · exact Goes.bad
    · rename_i y k hk
      have hg := hst i x y k hk
      have h1 := skip_ge (s := s) (i := k)
      split
      · rename_i h2
        have := pk_lt h2 he
        exact Goes.okk (by omega) (by omega)
      · split
        · have h3 := skip_ge (s := s) (i := skipTo s k + 1)
          exact (eachL_goes he hst n _ y).le (by omega)
        · exact Goes.bad
theorem each_goes {σ : Type} {s : ByteArray} {endc : Int} (he : 0 ≤ endc) {step : Nat → σ → Out σ} (hst : ∀ i x, Goes s i (step i x)) (i : Nat) (x : σ) : Goes s i (eachTo s endc step i x) := by
  unfold eachTo
  have h1 := skip_ge (s := s) (i := i + 1)
  split
  · rename_i h2
    have := pk_lt h2 he
    exact Goes.okk (by omega) (by omega)
  · exact (eachL_goes he hst _ _ x).le (by omega)
theorem list_goes {s : ByteArray} {f : Nat → Out JT} (hf : ∀ i, Goes s i (f i)) (i : Nat) (l : List JT) : Goes s i (listStep f i l) := (hf i).map
theorem bt_colon : ∀ k, 0 ≤ bt ⟨#[58]⟩ k := fun k => bt_nonneg _ _
theorem obj_goes {s : ByteArray} {f : Nat → Out JT} (hf : ∀ i, Goes s i (f i)) (i : Nat) (x : List ByteArray × List JT) : Goes s i (objStep s f i x) := by
  unfold objStep
  split
  · rename_i h0
    have hi := pk_lt h0 (by omega)
    split
    · exact Goes.bad
    · rename_i nm k hk
      have hg := text_goes hi nm k hk
      have h1 := skip_ge (s := s) (i := k)
      split
      · exact Goes.bad
      · split
        · exact Goes.bad
        · rename_i k2 hk2
          have hg2 := word_goes 1 (skipTo s k) (by omega) bt_colon () k2 hk2
          have h3 := skip_ge (s := s) (i := k2)
          exact (hf _).map.le (by omega)
  · exact Goes.bad
theorem value_goes {s : ByteArray} : ∀ (d i : Nat), Goes s i (valueTo s d i)
  | d, i => by
    unfold valueTo
    split
    · exact (word_goes 4 i (by omega) (fun k => bt_nonneg _ _)).map
    · split
      · exact (word_goes 4 i (by omega) (fun k => bt_nonneg _ _)).map
      · split
        · exact (word_goes 5 i (by omega) (fun k => bt_nonneg _ _)).map
        · split
          · exact num_goes.map
          · split
            · rename_i h0
              exact (text_goes (pk_lt h0 (by omega))).map
            · split
              · exact Goes.bad
              · cases d with
                | zero => exact Goes.bad
                | succ d =>
                  simp only
                  split
                  · exact (each_goes (by omega) (list_goes (value_goes d)) _ _).map
                  · exact (each_goes (by omega) (obj_goes (value_goes d)) _ _).map
end Go.Proofs.YtnjhmnolngdfaaaGreatDoor
