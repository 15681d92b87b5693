/- The document's layer 1, walked: coveyref01.Points, coveyref01.Bad; what is sound is what Go takes for valid. Layer 2: what a reader of a JSON text answers, in plain words (no program in sight): the -/
import Derived.Test.YtnjhmnolngdfaaaGreatDoorQ02
import Derived.Test.YtnjhmnolngdfaaaGreatDoorQ00
import Derived.PlainAid
import Derived.Lib.RuneBytes
import Derived.Shelf.Unicode.DecodeSlow
import Derived.Lib.RuneCountTail
import Derived.Test.YtnjhmnolngdfaaaGreatDoorQZip
set_option linter.unusedVariables false
set_option linter.unusedSimpArgs false
set_option maxHeartbeats 16000000
set_option maxRecDepth 100000
namespace Go.Proofs.YtnjhmnolngdfaaaGreatDoor
open Go.RowKit Go.PlainAid
def qBv (s : ByteArray) : Nat → Nat → Int
  | 0, _ => -1
  | n + 1, i => if i < s.size then (if (Utf8.decode s i).1 = 65533 ∧ (Utf8.decode s i).2 ≤ 1 then (i : Int) else qBv s n (i + (Utf8.decode s i).2)) else -1
def qCk (s : ByteArray) : Int := qBv s s.size 0
theorem qNN {s : ByteArray} {n i : Nat} (h : ¬ i < s.size) : qBv s n i = -1 := by
  cases n with
  | zero => rfl
  | succ n => unfold qBv; rw [if_neg h]
theorem qKk {s : ByteArray} {n i : Nat} (h : i < s.size) (hb : qDq s i) : qBv s (n + 1) i = i := by
  unfold qDq at hb; unfold qBv; rw [if_pos h, if_pos hb]
theorem qOL {s : ByteArray} {n i : Nat} (h : i < s.size) (hb : ¬ qDq s i) : qBv s (n + 1) i = qBv s n (i + (Utf8.decode s i).2) := by
  unfold qDq at hb
  conv => lhs; unfold qBv
  rw [if_pos h, if_neg hb]
theorem qFm (s : ByteArray) (i : Nat) (hi : i < s.size) : 0 < (Utf8.decode s i).2 ∧ i + (Utf8.decode s i).2 ≤ s.size := by
  rw [← Lib.decodeL_drop]
  have hne : s.data.toList.drop i ≠ [] := by
    intro h; rw [List.drop_eq_nil_iff] at h; (have : s.data.toList.length = s.size := by simp); omega
  have h1 := Lib.decodeL_width (s.data.toList.drop i); have h2 := Lib.decodeL_le _ hne; rw [List.length_drop] at h2; (have : s.data.toList.length = s.size := by simp); omega
theorem qLd : (Tryz.prog.info? 3).map (fun i => (i.zero, i.size, i.bytes)) = some (some (.int .i64 0), 1, 8) := by kernel_rfl
theorem qHj : ∃ ie, Tryz.prog.info? 3 = some ie ∧ ie.zero = some (.int .i64 0) ∧ ie.size = 1 ∧ ie.bytes = 8 := by
  have h := qLd
  cases hq : Tryz.prog.info? 3 with
  | none => rw [hq] at h; cases h
  | some ie =>
    rw [hq] at h; simp only [Option.map_some, Option.some.injEq, Prod.mk.injEq] at h; exact ⟨ie, rfl, h.1, h.2.1, h.2.2⟩
theorem qHl (p : Int) : Instr.fill (fun i => some (i * 1, 1)) ((Array.range (1 * 1)).map ((Value.int .i64 0).cells[· % (Value.int .i64 0).cells.size]!)) [(0, .int .i64 p)] = some #[.int .i64 p] := by kernel_rfl
def qPf (s : ByteArray) (w : World) (e : Ending) (w' : World) : Prop := (∃ v, e = .returned (.tuple #[v, .int .i64 (qCk s)])) ∧ Below w.heap.size w w'
theorem qPf.of {s : ByteArray} {w w' : World} {v : Value} {x : Int} (h : qCk s = x) (hb : Below w.heap.size w w') : qPf s w (.returned (.tuple #[v, .int .i64 x])) w' := by subst h; exact ⟨⟨v, rfl⟩, hb⟩
theorem qJb {s : ByteArray} (hs : s.size ≤ 17592186044400) (w : World) : Calls Tryz.prog 71 #[.string s] w (qPf s w) := by
 obtain ⟨ie, hie1, hie2, hie3, hie4⟩ := qHj; go_enter Tryz.func71, Tryz.ntmps71; go_wp2
 go_loopw [4, 5] (fun ov av wr => ∃ (k n m : Nat) (v : Value) (xs : List Value), v = ov ∧ av = .int .i64 k ∧ k ≤ s.size ∧ wr.ownsRow w.heap.size 3 1 v m xs ∧ m ≤ k ∧ s.size ≤ k + n ∧ Hid (qBv s n k = qCk s) ∧ Below w.heap.size w wr) (fun _ av _ => s.size - (intOf av).toNat)
 case atStart => exact ⟨0, s.size, 0, _, [], rfl, rfl, Nat.zero_le _, ⟨rfl, .inl ⟨rfl, rfl⟩⟩, Nat.le_refl _, by omega, Lib.hid rfl, Below.refl _ _⟩
 case round =>
  obtain ⟨k, n, m, v, xs, rfl, rfl, hk, HO, hmk, hkn, HS, HB⟩ := hrel
  by_cases hlt : k < s.size
  ·(have hkr : s.size ≤ 140737488355328 := by omega); (have hlt' : (k : Int) < (s.size : Int) := by omega); obtain ⟨n2, hn2⟩ : ∃ n2, n = n2 + 1 := ⟨n - 1, by omega⟩; subst hn2
   by_cases hbu : qDq s k
   ·have HK := Lib.hid (HS.out.symm.trans (qKk hlt hbu)); have HA := Lib.hid (qID hbu); clear hbu
    go_wp2_with (go_at_call 91; (with_reducible refine (qIb hlt hkr _).mono ?_); rintro e w2 ⟨rfl, hb⟩; rw [HA.out]; replace HB := zT HB hb; clear hb)
    go_ret2; exact qPf.of HK.out HB
   ·have hd := qFm s k hlt; have HS2 : Hid (qBv s n2 (k + (Utf8.decode s k).2) = qCk s) := Lib.hid ((qOL hlt hbu).symm.trans HS.out); have hat := qJS hbu; obtain ⟨D1, D2, hD⟩ : ∃ D1 D2, Utf8.decode s k = (D1, D2) := ⟨_, _, rfl⟩; rw [hD] at hat hd HS2; have hd0 : 0 < D2 := hd.1; have hdl : k + D2 ≤ s.size := hd.2; have HS3 : Hid (qBv s n2 (k + D2) = qCk s) := HS2; (have hd1 : ¬ (D2 : Int) = 0 := by omega); (have hd2 : (k : Int) + (D2 : Int) ≤ (s.size : Int) := by omega); have HA := Lib.hid hat; clear hat hD hbu hd HS HS2
    go_wp2_with (first
     | (go_at_call 91; (with_reducible refine (qIb hlt hkr _).mono ?_); rintro e w2 ⟨rfl, hb⟩; rw [HA.out]; have hbz := HB.size; replace HO := qBY HO (hb.mono (Nat.le_refl _)); replace HB := zT HB hb; clear hb hbz)
     | ((with_reducible refine qAm ?_); refine qAU 1 [(0, .int .i64 (D1 : Int))] #[.int .i64 (D1 : Int)] ie _ (by rw [hie3]; exact qHl _) rfl 106 3 _ rfl rfl Tryz.underlying106 hie1 hie2 (by rw [hie3]; decide) (by rw [hie3]; decide) ?_; intro w9 hw; have hb := qAD hw; have B9 := (qAC hw).1; clear hw; replace HO := qBY HO hb; replace HB := zT HB hb; clear hb; have hbz := HB.size)
     | (at_builtin; refine qDH rfl (.tmp 22) (.tmp 24) 106 rfl w.heap.size 3 ie _ 1 8 Tryz.underlying106 hie1 hie2 hie3 hie4 rfl (by decide) v m xs rfl HO _ 1 #[.int .i64 (D1 : Int)] _ B9 rfl rfl (by simp [Value.oneCell']) (by unfold maxLen; omega) (by omega) hbz ?_; intro v9 w10 ho9 hb9; replace HO := ho9; replace HB := HB.trans hb9; clear ho9 hb9 B9 hbz))
    go_roundw
    case rel => exact ⟨k + D2, n2, m + 1, v9, _, rfl, by go_num, hdl, HO, by omega, by omega, HS3, HB⟩
    case measure => simp [intOf]; omega
  ·(have hlt' : ¬ (k : Int) < (s.size : Int) := by omega); have HK := Lib.hid (HS.out.symm.trans (qNN hlt)); go_wp2; go_ret2; exact qPf.of HK.out HB
theorem qGh {s : ByteArray} (hs : s.size ≤ 17592186044400) (w : World) : Calls Tryz.prog 47 #[.string s] w fun e w' => e = .returned (.int .i64 (qCk s)) ∧ Below w.heap.size w w' := by
  go_enter Tryz.func47, Tryz.ntmps47
  go_wp2_with (go_at_call 71; (with_reducible refine (qJb hs _).mono ?_); rintro e w2 ⟨⟨v, rfl⟩, hb⟩)
  go_ret; exact ⟨rfl, hb⟩
end Go.Proofs.YtnjhmnolngdfaaaGreatDoor
namespace Go.Proofs.YtnjhmnolngdfaaaGreatDoor
open Go.RowKit Go.PlainAid
inductive Out (α : Type) where
  | ok (x : α) (k : Nat)
  | bad (c : Int) (p : Nat)
def Out.map {α β : Type} (f : α → β) : Out α → Out β
  | .ok x k => .ok (f x) k
  | .bad c p => .bad c p
def pk (s : ByteArray) (i : Nat) : Int := if i < s.size then bt s i else -1
def qCW (c : Int) : Bool := decide (c = 32) || decide (c = 10) || decide (c = 13) || decide (c = 9)
def qBa (c : Int) : Bool := decide (48 ≤ c) && decide (c ≤ 57)
def qFg (p : Int → Bool) (s : ByteArray) : Nat → Nat → Nat
  | 0, i => i
  | n + 1, i => if p (pk s i) = true then qFg p s n (i + 1) else i
def qBX (p : Int → Bool) (s : ByteArray) (i : Nat) : Nat := qFg p s (s.size - i) i
def qAd (s : ByteArray) (i : Nat) : Nat := qBX qCW s i
theorem qBb {s : ByteArray} {i : Nat} (h : s.size ≤ i) : pk s i = -1 := by unfold pk; rw [if_neg (by omega)]
theorem qBh {s : ByteArray} {i : Nat} (h : i < s.size) : pk s i = bt s i := by unfold pk; rw [if_pos h]
theorem qBu {p : Int → Bool} {s : ByteArray} {i : Nat} (h : p (pk s i) = false) : qBX p s i = i := by
  unfold qBX
  cases hn : s.size - i with
  | zero => rfl
  | succ n => unfold qFg; rw [if_neg (by rw [h]; decide)]
theorem qCU {p : Int → Bool} {s : ByteArray} {i : Nat} (hi : i < s.size) (h : p (pk s i) = true) : qBX p s i = qBX p s (i + 1) := by
  unfold qBX; rw [show s.size - i = (s.size - (i + 1)) + 1 by omega]
  conv => lhs; unfold qFg
  rw [if_pos h]
theorem qDM {p : Int → Bool} {s : ByteArray} : ∀ (n i : Nat), n = s.size - i → i ≤ qFg p s n i ∧ (i ≤ s.size → qFg p s n i ≤ s.size)
  | 0, i, _ => by unfold qFg; exact ⟨Nat.le_refl _, fun h => h⟩
  | n + 1, i, hn => by
    unfold qFg
    split
    · have := qDM (p := p) (s := s) n (i + 1) (by omega); exact ⟨by omega, fun h => this.2 (by omega)⟩
    · exact ⟨Nat.le_refl _, fun h => h⟩
theorem qHF {p : Int → Bool} {s : ByteArray} {i : Nat} : i ≤ qBX p s i := (qDM _ _ rfl).1
theorem qFj {p : Int → Bool} {s : ByteArray} {i : Nat} (h : i ≤ s.size) : qBX p s i ≤ s.size := (qDM _ _ rfl).2 h
def qBF (s w : ByteArray) : Nat → Nat → Out Unit
  | 0, i => .ok () i
  | n + 1, i => if pk s i = bt w (w.size - (n + 1)) then qBF s w n (i + 1) else .bad 3 i
def qBW (s : ByteArray) : Nat → Nat → Int → Int
  | 0, j, v => v
  | n + 1, j, v => qBW s n (j + 1) (10 * v + (bt s j - 48))
def qBO (s : ByteArray) (j : Nat) : Nat := if pk s j = 48 then j + 1 else qBX qBa s j
def qA2 (s : ByteArray) (j : Nat) : Int := qBW s (qBO s j - j) j 0
def qCm (s : ByteArray) (neg : Bool) (i j : Nat) : Out Int :=
  if qBa (pk s j) = false then .bad 3 j
  else if qA2 s j > 9007199254740991 then .bad 5 i
  else .ok (if neg = true then -qA2 s j else qA2 s j) (qBO s j)
def qBo (s : ByteArray) (i : Nat) : Out Int := if pk s i = 45 then qCm s true i (i + 1) else qCm s false i i
def qCZ (c : Int) : Int := if qBa c = true then c - 48 else if decide (97 ≤ c) && decide (c ≤ 102) then c - 87 else if decide (65 ≤ c) && decide (c ≤ 70) then c - 55 else -1
def qAv (s : ByteArray) : Nat → Nat → Int → Out Int
  | 0, i, v => .ok v i
  | n + 1, i, v => if qCZ (pk s i) < 0 then .bad 3 i else qAv s n (i + 1) (16 * v + qCZ (pk s i))
def qEu (c : Int) : Int := if c = 34 then 34 else if c = 92 then 92 else if c = 47 then 47 else if c = 98 then 8 else if c = 102 then 12 else if c = 110 then 10 else if c = 114 then 13 else if c = 116 then 9 else -1
def qA0 (s : ByteArray) (i : Nat) : Out Int :=
  if qEu (pk s i) ≥ 0 then .ok (qEu (pk s i)) (i + 1)
  else if pk s i ≠ 117 then .bad 3 i
  else match qAv s 4 (i + 1) 0 with
    | .bad c p => .bad c p
    | .ok n k =>
      if n < 55296 ∨ 57343 < n then .ok n k
      else if pk s k = 92 ∧ pk s (k + 1) = 117 then
        match qAv s 4 (k + 2) 0 with
        | .bad _ _ => .bad 7 (i - 1)
        | .ok m k2 => if n ≤ 56319 ∧ 56320 ≤ m ∧ m ≤ 57343 then .ok (65536 + 1024 * (n - 55296) + (m - 56320)) k2 else .bad 7 (i - 1)
      else .bad 7 (i - 1)
end Go.Proofs.YtnjhmnolngdfaaaGreatDoor
namespace Go.Proofs.YtnjhmnolngdfaaaGreatDoor
open Go.RowKit Go.PlainAid
def qBM (s : ByteArray) : Nat → Nat → List UInt8 → Out ByteArray
  | 0, i, _ => .bad 0 i
  | n + 1, i, acc =>
    if pk s i < 32 then .bad 3 i
    else if pk s i = 34 then .ok ⟨acc.toArray⟩ (i + 1)
    else if pk s i = 92 then
      match qA0 s (i + 1) with
      | .bad c p => .bad c p
      | .ok x k => qBM s n k (acc ++ Lib.encodeRune x)
    else if (Utf8.decode s i).1 = 65533 ∧ (Utf8.decode s i).2 ≤ 1 then .bad 7 i
    else qBM s n (i + (Utf8.decode s i).2) (acc ++ Lib.encodeRune ((Utf8.decode s i).1 : Nat))
def qBK (s : ByteArray) (i : Nat) : Out ByteArray := qBM s (s.size + 1) (i + 1) []
def qBU {σ : Type} (s : ByteArray) (endc : Int) (step : Nat → σ → Out σ) : Nat → Nat → σ → Out σ
  | 0, i, _ => .bad 0 i
  | n + 1, i, x => match step i x with
    | .bad c p => .bad c p
    | .ok y k =>
      if pk s (qAd s k) = endc then .ok y (qAd s k + 1)
      else if pk s (qAd s k) = 44 then qBU s endc step n (qAd s (qAd s k + 1)) y
      else .bad 3 (qAd s k)
def qAx {σ : Type} (s : ByteArray) (endc : Int) (step : Nat → σ → Out σ) (i : Nat) (x : σ) : Out σ :=
  if pk s (qAd s (i + 1)) = endc then .ok x (qAd s (i + 1) + 1) else qBU s endc step (s.size + 1) (qAd s (i + 1)) x
def qAo (f : Nat → Out JT) (i : Nat) (l : List JT) : Out (List JT) := (f i).map fun t => l ++ [t]
def qCP (l : List ByteArray) (nm : ByteArray) : Bool := l.any fun m => m.toList == nm.toList
def qAg (s : ByteArray) (f : Nat → Out JT) (i : Nat) (x : List ByteArray × List JT) : Out (List ByteArray × List JT) :=
  if pk s i = 34 then
    match qBK s i with
    | .bad c p => .bad c p
    | .ok nm k =>
      if qCP x.1 nm = true then .bad 6 i
      else match qBF s ⟨#[58]⟩ 1 (qAd s k) with
        | .bad c p => .bad c p
        | .ok _ k2 => (f (qAd s k2)).map fun t => (x.1 ++ [nm], x.2 ++ [t])
  else .bad 3 i
def qJf : JT := .mk 0 false 0 ⟨#[]⟩ [] [] []
def qFu (b : Bool) : JT := .mk 1 b 0 ⟨#[]⟩ [] [] []
def qOD (n : Int) : JT := .mk 2 false n ⟨#[]⟩ [] [] []
def qKb (t : ByteArray) : JT := .mk 3 false 0 t [] [] []
def qJx (l : List JT) : JT := .mk 4 false 0 ⟨#[]⟩ l [] []
def qOk (x : List ByteArray × List JT) : JT := .mk 5 false 0 ⟨#[]⟩ [] x.1 x.2
def qF0 : ByteArray := ⟨#[110, 117, 108, 108]⟩
def qFz : ByteArray := ⟨#[116, 114, 117, 101]⟩
def qDt : ByteArray := ⟨#[102, 97, 108, 115, 101]⟩
def qAJ (s : ByteArray) (d i : Nat) : Out JT :=
  if pk s i = 110 then (qBF s qF0 4 i).map fun _ => qJf
  else if pk s i = 116 then (qBF s qFz 4 i).map fun _ => qFu true
  else if pk s i = 102 then (qBF s qDt 5 i).map fun _ => qFu false
  else if pk s i = 45 ∨ qBa (pk s i) = true then (qBo s i).map qOD
  else if pk s i = 34 then (qBK s i).map qKb
  else if pk s i ≠ 91 ∧ pk s i ≠ 123 then .bad 3 i
  else match d with
    | 0 => .bad 4 i
    | d + 1 => if pk s i = 91 then (qAx s 93 (qAo (qAJ s d)) i []).map qJx else (qAx s 125 (qAg s (qAJ s d)) i ([], [])).map qOk
def qBZ (s : ByteArray) : Out JT :=
  match qAJ s 32 (qAd s 0) with
  | .bad c p => .bad c p
  | .ok t k => if qAd s k < s.size then .bad 3 (qAd s k) else .ok t (qAd s k)
def qB0 {α : Type} (s : ByteArray) (i : Nat) (o : Out α) : Prop := ∀ x k, o = .ok x k → i < k ∧ k ≤ s.size
theorem qB0.bad {α : Type} {s : ByteArray} {i : Nat} {c : Int} {p : Nat} : qB0 s i (.bad c p : Out α) := fun _ _ h => nomatch h
theorem qB0.okk {α : Type} {s : ByteArray} {i : Nat} {x : α} {k : Nat} (h : i < k) (h2 : k ≤ s.size) : qB0 s i (.ok x k) := fun _ _ h3 => by injection h3 with h4 h5; subst h5; exact ⟨h, h2⟩
theorem qB0.map {α β : Type} {s : ByteArray} {i : Nat} {o : Out α} {f : α → β} (h : qB0 s i o) : qB0 s i (o.map f) := by
  cases o with
  | bad c p => exact qB0.bad
  | ok x k => exact qB0.okk (h x k rfl).1 (h x k rfl).2
theorem qB0.le {α : Type} {s : ByteArray} {i j : Nat} {o : Out α} (h : qB0 s i o) (hj : j ≤ i) : qB0 s j o := fun x k hk => ⟨Nat.lt_of_le_of_lt hj (h x k hk).1, (h x k hk).2⟩
theorem qC1 {s : ByteArray} {i : Nat} {c : Int} (h : pk s i = c) (hc : 0 ≤ c) : i < s.size := by
  rcases Nat.lt_or_ge i s.size with h1 | h1
  · exact h1
  · rw [qBb h1] at h; omega
theorem qHf {s : ByteArray} {i : Nat} (h : 0 ≤ pk s i) : i < s.size := qC1 rfl h
theorem qK7 {s : ByteArray} {i : Nat} (h : qBa (pk s i) = true) : i < s.size := by
  unfold qBa at h; simp at h; exact qHf (by omega)
theorem qB2 {s v : ByteArray} : ∀ (n i : Nat), 0 < n → (∀ k, 0 ≤ bt v k) → qB0 s i (qBF s v n i)
  | 0, i, h, _ => absurd h (by omega)
  | n + 1, i, _, hv => by
    unfold qBF
    split
    · rename_i h; have hi := qC1 h (hv _)
      cases n with
      | zero => unfold qBF; exact qB0.okk (by omega) (by omega)
      | succ m => exact (qB2 (m + 1) (i + 1) (by omega) hv).le (by omega)
    · exact qB0.bad
theorem qB1 {s : ByteArray} {j : Nat} (h : qBa (pk s j) = true) : j < qBO s j ∧ qBO s j ≤ s.size := by
  have hj := qK7 h; have h1 := qCU hj h; have h2 := qHF (p := qBa) (s := s) (i := j + 1); have h3 := qFj (p := qBa) (s := s) (Nat.le_of_lt hj); unfold qBO
  split <;> omega
theorem qF5 {s : ByteArray} {neg : Bool} {i j : Nat} : qB0 s j (qCm s neg i j) := by
  unfold qCm
  split
  · exact qB0.bad
  · rename_i h; simp only [Bool.not_eq_false] at h
    split
    · exact qB0.bad
    · exact qB0.okk (qB1 h).1 (qB1 h).2
theorem qMc {s : ByteArray} {i : Nat} : qB0 s i (qBo s i) := by
  unfold qBo
  split
  · exact qF5.le (by omega)
  · exact qF5
theorem qL7 : qCZ (-1) = -1 := by decide
theorem qCc {s : ByteArray} : ∀ (n i : Nat) (v : Int), 0 < n → qB0 s i (qAv s n i v)
 | 0, _, _, h => absurd h (by omega)
 | n + 1, i, v, _ => by
  unfold qAv
  split
  ·exact qB0.bad
  ·rename_i h
   have hi : i < s.size := by
    rcases Nat.lt_or_ge i s.size with h1 | h1
    ·exact h1
    ·rw [qBb h1, qL7] at h; omega
   cases n with
   | zero => unfold qAv; exact qB0.okk (by omega) (by omega)
   | succ m => exact (qCc (m + 1) (i + 1) _ (by omega)).le (by omega)
theorem qMg : qEu (-1) = -1 := by decide
theorem qCT {s : ByteArray} {i : Nat} : qB0 s i (qA0 s i) := by
 unfold qA0
 split
 ·rename_i h
  have hi : i < s.size := by
   rcases Nat.lt_or_ge i s.size with h1 | h1
   ·exact h1
   ·rw [qBb h1, qMg] at h; omega
  exact qB0.okk (by omega) (by omega)
 ·split
  ·exact qB0.bad
  ·split
   ·exact qB0.bad
   ·rename_i n k hk; have hg := qCc 4 (i + 1) 0 (by omega) n k hk
    split
    ·exact qB0.okk (by omega) (by omega)
    ·split
     ·split
      ·exact qB0.bad
      ·rename_i m k2 hk2; have hg2 := qCc 4 (k + 2) 0 (by omega) m k2 hk2
       split
       ·exact qB0.okk (by omega) (by omega)
       ·exact qB0.bad
     ·exact qB0.bad
theorem qB8 (s : ByteArray) (i : Nat) (hi : i < s.size) : 0 < (Utf8.decode s i).2 ∧ i + (Utf8.decode s i).2 ≤ s.size := by
 unfold Utf8.decode; simp only
 split
 ·exact ⟨Nat.succ_pos _, by show i + 1 ≤ s.size; omega⟩
 ·split
  ·rename_i h; simp only [Bool.and_eq_true, decide_eq_true_eq] at h
   split
   ·exact ⟨Nat.succ_pos _, by show i + 2 ≤ s.size; omega⟩
   ·exact ⟨Nat.succ_pos _, by show i + 1 ≤ s.size; omega⟩
  ·split
   ·rename_i h; simp only [Bool.and_eq_true, decide_eq_true_eq] at h
    split
    ·exact ⟨Nat.succ_pos _, by show i + 3 ≤ s.size; omega⟩
    ·exact ⟨Nat.succ_pos _, by show i + 1 ≤ s.size; omega⟩
   ·split
    ·rename_i h; simp only [Bool.and_eq_true, decide_eq_true_eq] at h
     split
     ·exact ⟨Nat.succ_pos _, by show i + 4 ≤ s.size; omega⟩
     ·exact ⟨Nat.succ_pos _, by show i + 1 ≤ s.size; omega⟩
    ·exact ⟨Nat.succ_pos _, by show i + 1 ≤ s.size; omega⟩
theorem qFk (s : ByteArray) (i : Nat) (hi : i < s.size) : Lib.decodeGo (s.extract i s.size) = Utf8.decode s i := by
  unfold Lib.decodeGo; rw [if_neg (by simp; omega), Lib.tail_decode, Nat.add_zero]
theorem qEe {s : ByteArray} : ∀ (n i : Nat) (acc : List UInt8), s.size < i + n → qB0 s i (qBM s n i acc)
 | 0, i, acc, hn => qB0.bad
 | n + 1, i, acc, hn => by
  unfold qBM
  split
  ·exact qB0.bad
  ·rename_i h1; have hi : i < s.size := qHf (by omega)
   split
   ·exact qB0.okk (by omega) (by omega)
   ·split
    ·split
     ·exact qB0.bad
     ·rename_i x k hk; have hg := qCT x k hk; exact (qEe n k _ (by omega)).le (by omega)
    ·split
     ·exact qB0.bad
     ·rename_i h2; have hd := qB8 s i hi; exact (qEe n _ _ (by omega)).le (by omega)
theorem qCt {s : ByteArray} {i : Nat} (hi : i < s.size) : qB0 s i (qBK s i) := (qEe _ _ _ (by omega)).le (by omega)
theorem qBJ {s : ByteArray} {i : Nat} : i ≤ qAd s i := qHF
theorem qBg {s : ByteArray} {i : Nat} (h : i ≤ s.size) : qAd s i ≤ s.size := qFj h
theorem qGK {σ : Type} {s : ByteArray} {endc : Int} (he : 0 ≤ endc) {step : Nat → σ → Out σ} (hst : ∀ i x, qB0 s i (step i x)) : ∀ (n i : Nat) (x : σ), qB0 s i (qBU s endc step n i x)
 | 0, i, x => qB0.bad
 | n + 1, i, x => by
  unfold qBU
  split
  ·exact qB0.bad
  ·rename_i y k hk; have hg := hst i x y k hk; have h1 := qBJ (s := s) (i := k)
   split
   ·rename_i h2; have := qC1 h2 he; exact qB0.okk (by omega) (by omega)
   ·split
    ·have h3 := qBJ (s := s) (i := qAd s k + 1); exact (qGK he hst n _ y).le (by omega)
    ·exact qB0.bad
theorem qED {σ : Type} {s : ByteArray} {endc : Int} (he : 0 ≤ endc) {step : Nat → σ → Out σ} (hst : ∀ i x, qB0 s i (step i x)) (i : Nat) (x : σ) : qB0 s i (qAx s endc step i x) := by
  unfold qAx; have h1 := qBJ (s := s) (i := i + 1)
  split
  · rename_i h2; have := qC1 h2 he; exact qB0.okk (by omega) (by omega)
  · exact (qGK he hst _ _ x).le (by omega)
theorem qDV {s : ByteArray} {f : Nat → Out JT} (hf : ∀ i, qB0 s i (f i)) (i : Nat) (l : List JT) : qB0 s i (qAo f i l) := (hf i).map
theorem qDe : ∀ k, 0 ≤ bt ⟨#[58]⟩ k := fun k => bt_nonneg _ _
theorem qD5 {s : ByteArray} {f : Nat → Out JT} (hf : ∀ i, qB0 s i (f i)) (i : Nat) (x : List ByteArray × List JT) : qB0 s i (qAg s f i x) := by
 unfold qAg
 split
 ·rename_i h0; have hi := qC1 h0 (by omega)
  split
  ·exact qB0.bad
  ·rename_i nm k hk; have hg := qCt hi nm k hk; have h1 := qBJ (s := s) (i := k)
   split
   ·exact qB0.bad
   ·split
    ·exact qB0.bad
    ·rename_i k2 hk2; have hg2 := qB2 1 (qAd s k) (by omega) qDe () k2 hk2; have h3 := qBJ (s := s) (i := k2); exact (hf _).map.le (by omega)
 ·exact qB0.bad
theorem qA8 {s : ByteArray} : ∀ (d i : Nat), qB0 s i (qAJ s d i)
 | d, i => by
  unfold qAJ
  split
  ·exact (qB2 4 i (by omega) (fun k => bt_nonneg _ _)).map
  ·split
   ·exact (qB2 4 i (by omega) (fun k => bt_nonneg _ _)).map
   ·split
    ·exact (qB2 5 i (by omega) (fun k => bt_nonneg _ _)).map
    ·split
     ·exact qMc.map
     ·split
      ·rename_i h0; exact (qCt (qC1 h0 (by omega))).map
      ·split
       ·exact qB0.bad
       ·cases d with
        | zero => exact qB0.bad
        | succ d =>
         simp only
         split
         ·exact (qED (by omega) (qDV (qA8 d)) _ _).map
         ·exact (qED (by omega) (qD5 (qA8 d)) _ _).map
end Go.Proofs.YtnjhmnolngdfaaaGreatDoor
