/- Layer 2: the digits of a number, and what strconv.ParseInt makes of them (plain). Layer 2: the reader's small steps: peek, fail, word. Layer 2: the reader's steps that call the library: blanks. Lay -/
import Derived.Lib.ParseIntB
import Derived.Lib.ParseIntBCases
import Derived.Test.YtnjhmnolngdfaaaGreatDoorQ03
import Derived.Test.YtnjhmnolngdfaaaGreatDoorQ00
import Derived.Test.YtnjhmnolngdfaaaGreatDoorQ01
import Derived.Test.YtnjhmnolngdfaaaGreatDoorShelf
import Derived.Lib.ConvBytes
import Derived.Lib.AtoiErrMem
import Derived.Test.YtnjhmnolngdfaaaGreatDoorQZip
set_option linter.unusedVariables false
set_option linter.unusedSimpArgs false
set_option maxHeartbeats 16000000
set_option maxRecDepth 100000
namespace Go.Proofs.YtnjhmnolngdfaaaGreatDoor
open Go.RowKit Go.PlainAid
def qJj : Nat → List UInt8 → Nat
  | a, [] => a
  | a, c :: r => qJj (a * 10 + (c.toNat - 48)) r
def qO5 (l : List UInt8) : Prop := ∀ c ∈ l, 48 ≤ c.toNat ∧ c.toNat ≤ 57
theorem qLY : ∀ (l : List UInt8) (a : Nat), a ≤ qJj a l
  | [], a => Nat.le_refl _
  | c :: r, a => by unfold qJj; have := qLY r (a * 10 + (c.toNat - 48)); omega
theorem qIm : ∀ (l : List UInt8) (a : Nat), qO5 l → a ≤ 18446744073709551615 → Lib.parseUintM 18446744073709551615 a l = if qJj a l ≤ 18446744073709551615 then .ok (qJj a l) else .range
  | [], a, _, ha => by unfold Lib.parseUintM qJj; rw [if_pos ha]
  | c :: r, a, hd, ha => by
    have hc := hd c (by simp); have hg := qLY r (a * 10 + (c.toNat - 48)); (have hr : qO5 r := fun x hx => hd x (by simp [hx])); unfold Lib.parseUintM qJj; rw [if_pos hc]
    split
    · rw [if_neg (by omega)]
    · split
      · rw [if_neg (by omega)]
      · exact qIm r _ hr (by omega)
theorem qEK {s : ByteArray} {j k : Nat} (hj : j < k) (hk : k ≤ s.size) : (s.extract j k).data.toList = s[j] :: (s.extract (j + 1) k).data.toList := by
  apply List.ext_getElem
  · simp; omega
  · intro n h1 h2
    match n with
    | 0 => simp; rfl
    | m + 1 =>
      simp
      congr 1
      omega
theorem qNg {s : ByteArray} {j k : Nat} (hj : k ≤ j) : (s.extract j k).data.toList = [] := by
  apply List.eq_nil_of_length_eq_zero; simp; omega
theorem qJF {s : ByteArray} {k : Nat} (hk : k ≤ s.size) : ∀ (n j a : Nat), j + n = k → (∀ q, j ≤ q → q < k → qBa (pk s q) = true) → qBW s n j (a : Int) = (qJj a (s.extract j k).data.toList : Nat) ∧ qO5 (s.extract j k).data.toList
  | 0, j, a, hj, _ => by
    rw [qNg (by omega)]; exact ⟨rfl, fun c hc => by cases hc⟩
  | n + 1, j, a, hj, hd => by
    have h0 := hd j (Nat.le_refl _) (by omega); (have hj2 : j < s.size := by omega); rw [qBh hj2] at h0; unfold qBa at h0; simp only [Bool.and_eq_true, decide_eq_true_eq] at h0; (have hb : bt s j = ((s[j]).toNat : Int) := by unfold bt; rw [dif_pos hj2]); obtain ⟨h1, h2⟩ := qJF hk n (j + 1) (a * 10 + ((s[j]).toNat - 48)) (by omega) (fun q hq1 hq2 => hd q (by omega) hq2); rw [qEK (by omega) hk]; refine ⟨?_, fun c hc => ?_⟩
    · unfold qBW qJj; rw [← h1]
      congr 1
      omega
    · rcases List.mem_cons.1 hc with rfl | h
      · omega
      · exact h2 c h
theorem qIt {p : Int → Bool} {s : ByteArray} : ∀ (n i q : Nat), i ≤ q → q < qFg p s n i → p (pk s q) = true
  | 0, i, q, h1, h2 => by unfold qFg at h2; omega
  | n + 1, i, q, h1, h2 => by
    unfold qFg at h2
    split at h2
    · rename_i h; rcases Nat.eq_or_lt_of_le h1 with rfl | h3
      · exact h
      · exact qIt n (i + 1) q h3 h2
    · omega
theorem qL1 {s : ByteArray} {j : Nat} (h : qBa (pk s j) = true) : ∀ q, j ≤ q → q < qBO s j → qBa (pk s q) = true := fun q h1 h2 => by
  unfold qBO at h2
  split at h2
  · rw [show q = j by omega]; exact h
  · exact qIt _ _ q h1 h2
theorem qG1 {s : ByteArray} {j : Nat} (h : qBa (pk s j) = true) : qA2 s j = (qJj 0 (s.extract j (qBO s j)).data.toList : Nat) ∧ qO5 (s.extract j (qBO s j)).data.toList := by
  have hb := qB1 h; exact qJF hb.2 (qBO s j - j) j 0 (by omega) (qL1 h)
theorem qBk {s : ByteArray} {j : Nat} (h : qBa (pk s j) = true) : 0 ≤ qA2 s j := by rw [(qG1 h).1]; omega
theorem qMd {l : List UInt8} (hl : l ≠ []) (hd : qO5 l) : Lib.parseUintB 64 l = if qJj 0 l ≤ 18446744073709551615 then .ok (qJj 0 l) else .range := by
  unfold Lib.parseUintB; rw [if_neg hl]; exact qIm l 0 hd (by omega)
theorem qCr {s : ByteArray} {i j : Nat} (h : qBa (pk s j) = true) (hij : (pk s i = 45 ∧ j = i + 1) ∨ (pk s i ≠ 45 ∧ j = i)) :
    (Lib.parseIntB 64 (s.extract i (qBO s j)).data.toList = .ok (if pk s i = 45 then -qA2 s j else qA2 s j) ∧ qA2 s j ≤ 9223372036854775808) ∨ (Lib.parseIntB 64 (s.extract i (qBO s j)).data.toList = .range ∧ 9223372036854775808 ≤ qA2 s j) := by
  have hb := qB1 h; obtain ⟨hv, hd⟩ := qG1 h; (have hj2 : j < s.size := by omega); (have hne : (s.extract j (qBO s j)).data.toList ≠ [] := by rw [qEK hb.1 hb.2]; simp); have hu := qMd hne hd; have h0 := h; rw [qBh hj2] at h0; unfold qBa at h0; simp only [Bool.and_eq_true, decide_eq_true_eq] at h0; (have hbj : bt s j = ((s[j]).toNat : Int) := by unfold bt; rw [dif_pos hj2]); rw [hv]; generalize qJj 0 (s.extract j (qBO s j)).data.toList = D at *; rcases hij with ⟨h45, rfl⟩ | ⟨h45, rfl⟩
  · have hi2 : i < s.size := by omega
    have hc : (s[i]).toNat = 45 := by
      rw [qBh hi2] at h45; unfold bt at h45; rw [dif_pos hi2] at h45; omega
    rw [qEK (by omega) hb.2, if_pos h45]; unfold Lib.parseIntB; simp only [hc, or_true, if_true, hu]
    by_cases hD : D ≤ 18446744073709551615
    · rw [if_pos hD]
      by_cases h3 : 9223372036854775808 < D
      · exact .inr ⟨by simp; omega, by omega⟩
      · exact .inl ⟨by simp; omega, by omega⟩
    · rw [if_neg hD]; exact .inr ⟨rfl, by omega⟩
  · (have hc1 : (s[j]).toNat ≠ 43 := by omega); (have hc2 : (s[j]).toNat ≠ 45 := by omega); rw [qEK hb.1 hb.2, if_neg h45]; unfold Lib.parseIntB; simp only [hc1, hc2, or_false, if_false]; rw [← qEK hb.1 hb.2, hu]
    by_cases hD : D ≤ 18446744073709551615
    · rw [if_pos hD]
      by_cases h3 : 9223372036854775808 ≤ D
      · exact .inr ⟨by simp; omega, by omega⟩
      · exact .inl ⟨by simp; omega, by omega⟩
    · rw [if_neg hD]; exact .inr ⟨rfl, by omega⟩
end Go.Proofs.YtnjhmnolngdfaaaGreatDoor
namespace Go.Proofs.YtnjhmnolngdfaaaGreatDoor
open Go.RowKit Go.PlainAid
def Rd (w : World) (r : Nat) (s : ByteArray) (i : Nat) : Prop := qAW w r 70 #[.string s, .int .i64 i]
theorem Rd.lt {w : World} {r : Nat} {s : ByteArray} {i : Nat} (h : Rd w r s i) : r < w.heap.size := qAW.lt h
theorem Rd.c0 {w : World} {r : Nat} {s : ByteArray} {i : Nat} (h : Rd w r s i) : w.cell? ⟨r, 0, none⟩ = some (.string s) := qAW.cell h 0
theorem Rd.c1 {w : World} {r : Nat} {s : ByteArray} {i : Nat} (h : Rd w r s i) : w.cell? ⟨r, 1, none⟩ = some (.int .i64 i) := qAW.cell h 1
theorem Rd.below {w w' : World} {r : Nat} {s : ByteArray} {i : Nat} (h : Rd w r s i) (hb : Below w.heap.size w w') : Rd w' r s i := zI h hb
abbrev At (r : Nat) : Value := .pointer (some ⟨r, 0, none⟩)
abbrev Mv (r : Nat) (w w' : World) : Prop := Bes (fun k => k = r) w w'
theorem Mv.refl (r : Nat) (w : World) : Mv r w w := Bes.of_below (Below.refl _ _)
theorem Mv.trans {r : Nat} {a b c : World} (h : Mv r a b) (k : Mv r b c) : Mv r a c := Bes.trans h k (fun _ x => x) (fun _ _ x => x)
theorem Mv.of {r : Nat} {w w' : World} (h : Below w.heap.size w w') : Mv r w w' := Bes.of_below h
theorem qAr (r : Nat) (w : World) (n : Nat) : Mv r w (w.drewN n) := Mv.of ⟨rfl, rfl, rfl, Nat.le_refl _, fun _ _ => rfl⟩
theorem qHz (w : World) (n : Nat) : Below w.heap.size w (w.drewN n) := ⟨rfl, rfl, rfl, Nat.le_refl _, fun _ _ => rfl⟩
theorem Rd.drewN {w : World} {r : Nat} {s : ByteArray} {i : Nat} (h : Rd w r s i) (n : Nat) : Rd (w.drewN n) r s i := h
def qHW (w : World) (r : Nat) : Nat := match w.cell? ⟨r, 1, none⟩ with
  | some (.int _ k) => k.toNat
  | _ => 0
theorem Rd.at {w : World} {r : Nat} {s : ByteArray} {i : Nat} (h : Rd w r s i) : qHW w r = i := by unfold qHW; rw [h.c1]; simp
theorem Rd.step {w w' : World} {r : Nat} {s : ByteArray} {i k : Nat} (h : Rd w r s i) (hw : Hid (w' = w.setRow r (#[.string s, .int .i64 i].setIfInBounds 1 (.int .i64 k)))) : Rd w' r s k ∧ Mv r w w' :=
  ⟨qAQ hw h, Bes.row (X := fun k => k = r) hw rfl⟩
theorem Rd.f1 {w : World} {r : Nat} {s : ByteArray} {i : Nat} (h : Rd w r s i) : w.frozen? ⟨r, 1, none⟩ = false := qAW.frozen h 1
theorem Rd.set {w : World} {r : Nat} {s : ByteArray} {i : Nat} (h : Rd w r s i) {x : Int} {k : Nat} (hx : x = (k : Int)) : Rd (w.setCell ⟨r, 1, none⟩ (.int .i64 x)) r s k ∧ Mv r w (w.setCell ⟨r, 1, none⟩ (.int .i64 x)) := by
  subst hx; rw [setCell_eq_setRow w r 1 _ _ (0, 0) _ h]; exact Rd.step h (Lib.hid rfl)
theorem qH5 : (Tryz.prog.info? 3).map (·.size) = some 1 := by kernel_rfl
theorem qCE {w : World} {r : Nat} {s : ByteArray} {i : Nat} (h : Rd w r s i) :
    Calls Tryz.prog 55 #[At r] w fun e w' => e = .returned (.int .i64 (pk s i)) ∧ ∃ m, w' = w.drewN m := by
  have c0 := h.c0; have c1 := h.c1; have hb := get_bt s; have b0 := bt_nonneg s i; have b1 := bt_le s i
  by_cases hlt : i < s.size
  · (have hlt' : (i : Int) < (s.size : Int) := by omega); (have h0 : ¬ (i : Int) < 0 := by omega); go_enter Tryz.func55, Tryz.ntmps55; go_wp2
    go_quiet (fail)
    go_wp2
    go_quiet (fail)
    go_wp2; go_ret; exact ⟨by rw [qBh hlt]; rfl, _, World.drewN_drewN _ _ _⟩
  · (have hlt' : ¬ (i : Int) < (s.size : Int) := by omega); go_enter Tryz.func55, Tryz.ntmps55; go_wp2
    go_quiet (fail)
    go_wp2; go_ret; exact ⟨by rw [qBb (by omega)]; rfl, _, rfl⟩
def Pan (e : Ending) (w' : World) (c : Int) (p : Nat) : Prop := ∃ g, e = .panicked [{ v := .iface 66 (At g), recovered := false }] ∧ qAW w' g 96 #[.int .i64 p, .iface 31 (.int .i64 c)]
theorem qAz (r : Nat) (c : Int) (p : Nat) (w : World) : Calls Tryz.prog 39 #[At r, .int .i64 c, .int .i64 p] w fun e w' => Pan e w' c p ∧ Below w.heap.size w w' := by
  go_enter Tryz.func39, Tryz.ntmps39
  go_wp2_with (refine qAM rfl 96 (.tmp 9) rfl _ rfl ?_; intro w1 hw)
  exact ⟨rfl, ⟨_, rfl, (qAC hw).1⟩, qAD hw⟩
def Got {α : Type} (o : Out α) (r : Nat) (s : ByteArray) (w : World) (V : α → Ending → World → Prop) (e : Ending) (w' : World) : Prop :=
  Mv r w w' ∧ (match o with
    | .ok x k => V x e w' ∧ Rd w' r s k
    | .bad c p => Pan e w' c p)
theorem Got.ok {α : Type} {o : Out α} {r : Nat} {s : ByteArray} {w w' : World} {V : α → Ending → World → Prop} {e : Ending} {x : α} {k : Nat} (ho : o = .ok x k) (hm : Mv r w w') (hv : V x e w') (hr : Rd w' r s k) : Got o r s w V e w' := by subst ho; exact ⟨hm, hv, hr⟩
theorem Got.bad {α : Type} {o : Out α} {r : Nat} {s : ByteArray} {w w' : World} {V : α → Ending → World → Prop} {e : Ending} {c : Int} {p : Nat} (ho : o = .bad c p) (hm : Mv r w w') (hp : Pan e w' c p) : Got o r s w V e w' := by subst ho; exact ⟨hm, hp⟩
abbrev qJ0 (_ : Unit) (e : Ending) (_ : World) : Prop := e = .returned (.tuple #[])
theorem qCn {s : ByteArray} {k : Nat} (h : 0 ≤ pk s k) : k < s.size := by
  rcases Nat.lt_or_ge k s.size with h1 | h1
  · exact h1
  · rw [qBb h1] at h; omega
theorem qLg (s : ByteArray) (k : Nat) : pk s k ≤ 255 := by unfold pk; split; exact bt_le s k; omega
theorem qKR (s : ByteArray) (k : Nat) : -1 ≤ pk s k := by unfold pk; split; have := bt_nonneg s k; omega; omega
theorem qHe {s v : ByteArray} {j k : Nat} (hj : j < v.size) (h : pk s k = bt v j) : qBF s v (v.size - j) k = qBF s v (v.size - (j + 1)) (k + 1) := by
  rw [show v.size - j = (v.size - (j + 1)) + 1 by omega]
  conv => lhs; unfold qBF
  rw [if_pos (by rw [h]; congr 1; omega)]
theorem qGp {s v : ByteArray} {j k : Nat} (hj : j < v.size) (h : ¬ pk s k = bt v j) : qBF s v (v.size - j) k = .bad 3 k := by
  rw [show v.size - j = (v.size - (j + 1)) + 1 by omega]
  conv => lhs; unfold qBF
  rw [if_neg (by rw [show v.size - (v.size - (j + 1) + 1) = j by omega]; exact h)]
theorem qIs {s v : ByteArray} {j k : Nat} (hj : ¬ j < v.size) : qBF s v (v.size - j) k = .ok () k := by
  rw [show v.size - j = 0 by omega]; rfl
theorem qCO (v : ByteArray) {w : World} {r : Nat} {s : ByteArray} {i : Nat} (h : Rd w r s i) (hi : i ≤ s.size) (hs : s.size ≤ 65536) (hv : v.size ≤ 65536) :
    Calls Tryz.prog 56 #[At r, .string v] w (Got (qBF s v v.size i) r s w qJ0) := by
  have hbs := get_bt v; go_enter Tryz.func56, Tryz.ntmps56; go_wp2
  go_loopw [7] (fun iv wr => ∃ j k : Nat, iv = .int .i64 j ∧ j ≤ v.size ∧ k ≤ s.size ∧ Rd wr r s k ∧ Hid (qBF s v (v.size - j) k = qBF s v v.size i) ∧ Mv r w wr) (fun iv _ => v.size - (intOf iv).toNat)
  case atStart => exact ⟨0, i, rfl, Nat.zero_le _, hi, h, Lib.hid rfl, Mv.refl _ _⟩
  case round =>
    obtain ⟨j, k, rfl, hj, hk, HR, HS, HM⟩ := hrel; have c0 := HR.c0; have c1 := HR.c1; have f1 := HR.f1; have b0 := bt_nonneg v j; have b1 := bt_le v j
    by_cases hlt : j < v.size
    · (have hlt' : (j : Int) < (v.size : Int) := by omega); have h0 : ¬ (j : Int) < 0 := by omega
      by_cases hq : pk s k = bt v j
      · go_wp2
        go_quiet ((go_at_call 55; exact Calls.quiet_of (qCE (HR.drewN _))))
        go_wp2; have hk1 := qCn (by rw [hq]; exact b0); have HQ := (HR.drewN nq).set (x := (k : Int) + 1) (k := k + 1) (by omega); exact ⟨⟨j + 1, k + 1, by go_num, by omega, by omega, HQ.1, Lib.hid ((qHe hlt hq).symm.trans HS.out), (HM.trans (qAr r wr nq)).trans HQ.2⟩, by simp [intOf]; omega⟩
      · go_wp2
        go_quiet ((go_at_call 55; exact Calls.quiet_of (qCE (HR.drewN _))))
        go_wp2_with (go_at_call 39; (with_reducible refine (qAz _ _ _ _).mono ?_); rintro e w3 ⟨⟨g, rfl, hg⟩, hb⟩)
        exact ⟨rfl, Got.bad (HS.out ▸ qGp hlt hq) ((HM.trans (qAr r wr nq)).trans (Mv.of hb)) ⟨g, rfl, hg⟩⟩
    · go_wp2; exact bodyPost_ret (results_none rfl _ _ _) rfl (Got.ok (HS.out ▸ qIs hlt) HM rfl HR)
end Go.Proofs.YtnjhmnolngdfaaaGreatDoor
namespace Go.Proofs.YtnjhmnolngdfaaaGreatDoor
open Go.RowKit Go.PlainAid
theorem qEh {P : Program} {fn : Func} {R : Ending → World → Prop} {a : Act} {w : World} {v : Value}
    (hr : (results fn a.tmps).run P w = .ok v w) (hd : a.defers = []) (hR : R (.returned v) w) : bodyPost P fn R .normal a w := ⟨hd, v, hr, hR⟩
def bix (c : Int) : Int := Lib.indexByte (⟨#[32, 10, 13, 9]⟩ : ByteArray).data.toList c.toNat.toUInt8
theorem qOa : ∀ n : Nat, n < 256 → decide (0 ≤ bix (n : Int)) = qCW (n : Int) := by decide +kernel
theorem qNI {c : Int} (h0 : 0 ≤ c) (h1 : c ≤ 255) : decide (0 ≤ bix c) = qCW c := by
  have := qOa c.toNat (by omega)
  rwa [show ((c.toNat : Nat) : Int) = c by omega] at this
theorem qLn {s : ByteArray} {k : Nat} (h : qCW (bt s k) = false) (hk : k < s.size) : qAd s k = k := qBu (by rw [qBh hk]; exact h)
theorem qMb {s : ByteArray} {k : Nat} (hk : s.size ≤ k) : qAd s k = k := qBu (by rw [qBb hk]; rfl)
theorem qNc {s : ByteArray} {k : Nat} (hk : k < s.size) (h : qCW (bt s k) = true) : qAd s k = qAd s (k + 1) := qCU hk (by rw [qBh hk]; exact h)
theorem qHY (c : Int) (w : World) : Calls Tryz.prog 54 #[.string ⟨#[32, 10, 13, 9]⟩, .int .u8 c] w fun e w' => e = .returned (.int .i64 (bix c)) ∧ w' = w := Tryz.strings_IndexByte _ _ _
theorem qBI {w : World} {r : Nat} {s : ByteArray} {i : Nat} (h : Rd w r s i) (hi : i ≤ s.size) (hs : s.size ≤ 65536) :
    Calls Tryz.prog 37 #[At r] w fun e w' => e = .returned (.tuple #[]) ∧ Rd w' r s (qAd s i) ∧ Mv r w w' := by
  have hbs := get_bt s; go_enter Tryz.func37, Tryz.ntmps37; go_wp2
  go_loopw [] (fun wr => ∃ k : Nat, k ≤ s.size ∧ Rd wr r s k ∧ Hid (qAd s k = qAd s i) ∧ Mv r w wr) (fun wr => s.size - qHW wr r)
  case atStart => exact ⟨i, hi, h, Lib.hid rfl, Mv.refl _ _⟩
  case round =>
    obtain ⟨k, hk, HR, HS, HM⟩ := hrel; have c0 := HR.c0; have c1 := HR.c1; have f1 := HR.f1; have b0 := bt_nonneg s k; have b1 := bt_le s k; have hat := HR.at
    by_cases hlt : k < s.size
    · (have hlt' : (k : Int) < (s.size : Int) := by omega); have hd : decide ((k : Int) < (s.size : Int)) = true := decide_eq_true hlt'; (have h0 : ¬ (k : Int) < 0 := by omega); cases hB : qCW (bt s k)
      · (have hx : ¬ 0 ≤ bix (bt s k) := by have := qNI b0 b1; rw [hB] at this; simpa using this); go_wp2
        go_quiet ((go_at_call 54; exact Calls.quiet_of_same (qHY _ _)))
        go_wp2; exact qEh (results_none rfl _ _ _) rfl ⟨rfl, by rw [← HS.out, qLn hB hlt]; exact HR.drewN nq, HM.trans (qAr r wr nq)⟩
      · (have hx : 0 ≤ bix (bt s k) := by have := qNI b0 b1; rw [hB] at this; simpa using this); go_wp2
        go_quiet ((go_at_call 54; exact Calls.quiet_of_same (qHY _ _)))
        go_wp2; have HQ := (HR.drewN nq).set (x := (k : Int) + 1) (k := k + 1) (by omega); exact ⟨⟨k + 1, by omega, HQ.1, Lib.hid ((qNc hlt hB).symm.trans HS.out), (HM.trans (qAr r wr nq)).trans HQ.2⟩, by rw [HQ.1.at, hat]; omega⟩
    · (have hlt' : ¬ (k : Int) < (s.size : Int) := by omega); have hd : decide ((k : Int) < (s.size : Int)) = false := decide_eq_false hlt'; go_wp2
      go_quiet (fail)
      go_wp2; exact qEh (results_none rfl _ _ _) rfl ⟨rfl, by rw [← HS.out, qMb (by omega)]; exact HR.drewN nq, HM.trans (qAr r wr nq)⟩
def hix (c : Int) : Int := Lib.indexByte (⟨#[48, 49, 50, 51, 52, 53, 54, 55, 56, 57, 97, 98, 99, 100, 101, 102, 48, 49, 50, 51, 52, 53, 54, 55, 56, 57, 65, 66, 67, 68, 69, 70]⟩ : ByteArray).data.toList c.toNat.toUInt8
theorem qOK : ∀ n : Nat, n < 256 → (if hix (n : Int) < 0 then -1 else hix (n : Int) % 16) = qCZ (n : Int) ∧ hix (n : Int) < 32 := by decide +kernel
theorem qO4 {c : Int} (h0 : 0 ≤ c) (h1 : c ≤ 255) : (if hix c < 0 then -1 else hix c % 16) = qCZ c ∧ hix c < 32 := by
  have := qOK c.toNat (by omega)
  rwa [show ((c.toNat : Nat) : Int) = c by omega] at this
theorem qOX {c : Int} (h0 : -1 ≤ c) (h1 : c ≤ 255) : (if hix (max c 0) < 0 then -1 else hix (max c 0) % 16) = qCZ c ∧ hix (max c 0) < 32 := by
  by_cases h : c = -1
  · subst h; decide +kernel
  · rw [show max c 0 = c by omega]; exact qO4 (by omega) h1
theorem qKS (c : Int) (w : World) : Calls Tryz.prog 54 #[.string ⟨#[48, 49, 50, 51, 52, 53, 54, 55, 56, 57, 97, 98, 99, 100, 101, 102, 48, 49, 50, 51, 52, 53, 54, 55, 56, 57, 65, 66, 67, 68, 69, 70]⟩, .int .u8 c] w fun e w' => e = .returned (.int .i64 (hix c)) ∧ w' = w := Tryz.strings_IndexByte _ _ _
abbrev Num (x : Int) (e : Ending) (_ : World) : Prop := e = .returned (.int .i64 x)
theorem qGU {w : World} {r : Nat} {s : ByteArray} {i : Nat} (h : Rd w r s i) (hi : i ≤ s.size) (hs : s.size ≤ 65536) :
    Calls Tryz.prog 99 #[At r] w (Got (qAv s 4 i 0) r s w Num) := by
  go_enter Tryz.func99, Tryz.ntmps99; go_wp2
  go_loopw [3, 5] (fun nv iv wr => ∃ (j k : Nat) (v : Int), iv = .int .i64 j ∧ nv = .int .i64 v ∧ j ≤ 4 ∧ 0 ≤ v ∧ v < 16 ^ j ∧ k ≤ s.size ∧ Rd wr r s k ∧ Hid (qAv s (4 - j) k v = qAv s 4 i 0) ∧ Mv r w wr) (fun _ iv _ => 4 - (intOf iv).toNat)
  case atStart => exact ⟨0, i, 0, rfl, rfl, by omega, by omega, by decide, hi, h, Lib.hid rfl, Mv.refl _ _⟩
  case round =>
    obtain ⟨j, k, v, rfl, rfl, hj, hv0, hv1, hk, HR, HS, HM⟩ := hrel; have c0 := HR.c0; have c1 := HR.c1; have f1 := HR.f1; have p0 := qKR s k; have p1 := qLg s k
    by_cases hlt : j < 4
    · (have hlt' : (j : Int) < 4 := by omega); have hxx := qOX p0 p1
      by_cases hx : hix (max (pk s k) 0) < 0
      · have hbad : qAv s (4 - j) k v = .bad 3 k := by rw [show 4 - j = (3 - j) + 1 by omega]; unfold qAv; rw [if_pos (by rw [if_pos hx] at hxx; omega)]
        go_wp2_with (first
          | (go_at_call 55; (with_reducible refine (qCE HR).mono ?_); rintro e w1 ⟨rfl, m, rfl⟩; replace HR := HR.drewN m; replace HM := HM.trans (qAr r _ m); replace c0 := HR.c0; replace c1 := HR.c1; replace f1 := HR.f1)
          | (go_at_call 54; (with_reducible refine (qKS _ _).mono ?_); rintro e w2 ⟨rfl, rfl⟩)
          | (go_at_call 39; (with_reducible refine (qAz _ _ _ _).mono ?_); rintro e w3 ⟨⟨g, rfl, hg⟩, hb⟩))
        exact ⟨rfl, Got.bad (HS.out ▸ hbad) (HM.trans (Mv.of hb)) ⟨g, rfl, hg⟩⟩
      · rw [if_neg hx] at hxx; have hxx1 := hxx.1; have hxx2 := hxx.2; clear hxx
        have hgo : qAv s (4 - j) k v = qAv s (4 - (j + 1)) (k + 1) (16 * v + hix (max (pk s k) 0) % 16) := by
          rw [show 4 - j = (3 - j) + 1 by omega, show 4 - (j + 1) = 3 - j by omega]
          conv => lhs; unfold qAv
          rw [if_neg (by omega), ← hxx1]
        have hk2 : k < s.size := by
          refine qCn ?_; rcases Int.lt_or_le (pk s k) 0 with h1 | h1
          · exfalso
            rw [show pk s k = -1 by omega] at hx; exact absurd (by decide +kernel : hix (max (-1) 0) < 0) hx
          · exact h1
        have hv2 : v < 4096 := by
          (have : j = 0 ∨ j = 1 ∨ j = 2 ∨ j = 3 := by omega); rcases this with rfl | rfl | rfl | rfl <;> simp at hv1 <;> omega
        have hv3 : 16 * v + hix (max (pk s k) 0) % 16 < 16 ^ (j + 1) := by
          rw [Int.pow_succ]; omega
        have HV := Lib.hid hv3; have HG := Lib.hid (hgo.symm.trans HS.out); have HX1 := Lib.hid hxx1; clear hv3 hgo hxx1 hv1
        go_wp2_with (first
          | (go_at_call 55; (with_reducible refine (qCE HR).mono ?_); rintro e w1 ⟨rfl, m, rfl⟩; replace HR := HR.drewN m; replace HM := HM.trans (qAr r _ m); replace c0 := HR.c0; replace c1 := HR.c1; replace f1 := HR.f1)
          | (go_at_call 54; (with_reducible refine (qKS _ _).mono ?_); rintro e w2 ⟨rfl, rfl⟩))
        have HQ := HR.set (x := (k : Int) + 1) (k := k + 1) (by omega); exact ⟨⟨j + 1, k + 1, 16 * v + hix (max (pk s k) 0) % 16, by go_num, by go_num, by omega, by omega, HV.out, by omega, HQ.1, HG, HM.trans HQ.2⟩, by simp [intOf]; omega⟩
    · (have hlt' : ¬ (j : Int) < 4 := by omega); (have hend : qAv s (4 - j) k v = Out.ok v k := by rw [show 4 - j = 0 by omega]; rfl); go_wp2; exact bodyPost_ret (results_tmp rfl _ _ _) rfl (Got.ok (HS.out ▸ hend) HM rfl HR)
end Go.Proofs.YtnjhmnolngdfaaaGreatDoor
namespace Go.Proofs.YtnjhmnolngdfaaaGreatDoor
open Go.RowKit Go.PlainAid
def low (c : Int) : Int := bits .or .u8 c 32
theorem qN8 : ∀ n : Nat, n < 256 → 0 ≤ low (n : Int) ∧ low (n : Int) ≤ 255 ∧ (qBa (n : Int) = false → qCZ (n : Int) = if 97 ≤ low (n : Int) ∧ low (n : Int) ≤ 102 then low (n : Int) - 87 else -1) := by decide +kernel
theorem qPh {c : Int} (h0 : 0 ≤ c) (h1 : c ≤ 255) : 0 ≤ low c ∧ low c ≤ 255 ∧ (qBa c = false → qCZ c = if 97 ≤ low c ∧ low c ≤ 102 then low c - 87 else -1) := by
  have := qN8 c.toNat (by omega)
  rwa [show ((c.toNat : Nat) : Int) = c by omega] at this
theorem qJ2 : ∀ n : Nat, n < 48 → low (n : Int) < 97 := by decide +kernel
theorem qM9 {c : Int} (h0 : 0 ≤ c) (h1 : c < 48) : low c < 97 := by
  have := qJ2 c.toNat (by omega)
  rwa [show ((c.toNat : Nat) : Int) = c by omega] at this
theorem qCv (c : Int) (w : World) : Calls Tryz.prog 138 #[.int .u8 c] w fun e w' => e = .returned (.int .u8 (low c)) ∧ w' = w := Tryz.internal_strconv_lower c w
def qFT (o : Out Int) (w : World) (e : Ending) (w' : World) : Prop := Below w.heap.size w w' ∧ (match o with
    | .ok v _ => e = .returned (.tuple #[.int .u64 v, .nilIface])
    | .bad _ _ => e = .returned (.tuple #[.int .u64 0, .iface 147 (.int .i64 2)]))
theorem qFT.ok {o : Out Int} {w w' : World} {e : Ending} {v : Int} {k : Nat} (h : o = .ok v k) (hb : Below w.heap.size w w') (he : e = .returned (.tuple #[.int .u64 v, .nilIface])) : qFT o w e w' := by subst h; exact ⟨hb, he⟩
theorem qFT.bad {o : Out Int} {w w' : World} {e : Ending} {c : Int} {k : Nat} (h : o = .bad c k) (hb : Below w.heap.size w w') (he : e = .returned (.tuple #[.int .u64 0, .iface 147 (.int .i64 2)])) : qFT o w e w' := by subst h; exact ⟨hb, he⟩
theorem qNJ (t : ByteArray) (ht : t.size = 4) (w : World) : Calls Tryz.prog 116 #[.string t, .int .i64 16, .int .i64 32] w (qFT (qAv t 4 0 0) w) := by
 have hemp : t.toList.isEmpty = false := by
  rw [← decide_eq_emptyBytes]; exact decide_eq_false (fun h => by rw [h] at ht; exact absurd ht (by decide))
 have hcv := Lib.run_convert_string_bytes (P := Tryz.prog) w 9 46 5 t (u := .string) Tryz.underlying9 Tryz.underlying46 Tryz.underlying5; (have hB : ∀ j, j < t.size → (Lib.bytesWorld w 5 t).cell? ⟨w.heap.size, j, none⟩ = some (.int .u8 (t.data.toList.getD j 0).toNat) := fun j hj => Lib.bytesWorld_cell w 5 t j hj); have HBB := Lib.bytesWorld_below w 5 t; obtain ⟨W1, hW1⟩ : ∃ W1, W1 = Lib.bytesWorld w 5 t := ⟨_, rfl⟩; rw [← hW1] at hcv hB HBB; clear hW1
 have hC : ∀ j, j < t.size → W1.cell? ⟨w.heap.size, j, none⟩ = some (.int .u8 (bt t j)) := fun j hj => by
  rw [hB j hj]; unfold bt; rw [dif_pos hj]; simp [List.getD, List.getElem?_eq_getElem (show j < t.data.toList.length by simpa using hj)]; rfl
 clear hB; go_enter Tryz.func116, Tryz.ntmps116; go_wp2
 go_loopw [12, 13, 101] (fun uv nv iv wr => ∃ (k : Nat) (v : Int), uv = .bool false ∧ nv = .int .u64 v ∧ iv = .int .i64 k ∧ k ≤ 4 ∧ 0 ≤ v ∧ Hid (v < 16 ^ k) ∧ wr = W1 ∧ Hid (qAv t (4 - k) k v = qAv t 4 0 0)) (fun _ _ iv _ => 4 - (intOf iv).toNat)
 case atStart => exact ⟨0, 0, rfl, rfl, rfl, by omega, by omega, Lib.hid (by decide), rfl, Lib.hid rfl⟩
 case round =>
  obtain ⟨k, v, rfl, rfl, rfl, hk, hv0, HV, rfl, HS⟩ := hrel; have b0 := bt_nonneg t k; have b1 := bt_le t k
  by_cases hlt : k < 4
  ·(have hlt' : (k : Int) < 4 := by omega); (have hk0 : ¬ (k : Int) < 0 := by omega); have hc := hC k (by omega); have hpk : pk t k = bt t k := qBh (by omega)
   have hv2 : v < 4096 := by
    have hv1 := HV.out; (have : k = 0 ∨ k = 1 ∨ k = 2 ∨ k = 3 := by omega); rcases this with rfl | rfl | rfl | rfl <;> simp at hv1 <;> omega
   have HF : ∀ h, qCZ (bt t k) = h → h < 0 → qAv t (4 - k) k v = .bad 3 k := fun h e1 e2 => by
    rw [show 4 - k = (3 - k) + 1 by omega]; unfold qAv; rw [if_pos (by rw [hpk]; omega)]
   have HG : ∀ h, qCZ (bt t k) = h → 0 ≤ h → h < 16 → qAv t (4 - (k + 1)) (k + 1) (16 * v + h) = qAv t 4 0 0 ∧ 16 * v + h < 16 ^ (k + 1) := fun h e1 e2 e3 => by
    refine ⟨?_, by have := HV.out; rw [Int.pow_succ]; omega⟩; rw [← HS.out, show 4 - k = (3 - k) + 1 by omega, show 4 - (k + 1) = 3 - k by omega]
    conv => rhs; unfold qAv
    rw [if_neg (by rw [hpk]; omega), hpk, e1]
   have HL := qPh b0 b1; have L0 := HL.1; have L1 := HL.2.1; have L2 := Lib.hid HL.2.2; clear HL; have HFH := Lib.hid HF; have HGH := Lib.hid HG; clear HF HG hpk; cases hd : qBa (bt t k)
   ·have hx := L2.out hd
    have hq : ¬ (48 ≤ bt t k ∧ bt t k ≤ 57) := fun h => by
     unfold qBa at hd; rw [decide_eq_true h.1, decide_eq_true h.2] at hd; cases hd
    have l95 : low 95 = 127 := by decide +kernel
    by_cases q1 : 48 ≤ bt t k
    ·have q2 : ¬ bt t k ≤ 57 := fun h => hq ⟨q1, h⟩
     by_cases h1 : 97 ≤ low (bt t k)
     ·by_cases h2 : low (bt t k) ≤ 102
      ·(have hxx : qCZ (bt t k) = low (bt t k) - 87 := by rw [hx, if_pos ⟨h1, h2⟩]); (have n95 : ¬ bt t k = 95 := fun h => by rw [h, l95] at h2; omega); clear hx; (have e1 : ¬ 16 ≤ low (bt t k) - 97 + 10 := by omega); have e2 : low (bt t k) ≤ 122 := by omega
       go_wp2_with (go_at_call 138; (with_reducible refine (qCv _ _).mono ?_); rintro e w2 ⟨rfl, rfl⟩)
       obtain ⟨G1, G2⟩ := HGH.out _ hxx (by omega) (by omega); exact ⟨⟨k + 1, 16 * v + (low (bt t k) - 87), rfl, by congr 1; omega, by go_num, by omega, by omega, Lib.hid G2, trivial, Lib.hid G1⟩, by simp [intOf]; omega⟩
      ·(have hxx : qCZ (bt t k) = -1 := by rw [hx, if_neg (fun h => h2 h.2)]); clear hx
       by_cases h3 : low (bt t k) ≤ 122
       ·(have n95 : ¬ bt t k = 95 := fun h => by rw [h, l95] at h3; omega); have e1 : 16 ≤ low (bt t k) - 97 + 10 := by omega
        go_wp2_with (go_at_call 138; (with_reducible refine (qCv _ _).mono ?_); rintro e w2 ⟨rfl, rfl⟩)
        all_goals
         refine bodyPost_ret (results_tmp2 rfl _ _ _) rfl ?_; exact qFT.bad (HS.out.symm.trans (HFH.out _ hxx (by decide))) HBB rfl
       ·by_cases n95 : bt t k = 95
        ·have hl : low (bt t k) = 127 := by rw [n95, l95]
         go_wp2_with (go_at_call 138; (with_reducible refine (qCv _ _).mono ?_); rintro e w2 ⟨rfl, rfl⟩)
         all_goals
          refine bodyPost_ret (results_tmp2 rfl _ _ _) rfl ?_; exact qFT.bad (HS.out.symm.trans (HFH.out _ hxx (by decide))) HBB rfl
        ·go_wp2_with (go_at_call 138; (with_reducible refine (qCv _ _).mono ?_); rintro e w2 ⟨rfl, rfl⟩)
         all_goals
          refine bodyPost_ret (results_tmp2 rfl _ _ _) rfl ?_; exact qFT.bad (HS.out.symm.trans (HFH.out _ hxx (by decide))) HBB rfl
     ·(have hxx : qCZ (bt t k) = -1 := by rw [hx, if_neg (fun h => h1 h.1)]); (have n95 : ¬ bt t k = 95 := fun h => by rw [h, l95] at h1; omega); clear hx
      go_wp2_with (go_at_call 138; (with_reducible refine (qCv _ _).mono ?_); rintro e w2 ⟨rfl, rfl⟩)
      all_goals
       refine bodyPost_ret (results_tmp2 rfl _ _ _) rfl ?_; exact qFT.bad (HS.out.symm.trans (HFH.out _ hxx (by decide))) HBB rfl
    ·by_cases h1 : 97 ≤ low (bt t k)
     ·by_cases h2 : low (bt t k) ≤ 102
      ·exfalso
       have := qM9 b0 (by omega : bt t k < 48); omega
      ·(have hxx : qCZ (bt t k) = -1 := by rw [hx, if_neg (fun h => h2 h.2)]); have := qM9 b0 (by omega : bt t k < 48); omega
     ·(have hxx : qCZ (bt t k) = -1 := by rw [hx, if_neg (fun h => h1 h.1)]); (have n95 : ¬ bt t k = 95 := by omega); clear hx
      go_wp2_with (go_at_call 138; (with_reducible refine (qCv _ _).mono ?_); rintro e w2 ⟨rfl, rfl⟩)
      all_goals
       refine bodyPost_ret (results_tmp2 rfl _ _ _) rfl ?_; exact qFT.bad (HS.out.symm.trans (HFH.out _ hxx (by decide))) HBB rfl
   ·have hd2 := hd; unfold qBa at hd2; simp only [Bool.and_eq_true, decide_eq_true_eq] at hd2; have d1 := hd2.1; have d2 := hd2.2; clear hd2; (have e1 : ¬ 16 ≤ bt t k - 48 := by omega); (have e2 : ¬ bt t k = 95 := by omega); have hxx : qCZ (bt t k) = bt t k - 48 := by unfold qCZ; rw [if_pos hd]
    go_wp2_with (fail)
    all_goals
     obtain ⟨G1, G2⟩ := HGH.out _ hxx (by omega) (by omega); exact ⟨⟨k + 1, 16 * v + (bt t k - 48), rfl, by congr 1; omega, by go_num, by omega, by omega, Lib.hid G2, trivial, Lib.hid G1⟩, by simp [intOf]; omega⟩
  ·(have hlt' : ¬ (k : Int) < 4 := by omega); (have hend : qAv t (4 - k) k v = Out.ok v k := by rw [show 4 - k = 0 by omega]; rfl); go_wp2; refine bodyPost_ret (results_tmp2 rfl _ _ _) rfl ?_; exact qFT.ok (HS.out.symm.trans hend) HBB rfl
end Go.Proofs.YtnjhmnolngdfaaaGreatDoor
namespace Go.Proofs.YtnjhmnolngdfaaaGreatDoor
open Go.RowKit Go.PlainAid
def qFx (w : World) (g : Nat) : Prop := ∃ ev, w.cell? ⟨g, 0, none⟩ = some ev ∧ (ev = .nilIface ∨ ∃ te pe, ev = .iface te pe)
structure Gl (w : World) (r : Nat) : Prop where
  syn : qFx w 4
  rng : qFx w 5
  tabs : Lib.Utf8Tabs 1 2 w
  n1 : 4 < r
  n2 : 5 < r
  n3 : 1 < r
  n4 : 2 < r
theorem qE3 {X : Nat → Prop} {w w' : World} {b j : Nat} {v : Value} (h : Bes X w w') (hn : ¬ X b) (hc : w.cell? ⟨b, j, none⟩ = some v) : w'.cell? ⟨b, j, none⟩ = some v :=
  (World.cell?_of_block (h.block b (World.block_lt_of_cell? w _ hc) hn)).trans hc
theorem qFx.bes {X : Nat → Prop} {w w' : World} {g : Nat} (h : Bes X w w') (hn : ¬ X g) (he : qFx w g) : qFx w' g := by
  obtain ⟨ev, h1, h2⟩ := he; exact ⟨ev, qE3 h hn h1, h2⟩
theorem Gl.bes {X : Nat → Prop} {r : Nat} {w w' : World} (h : Bes X w w') (hx : ∀ k, k < r → ¬ X k) (hg : Gl w r) : Gl w' r :=
  ⟨hg.syn.bes h (hx _ hg.n1), hg.rng.bes h (hx _ hg.n2), ⟨fun c hc => qE3 h (hx _ hg.n3) (hg.tabs.1 c hc), fun i hi => ⟨qE3 h (hx _ hg.n4) (hg.tabs.2 i hi).1, qE3 h (hx _ hg.n4) (hg.tabs.2 i hi).2⟩⟩, hg.n1, hg.n2, hg.n3, hg.n4⟩
theorem Gl.mv {r : Nat} {w w' : World} (h : Mv r w w') (hg : Gl w r) : Gl w' r := hg.bes h (fun k hk e => Nat.ne_of_lt hk e)
theorem Gl.below {r : Nat} {w w' : World} (h : Below w.heap.size w w') (hg : Gl w r) : Gl w' r := hg.mv (Mv.of h)
def qQD (o : Out Int) (w : World) (e : Ending) (w' : World) : Prop := Below w.heap.size w w' ∧ (match o with
    | .ok v _ => e = .returned (.tuple #[.int .u64 v, .nilIface])
    | .bad _ _ => ∃ t p, e = .returned (.tuple #[.int .u64 0, .iface t p]))
theorem qKM (t : ByteArray) (ht : t.size = 4) {w : World} (he : qFx w 4) : Calls Tryz.prog 100 #[.string t, .int .i64 16, .int .i64 32] w (qQD (qAv t 4 0 0) w) := by
 have HB := Below.refl w.heap.size w
 cases ho : qAv t 4 0 0 with
 | ok v k =>
  go_enter Tryz.func100, Tryz.ntmps100
  go_wp2_with (go_at_call 116; (with_reducible refine (qNJ t ht _).mono ?_); rw [ho]; rintro e w1 ⟨hb, rfl⟩)
  refine bodyPost_ret (results_tmp2 rfl _ _ _) rfl ?_; exact ⟨hb, rfl⟩
 | bad c k =>
  go_enter Tryz.func100, Tryz.ntmps100
  go_wp2_with (first
   | (go_at_call 116; (with_reducible refine (qNJ t ht _).mono ?_); rw [ho]; rintro e w1 ⟨hb, rfl⟩; obtain ⟨ev, he1, he2⟩ := he; replace he1 := qAB hb he1)
   | (go_at_call 97; (with_reducible refine (Tryz.strconv_toError_syntax _ t _ _ ev _ (by rw [ht]; decide) he1 he2).mono ?_); rintro e w2 ⟨N, rfl, _, _, hb2⟩))
  refine bodyPost_ret (results_tmp2 rfl _ _ _) rfl ?_; exact ⟨zT hb hb2, _, _, rfl⟩
def qQa (n m : Int) : Bool := decide (55296 ≤ n) && decide (n ≤ 56319) && decide (56320 ≤ m) && decide (m ≤ 57343)
theorem qOR {n m : Int} (h1 : 55296 ≤ n) (h2 : n ≤ 56319) (h3 : 56320 ≤ m) (h4 : m ≤ 57343) (w : World) : Calls Tryz.prog 101 #[.int .i64 n, .int .i64 m] w fun e w' => e = .returned (.tuple #[.int .i64 (65536 + 1024 * (n - 55296) + (m - 56320)), .nilIface]) ∧ w' = w := by
  (have e1 : ¬ n < 55296 := by omega); (have e2 : ¬ n > 56319 := by omega); (have e3 : ¬ m < 56320 := by omega); (have e4 : ¬ m > 57343 := by omega); go_enter Tryz.func101, Tryz.ntmps101; go_wp2; refine bodyPost_ret (results_tmp2 rfl _ _ _) rfl ⟨?_, rfl⟩; show Ending.returned (.tuple #[.int .i64 (65536 + (n - 55296) * 1024 + m - 56320), .nilIface]) = _; rw [show 65536 + (n - 55296) * 1024 + m - 56320 = 65536 + 1024 * (n - 55296) + (m - 56320) by omega]
theorem qMo {n m : Int} (h0 : 0 ≤ n) (h0' : n < 65536) (k0 : 0 ≤ m) (k1 : m < 65536) (h : ¬ (55296 ≤ n ∧ n ≤ 56319 ∧ 56320 ≤ m ∧ m ≤ 57343)) (w : World) : Calls Tryz.prog 101 #[.int .i64 n, .int .i64 m] w fun e w' => e = .returned (.tuple #[.int .i64 0, .iface 31 (.int .i64 1)]) ∧ w' = w := by
  by_cases e1 : n < 55296 <;> by_cases e2 : n > 56319 <;> by_cases e3 : m < 56320 <;> by_cases e4 : m > 57343
  all_goals try (exfalso; omega)
  all_goals
    go_enter Tryz.func101, Tryz.ntmps101; go_wp2; refine bodyPost_ret (results_tmp2 rfl _ _ _) rfl ?_; exact ⟨rfl, rfl⟩
end Go.Proofs.YtnjhmnolngdfaaaGreatDoor
