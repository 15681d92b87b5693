/- Layer 2: the digits of a number, and what strconv.ParseInt makes of them (plain). Layer 2: the reader's small steps: peek, fail, word. -/
import Derived.Lib.ParseIntB
import Derived.Lib.ParseIntBCases
import Derived.Test.YtnjhmnolngdfaaaGreatDoorQ05
import Derived.Test.YtnjhmnolngdfaaaGreatDoorQ02
import Derived.Test.YtnjhmnolngdfaaaGreatDoorQZip
namespace Go.Proofs.YtnjhmnolngdfaaaGreatDoor
open Go.RowKit Go.PlainAid
set_option linter.unusedVariables false
set_option linter.unusedSimpArgs false

def dsum : Nat → List UInt8 → Nat
  | a, [] => a
  | a, c :: r => dsum (a * 10 + (c.toNat - 48)) r
def digs (l : List UInt8) : Prop := ∀ c ∈ l, 48 ≤ c.toNat ∧ c.toNat ≤ 57
theorem dsum_ge : ∀ (l : List UInt8) (a : Nat), a ≤ dsum a l
  | [], a => Nat.le_refl _
  | c :: r, a => by unfold dsum; have := dsum_ge r (a * 10 + (c.toNat - 48)); omega
theorem uintM_is : ∀ (l : List UInt8) (a : Nat), digs l → a ≤ 18446744073709551615 → Lib.parseUintM 18446744073709551615 a l = if dsum a l ≤ 18446744073709551615 then .ok (dsum a l) else .range
  | [], a, _, ha => by unfold Lib.parseUintM dsum; rw [if_pos ha]
  | c :: r, a, hd, ha => by
    have hc := hd c (by simp)
    have hg := dsum_ge r (a * 10 + (c.toNat - 48))
    have hr : digs r := fun x hx => hd x (by simp [hx])
    unfold Lib.parseUintM dsum
    rw [if_pos hc]
    split
    · rw [if_neg (by omega)]
    · split
      · rw [if_neg (by omega)]
      · exact uintM_is r _ hr (by omega)
theorem ext_cons {s : ByteArray} {j k : Nat} (hj : j < k) (hk : k ≤ s.size) : (s.extract j k).data.toList = s[j] :: (s.extract (j + 1) k).data.toList := by
  apply List.ext_getElem
  · simp; omega
  · intro n h1 h2
    match n with
    | 0 => simp; rfl
    | m + 1 =>
      simp
      congr 1
      omega
theorem ext_nil {s : ByteArray} {j k : Nat} (hj : k ≤ j) : (s.extract j k).data.toList = [] := by
  apply List.eq_nil_of_length_eq_zero
  simp; omega
theorem digs_sum {s : ByteArray} {k : Nat} (hk : k ≤ s.size) : ∀ (n j a : Nat), j + n = k → (∀ q, j ≤ q → q < k → digI (pk s q) = true) → digsTo s n j (a : Int) = (dsum a (s.extract j k).data.toList : Nat) ∧ digs (s.extract j k).data.toList
  | 0, j, a, hj, _ => by
    rw [ext_nil (by omega)]
    exact ⟨rfl, fun c hc => by cases hc⟩
  | n + 1, j, a, hj, hd => by
    have h0 := hd j (Nat.le_refl _) (by omega)
    have hj2 : j < s.size := by omega
    rw [pk_in hj2] at h0
    unfold digI at h0
    simp only [Bool.and_eq_true, decide_eq_true_eq] at h0
    have hb : bt s j = ((s[j]).toNat : Int) := by unfold bt; rw [dif_pos hj2]
    obtain ⟨h1, h2⟩ := digs_sum hk n (j + 1) (a * 10 + ((s[j]).toNat - 48)) (by omega) (fun q hq1 hq2 => hd q (by omega) hq2)
    rw [ext_cons (by omega) hk]
    refine ⟨?_, fun c hc => ?_⟩
    · unfold digsTo dsum
      rw [← h1]
      congr 1
      omega
    · rcases List.mem_cons.1 hc with rfl | h
      · omega
      · exact h2 c h
theorem over_all {p : Int → Bool} {s : ByteArray} : ∀ (n i q : Nat), i ≤ q → q < over1 p s n i → p (pk s q) = true
  | 0, i, q, h1, h2 => by unfold over1 at h2; omega
  | n + 1, i, q, h1, h2 => by
    unfold over1 at h2
    split at h2
    · rename_i h
      rcases Nat.eq_or_lt_of_le h1 with rfl | h3
      · exact h
      · exact over_all n (i + 1) q h3 h2
    · omega
theorem num_digs {s : ByteArray} {j : Nat} (h : digI (pk s j) = true) : ∀ q, j ≤ q → q < numEnd s j → digI (pk s q) = true := fun q h1 h2 => by
  unfold numEnd at h2
  split at h2
  · rw [show q = j by omega]; exact h
  · exact over_all _ _ q h1 h2
theorem numVal_is {s : ByteArray} {j : Nat} (h : digI (pk s j) = true) : numVal s j = (dsum 0 (s.extract j (numEnd s j)).data.toList : Nat) ∧ digs (s.extract j (numEnd s j)).data.toList := by
  have hb := numEnd_gt h
  exact digs_sum hb.2 (numEnd s j - j) j 0 (by omega) (num_digs h)
theorem numVal_nonneg {s : ByteArray} {j : Nat} (h : digI (pk s j) = true) : 0 ≤ numVal s j := by rw [(numVal_is h).1]; omega
theorem uintB_is {l : List UInt8} (hl : l ≠ []) (hd : digs l) : Lib.parseUintB 64 l = if dsum 0 l ≤ 18446744073709551615 then .ok (dsum 0 l) else .range := by
  unfold Lib.parseUintB
  rw [if_neg hl]
  exact uintM_is l 0 hd (by omega)
/-- strconv.ParseInt at the letters of a number that begins at i and whose digits begin at j. -/
theorem int_parse {s : ByteArray} {i j : Nat} (h : digI (pk s j) = true) (hij : (pk s i = 45 ∧ j = i + 1) ∨ (pk s i ≠ 45 ∧ j = i)) :
    (Lib.parseIntB 64 (s.extract i (numEnd s j)).data.toList = .ok (if pk s i = 45 then -numVal s j else numVal s j) ∧ numVal s j ≤ 9223372036854775808) ∨ (Lib.parseIntB 64 (s.extract i (numEnd s j)).data.toList = .range ∧ 9223372036854775808 ≤ numVal s j) := by
  have hb := numEnd_gt h
  obtain ⟨hv, hd⟩ := numVal_is h
  have hj2 : j < s.size := by omega
  have hne : (s.extract j (numEnd s j)).data.toList ≠ [] := by rw [ext_cons hb.1 hb.2]; simp
  have hu := uintB_is hne hd
  have h0 := h
  rw [pk_in hj2] at h0
  unfold digI at h0
  simp only [Bool.and_eq_true, decide_eq_true_eq] at h0
  have hbj : bt s j = ((s[j]).toNat : Int) := by unfold bt; rw [dif_pos hj2]
  rw [hv]
  generalize dsum 0 (s.extract j (numEnd s j)).data.toList = D at *
  rcases hij with ⟨h45, rfl⟩ | ⟨h45, rfl⟩
  · have hi2 : i < s.size := by omega
    have hc : (s[i]).toNat = 45 := by
      rw [pk_in hi2] at h45
      unfold bt at h45
      rw [dif_pos hi2] at h45
      omega
    rw [ext_cons (by omega) hb.2, if_pos h45]
    unfold Lib.parseIntB
    simp only [hc, or_true, if_true, hu]
    by_cases hD : D ≤ 18446744073709551615
    · rw [if_pos hD]
      by_cases h3 : 9223372036854775808 < D
      · exact .inr ⟨by simp; omega, by omega⟩
      · exact .inl ⟨by simp; omega, by omega⟩
    · rw [if_neg hD]
      exact .inr ⟨rfl, by omega⟩
  · have hc1 : (s[j]).toNat ≠ 43 := by omega
    have hc2 : (s[j]).toNat ≠ 45 := by omega
    rw [ext_cons hb.1 hb.2, if_neg h45]
    unfold Lib.parseIntB
    simp only [hc1, hc2, or_false, if_false]
    rw [← ext_cons hb.1 hb.2, hu]
    by_cases hD : D ≤ 18446744073709551615
    · rw [if_pos hD]
      by_cases h3 : 9223372036854775808 ≤ D
      · exact .inr ⟨by simp; omega, by omega⟩
      · exact .inl ⟨by simp; omega, by omega⟩
    · rw [if_neg hD]
      exact .inr ⟨rfl, by omega⟩
end Go.Proofs.YtnjhmnolngdfaaaGreatDoor
namespace Go.Proofs.YtnjhmnolngdfaaaGreatDoor
open Go.RowKit Go.PlainAid
set_option linter.unusedVariables false
set_option linter.unusedSimpArgs false

/-- The reader in block r stands at place i of the text s. -/
def Rd (w : World) (r : Nat) (s : ByteArray) (i : Nat) : Prop := IBox w r 70 #[.string s, .int .i64 i]
theorem Rd.lt {w : World} {r : Nat} {s : ByteArray} {i : Nat} (h : Rd w r s i) : r < w.heap.size := IBox.lt h
theorem Rd.c0 {w : World} {r : Nat} {s : ByteArray} {i : Nat} (h : Rd w r s i) : w.cell? ⟨r, 0, none⟩ = some (.string s) := IBox.cell h 0
theorem Rd.c1 {w : World} {r : Nat} {s : ByteArray} {i : Nat} (h : Rd w r s i) : w.cell? ⟨r, 1, none⟩ = some (.int .i64 i) := IBox.cell h 1
theorem Rd.below {w w' : World} {r : Nat} {s : ByteArray} {i : Nat} (h : Rd w r s i) (hb : Below w.heap.size w w') : Rd w' r s i := zI h hb
abbrev At (r : Nat) : Value := .pointer (some ⟨r, 0, none⟩)
/-- From w to w' nothing has changed but block r (and new ones). -/
abbrev Mv (r : Nat) (w w' : World) : Prop := Bes (fun k => k = r) w w'
theorem Mv.refl (r : Nat) (w : World) : Mv r w w := Bes.of_below (Below.refl _ _)
theorem Mv.trans {r : Nat} {a b c : World} (h : Mv r a b) (k : Mv r b c) : Mv r a c := Bes.trans h k (fun _ x => x) (fun _ _ x => x)
theorem Mv.of {r : Nat} {w w' : World} (h : Below w.heap.size w w') : Mv r w w' := Bes.of_below h
theorem drewN_mv (r : Nat) (w : World) (n : Nat) : Mv r w (w.drewN n) := Mv.of ⟨rfl, rfl, rfl, Nat.le_refl _, fun _ _ => rfl⟩
theorem drewN_below (w : World) (n : Nat) : Below w.heap.size w (w.drewN n) := ⟨rfl, rfl, rfl, Nat.le_refl _, fun _ _ => rfl⟩
theorem Rd.drewN {w : World} {r : Nat} {s : ByteArray} {i : Nat} (h : Rd w r s i) (n : Nat) : Rd (w.drewN n) r s i := h
/-- The place of the reader, off the memory. -/
def atOf (w : World) (r : Nat) : Nat := match w.cell? ⟨r, 1, none⟩ with
  | some (.int _ k) => k.toNat
  | _ => 0
theorem Rd.at {w : World} {r : Nat} {s : ByteArray} {i : Nat} (h : Rd w r s i) : atOf w r = i := by unfold atOf; rw [h.c1]; simp
/-- The reader goes to another place. -/
theorem Rd.step {w w' : World} {r : Nat} {s : ByteArray} {i k : Nat} (h : Rd w r s i) (hw : Hid (w' = w.setRow r (#[.string s, .int .i64 i].setIfInBounds 1 (.int .i64 k)))) : Rd w' r s k ∧ Mv r w w' :=
  ⟨hid_row hw h, Bes.row (X := fun k => k = r) hw rfl⟩
theorem Rd.f1 {w : World} {r : Nat} {s : ByteArray} {i : Nat} (h : Rd w r s i) : w.frozen? ⟨r, 1, none⟩ = false := IBox.frozen h 1
theorem Rd.set {w : World} {r : Nat} {s : ByteArray} {i : Nat} (h : Rd w r s i) {x : Int} {k : Nat} (hx : x = (k : Int)) : Rd (w.setCell ⟨r, 1, none⟩ (.int .i64 x)) r s k ∧ Mv r w (w.setCell ⟨r, 1, none⟩ (.int .i64 x)) := by
  subst hx
  rw [setCell_eq_setRow w r 1 _ _ (0, 0) _ h]
  exact Rd.step h (Lib.hid rfl)
theorem info_reader : (Tryz.prog.info? 3).map (·.size) = some 1 := by kernel_rfl
set_option maxRecDepth 10000 in
theorem peek_any {w : World} {r : Nat} {s : ByteArray} {i : Nat} (h : Rd w r s i) :
    Calls Tryz.prog 55 #[At r] w fun e w' => e = .returned (.int .i64 (pk s i)) ∧ ∃ m, w' = w.drewN m := by
  have c0 := h.c0
  have c1 := h.c1
  have hb := get_bt s
  have b0 := bt_nonneg s i
  have b1 := bt_le s i
  by_cases hlt : i < s.size
  · have hlt' : (i : Int) < (s.size : Int) := by omega
    have h0 : ¬ (i : Int) < 0 := by omega
    go_enter Tryz.func55, Tryz.ntmps55
    go_wp2
    go_quiet (fail)
    go_wp2
    go_quiet (fail)
    go_wp2
    go_ret
    exact ⟨by rw [pk_in hlt]; rfl, _, World.drewN_drewN _ _ _⟩
  · have hlt' : ¬ (i : Int) < (s.size : Int) := by omega
    go_enter Tryz.func55, Tryz.ntmps55
    go_wp2
    go_quiet (fail)
    go_wp2
    go_ret
    exact ⟨by rw [pk_end (by omega)]; rfl, _, rfl⟩
/-- The call gave up: number c at place p. -/
def Pan (e : Ending) (w' : World) (c : Int) (p : Nat) : Prop := ∃ g, e = .panicked [{ v := .iface 66 (At g), recovered := false }] ∧ IBox w' g 96 #[.int .i64 p, .iface 31 (.int .i64 c)]
theorem fail_any (r : Nat) (c : Int) (p : Nat) (w : World) : Calls Tryz.prog 39 #[At r, .int .i64 c, .int .i64 p] w fun e w' => Pan e w' c p ∧ Below w.heap.size w w' := by
  go_enter Tryz.func39, Tryz.ntmps39
  go_wp2_with (refine wpl_box_at rfl 96 (.tmp 9) rfl _ rfl ?_; intro w1 hw)
  exact ⟨rfl, ⟨_, rfl, (hid_alloc hw).1⟩, hid_grow hw⟩
/-- What a call that reads leaves: the reader behind what was read, or the panic. -/
def Got {α : Type} (o : Out α) (r : Nat) (s : ByteArray) (w : World) (V : α → Ending → World → Prop) (e : Ending) (w' : World) : Prop :=
  Mv r w w' ∧ (match o with
    | .ok x k => V x e w' ∧ Rd w' r s k
    | .bad c p => Pan e w' c p)
theorem Got.ok {α : Type} {o : Out α} {r : Nat} {s : ByteArray} {w w' : World} {V : α → Ending → World → Prop} {e : Ending} {x : α} {k : Nat} (ho : o = .ok x k) (hm : Mv r w w') (hv : V x e w') (hr : Rd w' r s k) : Got o r s w V e w' := by subst ho; exact ⟨hm, hv, hr⟩
theorem Got.bad {α : Type} {o : Out α} {r : Nat} {s : ByteArray} {w w' : World} {V : α → Ending → World → Prop} {e : Ending} {c : Int} {p : Nat} (ho : o = .bad c p) (hm : Mv r w w') (hp : Pan e w' c p) : Got o r s w V e w' := by subst ho; exact ⟨hm, hp⟩
abbrev Unit0 (_ : Unit) (e : Ending) (_ : World) : Prop := e = .returned (.tuple #[])
theorem pk_nonneg {s : ByteArray} {k : Nat} (h : 0 ≤ pk s k) : k < s.size := by
  rcases Nat.lt_or_ge k s.size with h1 | h1
  · exact h1
  · rw [pk_end h1] at h; omega
theorem pk_le (s : ByteArray) (k : Nat) : pk s k ≤ 255 := by unfold pk; split; exact bt_le s k; omega
theorem pk_ge (s : ByteArray) (k : Nat) : -1 ≤ pk s k := by unfold pk; split; have := bt_nonneg s k; omega; omega
theorem word_step {s v : ByteArray} {j k : Nat} (hj : j < v.size) (h : pk s k = bt v j) : wordTo s v (v.size - j) k = wordTo s v (v.size - (j + 1)) (k + 1) := by
  rw [show v.size - j = (v.size - (j + 1)) + 1 by omega]
  conv => lhs; unfold wordTo
  rw [if_pos (by rw [h]; congr 1; omega)]
theorem word_bad {s v : ByteArray} {j k : Nat} (hj : j < v.size) (h : ¬ pk s k = bt v j) : wordTo s v (v.size - j) k = .bad 3 k := by
  rw [show v.size - j = (v.size - (j + 1)) + 1 by omega]
  conv => lhs; unfold wordTo
  rw [if_neg (by rw [show v.size - (v.size - (j + 1) + 1) = j by omega]; exact h)]
theorem word_end {s v : ByteArray} {j k : Nat} (hj : ¬ j < v.size) : wordTo s v (v.size - j) k = .ok () k := by
  rw [show v.size - j = 0 by omega]; rfl
set_option maxRecDepth 10000 in
theorem word_any (v : ByteArray) {w : World} {r : Nat} {s : ByteArray} {i : Nat} (h : Rd w r s i) (hi : i ≤ s.size) (hs : s.size ≤ 65536) (hv : v.size ≤ 65536) :
    Calls Tryz.prog 56 #[At r, .string v] w (Got (wordTo s v v.size i) r s w Unit0) := by
  have hbs := get_bt v
  go_enter Tryz.func56, Tryz.ntmps56
  go_wp2
  go_loopw [7] (fun iv wr => ∃ j k : Nat, iv = .int .i64 j ∧ j ≤ v.size ∧ k ≤ s.size ∧ Rd wr r s k ∧ Hid (wordTo s v (v.size - j) k = wordTo s v v.size i) ∧ Mv r w wr) (fun iv _ => v.size - (intOf iv).toNat)
  case atStart => exact ⟨0, i, rfl, Nat.zero_le _, hi, h, Lib.hid rfl, Mv.refl _ _⟩
  case round =>
    obtain ⟨j, k, rfl, hj, hk, HR, HS, HM⟩ := hrel
    have c0 := HR.c0
    have c1 := HR.c1
    have f1 := HR.f1
    have b0 := bt_nonneg v j
    have b1 := bt_le v j
    by_cases hlt : j < v.size
    · have hlt' : (j : Int) < (v.size : Int) := by omega
      have h0 : ¬ (j : Int) < 0 := by omega
      by_cases hq : pk s k = bt v j
      · go_wp2
        go_quiet ((go_at_call 55; exact Calls.quiet_of (peek_any (HR.drewN _))))
        go_wp2
        have hk1 := pk_nonneg (by rw [hq]; exact b0)
        have HQ := (HR.drewN nq).set (x := (k : Int) + 1) (k := k + 1) (by omega)
        exact ⟨⟨j + 1, k + 1, by go_num, by omega, by omega, HQ.1, Lib.hid ((word_step hlt hq).symm.trans HS.out), (HM.trans (drewN_mv r wr nq)).trans HQ.2⟩, by simp [intOf]; omega⟩
      · go_wp2
        go_quiet ((go_at_call 55; exact Calls.quiet_of (peek_any (HR.drewN _))))
        go_wp2_with (go_at_call 39; (with_reducible refine (fail_any _ _ _ _).mono ?_); rintro e w3 ⟨⟨g, rfl, hg⟩, hb⟩)
        exact ⟨rfl, Got.bad (HS.out ▸ word_bad hlt hq) ((HM.trans (drewN_mv r wr nq)).trans (Mv.of hb)) ⟨g, rfl, hg⟩⟩
    · go_wp2
      exact bodyPost_ret (results_none rfl _ _ _) rfl (Got.ok (HS.out ▸ word_end hlt) HM rfl HR)
end Go.Proofs.YtnjhmnolngdfaaaGreatDoor
