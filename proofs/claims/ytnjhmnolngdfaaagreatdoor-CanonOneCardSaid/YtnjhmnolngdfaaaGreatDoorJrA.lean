/- Layer 2: the reader's small steps: peek, fail, word. -/
import Derived.Test.YtnjhmnolngdfaaaGreatDoorJsA
import Derived.Test.YtnjhmnolngdfaaaGreatDoorBesL
namespace Go.Proofs.YtnjhmnolngdfaaaGreatDoor
open Go.RowKit Go.PlainAid
set_option linter.unusedVariables false
set_option linter.unusedSimpArgs false

/-- The reader in block r stands at place i of the text s. -/
def Rd (w : World) (r : Nat) (s : ByteArray) (i : Nat) : Prop := IBox w r 70 #[.string s, .int .i64 i]
theorem Rd.lt {w : World} {r : Nat} {s : ByteArray} {i : Nat} (h : Rd w r s i) : r < w.heap.size := IBox.lt h
theorem Rd.c0 {w : World} {r : Nat} {s : ByteArray} {i : Nat} (h : Rd w r s i) : w.cell? ⟨r, 0, none⟩ = some (.string s) := IBox.cell h 0
theorem Rd.c1 {w : World} {r : Nat} {s : ByteArray} {i : Nat} (h : Rd w r s i) : w.cell? ⟨r, 1, none⟩ = some (.int .i64 i) := IBox.cell h 1
theorem Rd.below {w w' : World} {r : Nat} {s : ByteArray} {i : Nat} (h : Rd w r s i) (hb : Below w.heap.size w w') : Rd w' r s i := IBox.below h hb (IBox.lt h)
abbrev At (r : Nat) : Value := .pointer (some ⟨r, 0, none⟩)
/-- From w to w' nothing has changed but block r (and new ones). -/
abbrev Mv (r : Nat) (w w' : World) : Prop := Bes (fun k => k = r) w w'
theorem Mv.refl (r : Nat) (w : World) : Mv r w w := Bes.of_below (Below.refl _ _)
theorem Mv.trans {r : Nat} {a b c : World} (h : Mv r a b) (k : Mv r b c) : Mv r a c := Bes.trans h k (fun _ x => x) (fun _ _ x => x)
theorem Mv.of {r : Nat} {w w' : World} (h : Below w.heap.size w w') : Mv r w w' := Bes.of_below h
theorem drewN_mv (r : Nat) (w : World) (n : Nat) : Mv r w (w.drewN n) := Mv.of ⟨rfl, rfl, rfl, Nat.le_refl _, fun _ _ => rfl⟩
theorem drewN_below (w : World) (n : Nat) : Below w.heap.size w (w.drewN n) := ⟨rfl, rfl, rfl, Nat.le_refl _, fun _ _ => rfl⟩
theorem Rd.drewN {w : World} {r : Nat} {s : ByteArray} {i : Nat} (h : Rd w r s i) (n : Nat) : Rd (w.drewN n) r s i := h
/-- The place of the reader, off the memory. -/
def atOf (w : World) (r : Nat) : Nat := match w.cell? ⟨r, 1, none⟩ with
  | some (.int _ k) => k.toNat
  | _ => 0
theorem Rd.at {w : World} {r : Nat} {s : ByteArray} {i : Nat} (h : Rd w r s i) : atOf w r = i := by unfold atOf; rw [h.c1]; simp
/-- The reader goes to another place. -/
theorem Rd.step {w w' : World} {r : Nat} {s : ByteArray} {i k : Nat} (h : Rd w r s i) (hw : Hid (w' = w.setRow r (#[.string s, .int .i64 i].setIfInBounds 1 (.int .i64 k)))) : Rd w' r s k ∧ Mv r w w' :=
  ⟨hid_row hw h, Bes.row (X := fun k => k = r) hw rfl⟩
theorem Rd.f1 {w : World} {r : Nat} {s : ByteArray} {i : Nat} (h : Rd w r s i) : w.frozen? ⟨r, 1, none⟩ = false := IBox.frozen h 1
theorem Rd.set {w : World} {r : Nat} {s : ByteArray} {i : Nat} (h : Rd w r s i) {x : Int} {k : Nat} (hx : x = (k : Int)) : Rd (w.setCell ⟨r, 1, none⟩ (.int .i64 x)) r s k ∧ Mv r w (w.setCell ⟨r, 1, none⟩ (.int .i64 x)) := by
  subst hx
  rw [setCell_eq_setRow w r 1 _ _ (0, 0) _ h]
  exact Rd.step h (Lib.hid rfl)
theorem info_reader : (Tryz.prog.info? 3).map (·.size) = some 1 := by kernel_rfl
set_option maxRecDepth 10000 in
theorem peek_any {w : World} {r : Nat} {s : ByteArray} {i : Nat} (h : Rd w r s i) :
    Calls Tryz.prog 55 #[At r] w fun e w' => e = .returned (.int .i64 (pk s i)) ∧ ∃ m, w' = w.drewN m := by
  have c0 := h.c0
  have c1 := h.c1
  have hb := get_bt s
  have b0 := bt_nonneg s i
  have b1 := bt_le s i
  by_cases hlt : i < s.size
  · have hlt' : (i : Int) < (s.size : Int) := by omega
    have h0 : ¬ (i : Int) < 0 := by omega
    go_enter Tryz.func55, Tryz.ntmps55
    go_wp2
    go_quiet (fail)
    go_wp2
    go_quiet (fail)
    go_wp2
    go_ret
    exact ⟨by rw [pk_in hlt]; rfl, _, World.drewN_drewN _ _ _⟩
  · have hlt' : ¬ (i : Int) < (s.size : Int) := by omega
    go_enter Tryz.func55, Tryz.ntmps55
    go_wp2
    go_quiet (fail)
    go_wp2
    go_ret
    exact ⟨by rw [pk_end (by omega)]; rfl, _, rfl⟩
/-- The call gave up: number c at place p. -/
def Pan (e : Ending) (w' : World) (c : Int) (p : Nat) : Prop := ∃ g, e = .panicked [{ v := .iface 66 (At g), recovered := false }] ∧ IBox w' g 96 #[.int .i64 p, .iface 31 (.int .i64 c)]
theorem fail_any (r : Nat) (c : Int) (p : Nat) (w : World) : Calls Tryz.prog 39 #[At r, .int .i64 c, .int .i64 p] w fun e w' => Pan e w' c p ∧ Below w.heap.size w w' := by
  go_enter Tryz.func39, Tryz.ntmps39
  go_wp2_with (refine wpl_box_at rfl 96 (.tmp 9) rfl _ rfl ?_; intro w1 hw)
  exact ⟨rfl, ⟨_, rfl, (hid_alloc hw).1⟩, hid_grow hw⟩
/-- What a call that reads leaves: the reader behind what was read, or the panic. -/
def Got {α : Type} (o : Out α) (r : Nat) (s : ByteArray) (w : World) (V : α → Ending → World → Prop) (e : Ending) (w' : World) : Prop :=
  Mv r w w' ∧ (match o with
    | .ok x k => V x e w' ∧ Rd w' r s k
    | .bad c p => Pan e w' c p)
theorem Got.ok {α : Type} {o : Out α} {r : Nat} {s : ByteArray} {w w' : World} {V : α → Ending → World → Prop} {e : Ending} {x : α} {k : Nat} (ho : o = .ok x k) (hm : Mv r w w') (hv : V x e w') (hr : Rd w' r s k) : Got o r s w V e w' := by subst ho; exact ⟨hm, hv, hr⟩
theorem Got.bad {α : Type} {o : Out α} {r : Nat} {s : ByteArray} {w w' : World} {V : α → Ending → World → Prop} {e : Ending} {c : Int} {p : Nat} (ho : o = .bad c p) (hm : Mv r w w') (hp : Pan e w' c p) : Got o r s w V e w' := by subst ho; exact ⟨hm, hp⟩
abbrev Unit0 (_ : Unit) (e : Ending) (_ : World) : Prop := e = .returned (.tuple #[])
theorem pk_nonneg {s : ByteArray} {k : Nat} (h : 0 ≤ pk s k) : k < s.size := by
  rcases Nat.lt_or_ge k s.size with h1 | h1
  · exact h1
  · rw [pk_end h1] at h; omega
theorem pk_le (s : ByteArray) (k : Nat) : pk s k ≤ 255 := by unfold pk; split; exact bt_le s k; omega
theorem pk_ge (s : ByteArray) (k : Nat) : -1 ≤ pk s k := by unfold pk; split; have := bt_nonneg s k; omega; omega
theorem word_step {s v : ByteArray} {j k : Nat} (hj : j < v.size) (h : pk s k = bt v j) : wordTo s v (v.size - j) k = wordTo s v (v.size - (j + 1)) (k + 1) := by
  rw [show v.size - j = (v.size - (j + 1)) + 1 by omega]
  conv => lhs; unfold wordTo
  rw [if_pos (by rw [h]; congr 1; omega)]
theorem word_bad {s v : ByteArray} {j k : Nat} (hj : j < v.size) (h : ¬ pk s k = bt v j) : wordTo s v (v.size - j) k = .bad 3 k := by
  rw [show v.size - j = (v.size - (j + 1)) + 1 by omega]
  conv => lhs; unfold wordTo
  rw [if_neg (by rw [show v.size - (v.size - (j + 1) + 1) = j by omega]; exact h)]
theorem word_end {s v : ByteArray} {j k : Nat} (hj : ¬ j < v.size) : wordTo s v (v.size - j) k = .ok () k := by
  rw [show v.size - j = 0 by omega]; rfl
set_option maxRecDepth 10000 in
theorem word_any (v : ByteArray) {w : World} {r : Nat} {s : ByteArray} {i : Nat} (h : Rd w r s i) (hi : i ≤ s.size) (hs : s.size ≤ 65536) (hv : v.size ≤ 65536) :
    Calls Tryz.prog 56 #[At r, .string v] w (Got (wordTo s v v.size i) r s w Unit0) := by
  have hbs := get_bt v
  go_enter Tryz.func56, Tryz.ntmps56
  go_wp2
  go_loopw [7] (fun iv wr => ∃ j k : Nat, iv = .int .i64 j ∧ j ≤ v.size ∧ k ≤ s.size ∧ Rd wr r s k ∧ Hid (wordTo s v (v.size - j) k = wordTo s v v.size i) ∧ Mv r w wr) (fun iv _ => v.size - (intOf iv).toNat)
  case atStart => exact ⟨0, i, rfl, Nat.zero_le _, hi, h, Lib.hid rfl, Mv.refl _ _⟩
  case round =>
    obtain ⟨j, k, rfl, hj, hk, HR, HS, HM⟩ := hrel
    have c0 := HR.c0
    have c1 := HR.c1
    have f1 := HR.f1
    have b0 := bt_nonneg v j
    have b1 := bt_le v j
    by_cases hlt : j < v.size
    · have hlt' : (j : Int) < (v.size : Int) := by omega
      have h0 : ¬ (j : Int) < 0 := by omega
      by_cases hq : pk s k = bt v j
      · go_wp2
        go_quiet ((go_at_call 55; exact Calls.quiet_of (peek_any (HR.drewN _))))
        go_wp2
        have hk1 := pk_nonneg (by rw [hq]; exact b0)
        have HQ := (HR.drewN nq).set (x := (k : Int) + 1) (k := k + 1) (by omega)
        exact ⟨⟨j + 1, k + 1, by go_num, by omega, by omega, HQ.1, Lib.hid ((word_step hlt hq).symm.trans HS.out), (HM.trans (drewN_mv r wr nq)).trans HQ.2⟩, by simp [intOf]; omega⟩
      · go_wp2
        go_quiet ((go_at_call 55; exact Calls.quiet_of (peek_any (HR.drewN _))))
        go_wp2_with (go_at_call 39; (with_reducible refine (fail_any _ _ _ _).mono ?_); rintro e w3 ⟨⟨g, rfl, hg⟩, hb⟩)
        exact ⟨rfl, Got.bad (HS.out ▸ word_bad hlt hq) ((HM.trans (drewN_mv r wr nq)).trans (Mv.of hb)) ⟨g, rfl, hg⟩⟩
    · go_wp2
      exact bodyPost_ret (results_none rfl _ _ _) rfl (Got.ok (HS.out ▸ word_end hlt) HM rfl HR)
end Go.Proofs.YtnjhmnolngdfaaaGreatDoor
