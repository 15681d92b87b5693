/- Layer 13: names.Server against the reference's: the plain law, and the walk. -/
import Derived.Test.YtmpoejgclalmfaaGreatNamesD
import Derived.Test.YtmpoejgclalmfaaGreatNamesR
import Derived.Lib.IndexMore
namespace Go.Proofs.YtmpoejgclalmfaaGreat
open Go.RowKit Go.PlainAid
set_option linter.unusedVariables false

/-! ### The plain law -/
theorem bt_get (s : ByteArray) (j : Nat) (h : j < s.data.toList.length) : bt s j = ((s.data.toList[j]'h).toNat : Int) := by
  unfold bt
  rw [dif_pos (by rw [Lib.size_eq]; exact h)]
  rfl

theorem bt_some (s : ByteArray) (j : Nat) (a : UInt8) (h : s.data.toList[j]? = some a) : j < s.size ∧ bt s j = a.toNat := by
  obtain ⟨hl, he⟩ := List.getElem?_eq_some_iff.1 h
  exact ⟨by rw [Lib.size_eq]; exact hl, by rw [bt_get s j hl, he]⟩

theorem bt_is (s : ByteArray) (j : Nat) (a : UInt8) (hj : j < s.size) (h : bt s j = a.toNat) : s.data.toList[j]? = some a := by
  have hl : j < s.data.toList.length := by rw [← Lib.size_eq]; exact hj
  rw [bt_get s j hl] at h
  rw [List.getElem?_eq_getElem hl]
  exact congrArg some (UInt8.toNat_inj.1 (by omega))

theorem occ2 (s : ByteArray) (a b : UInt8) (j : Nat) : Lib.occAt s.data.toList [a, b] j = true ↔ (j + 1 < s.size ∧ bt s j = a.toNat ∧ bt s (j + 1) = b.toNat) := by
  unfold Lib.occAt
  rw [List.isPrefixOf_iff_prefix]
  constructor
  · rintro ⟨t, ht⟩
    have e0 : s.data.toList[j]? = some a := by
      have : (s.data.toList.drop j)[0]? = some a := by rw [← ht]; rfl
      rwa [List.getElem?_drop] at this
    have e1 : s.data.toList[j + 1]? = some b := by
      have : (s.data.toList.drop j)[1]? = some b := by rw [← ht]; rfl
      rwa [List.getElem?_drop] at this
    exact ⟨(bt_some s _ _ e1).1, (bt_some s _ _ e0).2, (bt_some s _ _ e1).2⟩
  · rintro ⟨h1, h2, h3⟩
    have e0 := bt_is s j a (by omega) h2
    have e1 := bt_is s (j + 1) b h1 h3
    obtain ⟨hl0, he0⟩ := List.getElem?_eq_some_iff.1 e0
    obtain ⟨hl1, he1⟩ := List.getElem?_eq_some_iff.1 e1
    refine ⟨s.data.toList.drop (j + 2), ?_⟩
    rw [List.drop_eq_getElem_cons hl0, List.drop_eq_getElem_cons hl1, he0, he1]
    rfl

theorem contains2 (s : ByteArray) (a b : UInt8) : Lib.contains s.data.toList [a, b] = true ↔ ∃ j, j + 1 < s.size ∧ bt s j = a.toNat ∧ bt s (j + 1) = b.toNat := by
  unfold Lib.contains
  rw [decide_eq_true_eq]
  constructor
  · intro h
    by_cases hex : ∃ j, j + 1 < s.size ∧ bt s j = a.toNat ∧ bt s (j + 1) = b.toNat
    · exact hex
    · have : Lib.index s.data.toList [a, b] = -1 := by
        refine Lib.index_none fun j _ => ?_
        rw [Bool.eq_false_iff]
        intro ho
        exact hex ⟨j, (occ2 s a b j).1 ho⟩
      omega
  · rintro ⟨j, hj⟩
    have ho := (occ2 s a b j).2 hj
    have hge := Lib.index_ge s.data.toList [a, b]
    by_cases hm : Lib.index s.data.toList [a, b] = -1
    · exfalso
      have key : ∀ (l : List UInt8), Lib.index l [a, b] = -1 → ∀ j, Lib.occAt l [a, b] j = false := by
        intro l
        induction l with
        | nil => intro _ j; cases j <;> rfl
        | cons x l ih =>
          intro hx j
          unfold Lib.index at hx
          split at hx
          · cases hx
          · rename_i hnp
            split at hx
            · rename_i he
              cases j with
              | zero => exact Bool.eq_false_iff.2 hnp
              | succ j => exact ih (beq_iff_eq.1 he) j
            · have := Lib.index_ge l [a, b]
              omega
      rw [key _ hm j] at ho
      cases ho
    · omega

theorem allB_iff (l : List UInt8) (p : Int → Bool) : allB l p = true ↔ ∀ x ∈ l, p x.toNat = true := by
  unfold allB; rw [List.all_eq_true]
theorem allB_bt (s : ByteArray) (p : Int → Bool) : allB s.data.toList p = true ↔ ∀ j, j < s.size → p (bt s j) = true := by
  rw [allB_iff]
  constructor
  · intro h j hj
    have hl : j < s.data.toList.length := by rw [← Lib.size_eq]; exact hj
    rw [bt_get s j hl]
    exact h _ (List.getElem_mem hl)
  · intro h x hx
    obtain ⟨j, hl, rfl⟩ := List.mem_iff_getElem.1 hx
    rw [← bt_get s j hl]
    exact h j (by rw [Lib.size_eq]; exact hl)

/-- What the program asks. -/
def serverP (s : ByteArray) : Bool :=
  allB s.data.toList srvI && smallI (bt s 0) && smallI (bt s (s.size - 1)) && !Lib.contains s.data.toList [46, 46] && !Lib.contains s.data.toList [46, 45] && !Lib.contains s.data.toList [45, 46]

theorem okAt_iff (s : ByteArray) (i : Nat) : okAt s i = true ↔
    (smallI (bt s i) = true ∨ (i ≠ 0 ∧ i + 1 ≠ s.size ∧ (bt s i = 46 ∨ bt s i = 45))) ∧
    (i = 0 ∨ ¬ ((bt s i = 46 ∧ bt s (i - 1) = 46) ∨ (bt s i = 46 ∧ bt s (i - 1) = 45) ∨ (bt s i = 45 ∧ bt s (i - 1) = 46))) := by
  unfold okAt
  simp only [Bool.and_eq_true, Bool.or_eq_true, Bool.not_eq_true', Bool.or_eq_false_iff, Bool.and_eq_false_iff, decide_eq_true_eq, decide_eq_false_iff_not]
  constructor
  · rintro ⟨h1, h2⟩
    refine ⟨?_, ?_⟩
    · rcases h1 with h | ⟨⟨a, b⟩, c⟩
      · exact .inl h
      · exact .inr ⟨a, b, c⟩
    · rcases h2 with h | h
      · exact .inl h
      · right; omega
  · rintro ⟨h1, h2⟩
    refine ⟨?_, ?_⟩
    · rcases h1 with h | ⟨a, b, c⟩
      · exact .inl h
      · exact .inr ⟨⟨a, b⟩, c⟩
    · rcases h2 with h | h
      · exact .inl h
      · right; omega

theorem srv_iff (c : Int) : srvI c = true ↔ (smallI c = true ∨ c = 46 ∨ c = 45) := by
  unfold srvI
  simp only [Bool.or_eq_true, decide_eq_true_eq]
  constructor
  · rintro ((h | h) | h) <;> simp [h]
  · rintro (h | h | h) <;> simp [h]

theorem server_same (s : ByteArray) (h1 : 1 ≤ s.size) (h2 : s.size ≤ 64) : serverP s = serverR s := by
  have hz : serverR s = (List.range s.size).all (okAt s) := by
    unfold serverR; rw [decide_eq_true h1, decide_eq_true h2]; rfl
  rw [hz, Bool.eq_iff_iff, List.all_eq_true]
  unfold serverP
  simp only [Bool.and_eq_true, Bool.not_eq_true', Bool.eq_false_iff, ne_eq, contains2, allB_bt, srv_iff, List.mem_range, okAt_iff]
  constructor
  · rintro ⟨⟨⟨⟨⟨ha, hf⟩, hl⟩, n1⟩, n2⟩, n3⟩ i hi
    refine ⟨?_, ?_⟩
    · rcases ha i hi with h | h
      · exact .inl h
      · by_cases i0 : i = 0
        · subst i0; exact .inl hf
        · by_cases i1 : i + 1 = s.size
          · have : s.size - 1 = i := by omega
            rw [this] at hl
            exact .inl hl
          · exact .inr ⟨i0, i1, h⟩
    · by_cases i0 : i = 0
      · exact .inl i0
      · right
        obtain ⟨j, rfl⟩ : ∃ j, i = j + 1 := ⟨i - 1, by omega⟩
        rw [Nat.add_sub_cancel]
        rintro (⟨a, b⟩ | ⟨a, b⟩ | ⟨a, b⟩)
        · exact n1 ⟨j, hi, b, a⟩
        · exact n3 ⟨j, hi, b, a⟩
        · exact n2 ⟨j, hi, b, a⟩
  · intro h
    refine ⟨⟨⟨⟨⟨?_, ?_⟩, ?_⟩, ?_⟩, ?_⟩, ?_⟩
    · intro j hj
      rcases (h j hj).1 with h | h
      · exact .inl h
      · exact .inr h.2.2
    · rcases (h 0 (by omega)).1 with h | h
      · exact h
      · exact absurd rfl h.1
    · rcases (h (s.size - 1) (by omega)).1 with h | h
      · exact h
      · omega
    · rintro ⟨j, hj, a, b⟩
      have := (h (j + 1) hj).2
      rw [Nat.add_sub_cancel] at this
      rcases this with h | h
      · omega
      · exact h (.inl ⟨b, a⟩)
    · rintro ⟨j, hj, a, b⟩
      have := (h (j + 1) hj).2
      rw [Nat.add_sub_cancel] at this
      rcases this with h | h
      · omega
      · exact h (.inr (.inr ⟨b, a⟩))
    · rintro ⟨j, hj, a, b⟩
      have := (h (j + 1) hj).2
      rw [Nat.add_sub_cancel] at this
      rcases this with h | h
      · omega
      · exact h (.inr (.inl ⟨b, a⟩))

/-! ### The walk -/
/-- The library's variable internal/bytealg.MaxLen holds some number. -/
def HasMax (w : World) : Prop := (∃ m, w.cell? ⟨0, 0, none⟩ = some (.int .i64 m)) ∧ 0 < w.heap.size
theorem HasMax.below {w w' : World} (h : HasMax w) (hb : Below w.heap.size w w') : HasMax w' := by
  obtain ⟨⟨m, hm⟩, hl⟩ := h
  exact ⟨⟨m, (hb.cell (p := ⟨0, 0, none⟩) hl).trans hm⟩, Nat.lt_of_lt_of_le hl hb.size⟩
end Go.Proofs.YtmpoejgclalmfaaGreat
