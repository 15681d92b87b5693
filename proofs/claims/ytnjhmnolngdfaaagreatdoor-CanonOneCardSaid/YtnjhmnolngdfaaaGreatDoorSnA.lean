/- Layer 2: what a sound value is, in plain words; whatever is read is sound. -/
import Derived.Test.YtnjhmnolngdfaaaGreatDoorVsA
import Derived.Test.YtnjhmnolngdfaaaGreatDoorJsC
import Derived.Test.YtnjhmnolngdfaaaGreatDoorJrL
namespace Go.Proofs.YtnjhmnolngdfaaaGreatDoor
open Go.RowKit Go.PlainAid
set_option linter.unusedVariables false
set_option linter.unusedSimpArgs false
/-- One less, as an int64 counts. -/
def lessI (d : Int) : Int := if d = -9223372036854775808 then 9223372036854775807 else d - 1
mutual
def sndT : JT → Int → Bool
  | .mk k b i t l ns vs, d =>
    if k = 0 ∨ k = 1 then true
    else if k = 2 then decide (i ≤ 9007199254740991) && decide (-9007199254740991 ≤ i)
    else if k = 3 then decide (badI t < 0)
    else if k = 4 then sndL l (lessI d) && decide (0 < d)
    else if k = 5 then sndF [] ns vs (lessI d) && decide (0 < d)
    else false
def sndL : List JT → Int → Bool
  | [], _ => true
  | x :: r, d => sndT x d && sndL r d
def sndF : List ByteArray → List ByteArray → List JT → Int → Bool
  | seen, n :: ns, x :: xs, d => (decide (badI n < 0) && sndT x d) && (!hasN seen n && sndF (seen ++ [n]) ns xs d)
  | _, [], _, _ => true
  | _, _ :: _, [], _ => true
end
def txtMost : Nat := 17592186044400
mutual
/-- No text of the value is too long for a row of its characters. -/
def TxtLe : JT → Prop
  | .mk k b i t l ns vs => t.size ≤ txtMost ∧ TxtLeL l ∧ (∀ n ∈ ns, n.size ≤ txtMost) ∧ TxtLeL vs
def TxtLeL : List JT → Prop
  | [] => True
  | x :: r => TxtLe x ∧ TxtLeL r
end
theorem sndL_app : ∀ (l m : List JT) (d : Int), sndL (l ++ m) d = (sndL l d && sndL m d)
  | [], m, d => by simp [sndL]
  | x :: r, m, d => by
    rw [List.cons_append]
    simp only [sndL]
    rw [sndL_app r m d, Bool.and_assoc]
theorem txtL_app : ∀ (l m : List JT), TxtLeL (l ++ m) ↔ TxtLeL l ∧ TxtLeL m
  | [], m => by simp [TxtLeL]
  | x :: r, m => by
    rw [List.cons_append]
    simp only [TxtLeL]
    rw [txtL_app r m, and_assoc]
theorem sndF_app {nm : ByteArray} {t : JT} {d : Int} : ∀ (seen ns : List ByteArray) (ts : List JT), ns.length = ts.length → sndF seen (ns ++ [nm]) (ts ++ [t]) d = (sndF seen ns ts d && ((decide (badI nm < 0) && sndT t d) && !hasN (seen ++ ns) nm))
  | seen, [], [], _ => by simp [sndF]
  | seen, [], _ :: _, h => by simp at h
  | seen, _ :: _, [], h => by simp at h
  | seen, n :: ns, x :: xs, h => by
    rw [List.cons_append, List.cons_append]
    simp only [sndF]
    rw [sndF_app (seen ++ [n]) ns xs (by simpa using h), List.append_assoc]
    simp only [List.cons_append, List.nil_append, Bool.and_assoc]
/-- What a row of steps keeps. -/
theorem each_keeps {σ : Type} {s : ByteArray} {endc : Int} {step : Nat → σ → Out σ} {P : σ → Prop} (hst : ∀ i x y k, step i x = .ok y k → P x → P y) : ∀ (n i : Nat) (x y : σ) (k : Nat), eachL s endc step n i x = .ok y k → P x → P y
  | 0, i, x, y, k, h, hx => by unfold eachL at h; cases h
  | n + 1, i, x, y, k, h, hx => by
    unfold eachL at h
    split at h
    · cases h
    · rename_i z q hz
      have hp := hst i x z q hz hx
      split at h
      · injection h with h1 _
        rw [← h1]; exact hp
      · split at h
        · exact each_keeps hst n _ z y k h hp
        · cases h
theorem eachTo_keeps {σ : Type} {s : ByteArray} {endc : Int} {step : Nat → σ → Out σ} {P : σ → Prop} (hst : ∀ i x y k, step i x = .ok y k → P x → P y) {i : Nat} {x y : σ} {k : Nat} (h : eachTo s endc step i x = .ok y k) (hx : P x) : P y := by
  unfold eachTo at h
  split at h
  · injection h with h1 _
    rw [← h1]; exact hx
  · exact each_keeps hst _ _ _ _ _ h hx
theorem hexI_bd {s : ByteArray} {i : Nat} (h : ¬ hexI (pk s i) < 0) : hexI (pk s i) ≤ 15 := by
  unfold hexI digI at *
  repeat' split at h
  all_goals (repeat' split)
  all_goals simp_all
  all_goals omega
theorem hex_lt {s : ByteArray} : ∀ (n i : Nat) (v x : Int) (k : Nat), hexTo s n i v = .ok x k → 0 ≤ v → 0 ≤ x ∧ x < (v + 1) * 16 ^ n
  | 0, i, v, x, k, h, h0 => by unfold hexTo at h; injection h with h1 h2; subst h1; omega
  | n + 1, i, v, x, k, h, h0 => by
    unfold hexTo at h
    split at h
    · cases h
    · rename_i hneg
      have hb := hexI_bd hneg
      have h2 := hex_lt n _ _ _ _ h (by omega)
      refine ⟨h2.1, Int.lt_of_lt_of_le h2.2 ?_⟩
      rw [Int.pow_succ, Int.mul_comm (16 ^ n) 16, ← Int.mul_assoc]
      exact Int.mul_le_mul_of_nonneg_right (by omega) (by have : (0 : Int) < 16 ^ n := Int.pow_pos (by omega); omega)
theorem char_scal {s : ByteArray} {i : Nat} {x : Int} {k : Nat} (h : charTo s i = .ok x k) : Scal x := by
  unfold charTo at h
  split at h
  · rename_i h1
    injection h with h2 _
    have h3 : escI (pk s i) ≤ 92 := by unfold escI; repeat' split; all_goals omega
    unfold Scal; omega
  · split at h
    · cases h
    · split at h
      · cases h
      · rename_i n k1 hk
        have hb := hex_lt 4 _ _ _ _ hk (by omega)
        have hb2 : n < 65536 := by have := hb.2; simp at this; omega
        split at h
        · injection h with h2 _
          unfold Scal; omega
        · split at h
          · split at h
            · cases h
            · split at h
              · injection h with h2 _
                unfold Scal; omega
              · cases h
          · cases h
theorem textL_runes {s : ByteArray} : ∀ (n i : Nat) (acc : List UInt8) (t : ByteArray) (k : Nat), textL s n i acc = .ok t k → Runes acc → Runes t.data.toList
  | 0, i, acc, t, k, h, ha => by unfold textL at h; cases h
  | n + 1, i, acc, t, k, h, ha => by
    unfold textL at h
    split at h
    · cases h
    · split at h
      · injection h with h1 _
        rw [← h1]
        simpa using ha
      · split at h
        · split at h
          · cases h
          · rename_i x q hq
            exact textL_runes n _ _ t k h (ha.app (Runes.one (char_scal hq)))
        · split at h
          · cases h
          · rename_i hb
            refine textL_runes n _ _ t k h (ha.app (Runes.one ?_))
            rw [← Lib.decodeL_drop]
            exact dec_scal _ (by rw [Lib.decodeL_drop]; exact hb)
theorem text_good {s : ByteArray} {i : Nat} {t : ByteArray} {k : Nat} (h : textTo s i = .ok t k) : badI t < 0 := (badI_valid t).2 (textL_runes _ _ _ t k h .nil).valid
theorem num_good {s : ByteArray} {i : Nat} {x : Int} {k : Nat} (h : numTo s i = .ok x k) : x ≤ 9007199254740991 ∧ -9007199254740991 ≤ x := by
  have key : ∀ {neg : Bool} {j : Nat}, numAt s neg i j = .ok x k → x ≤ 9007199254740991 ∧ -9007199254740991 ≤ x := fun {neg j} h => by
    unfold numAt at h
    split at h
    · cases h
    · rename_i h1
      split at h
      · cases h
      · rename_i h2
        injection h with h3 _
        have h0 := numVal_nonneg (s := s) (j := j) (by simpa using h1)
        cases neg <;> simp at h3 <;> omega
  unfold numTo at h
  split at h
  · exact key h
  · exact key h
theorem map_ok {α β : Type} {o : Out α} {f : α → β} {y : β} {k : Nat} (h : o.map f = .ok y k) : ∃ x, o = .ok x k ∧ f x = y := by
  cases o with
  | bad c p => cases h
  | ok x q => injection h with h1 h2; subst h2; exact ⟨x, rfl, h1⟩
/-- What is read within d more lists and objects is sound there. -/
def GoodT (d : Nat) (t : JT) : Prop := sndT t (d : Int) = true ∧ TxtLe t
theorem less_nat (d : Nat) : lessI ((d + 1 : Nat) : Int) = (d : Int) := by unfold lessI; rw [if_neg (by omega)]; omega
theorem good_leaf {d : Nat} {k i : Int} {b : Bool} {t : ByteArray} (hs : sndT (.mk k b i t [] [] []) (d : Int) = true) (ht : t.size ≤ txtMost) : GoodT d (.mk k b i t [] [] []) := ⟨hs, by unfold TxtLe TxtLeL; exact ⟨ht, True.intro, (fun n hn => by cases hn), True.intro⟩⟩
theorem value_good {s : ByteArray} (hs : s.size ≤ 65536) : ∀ (d i : Nat) (t : JT) (k : Nat), valueTo s d i = .ok t k → GoodT d t
  | d, i, t, k, h => by
    have z0 : (⟨#[]⟩ : ByteArray).size ≤ txtMost := by decide
    unfold valueTo at h
    split at h
    · obtain ⟨x, _, rfl⟩ := map_ok h
      exact good_leaf (by unfold sndT; simp) z0
    · split at h
      · obtain ⟨x, _, rfl⟩ := map_ok h
        exact good_leaf (by unfold sndT; simp) z0
      · split at h
        · obtain ⟨x, _, rfl⟩ := map_ok h
          exact good_leaf (by unfold sndT; simp) z0
        · split at h
          · obtain ⟨x, hx, rfl⟩ := map_ok h
            have hb := num_good hx
            exact good_leaf (by unfold sndT; simp; exact hb) z0
          · split at h
            · rename_i h0
              obtain ⟨x, hx, rfl⟩ := map_ok h
              have hb := text_good hx
              have hz := text_size hx (pk_lt h0 (by omega))
              exact good_leaf (by unfold sndT; simp; exact hb) (by unfold txtMost; omega)
            · split at h
              · cases h
              · cases d with
                | zero => cases h
                | succ d =>
                  simp only at h
                  split at h
                  · obtain ⟨l, hl, rfl⟩ := map_ok h
                    have hP := eachTo_keeps (P := fun l => sndL l (d : Int) = true ∧ TxtLeL l) (fun i x y k hy hx => by
                      obtain ⟨t, ht, rfl⟩ := map_ok hy
                      have hg := value_good hs d i t k ht
                      exact ⟨by rw [sndL_app, hx.1]; simp [sndL, hg.1], (txtL_app _ _).2 ⟨hx.2, by unfold TxtLeL TxtLeL; exact ⟨hg.2, True.intro⟩⟩⟩) hl ⟨by simp [sndL], by unfold TxtLeL; exact True.intro⟩
                    refine ⟨?_, ?_⟩
                    · unfold jList sndT
                      rw [less_nat]
                      simp [hP.1]
                    · unfold jList TxtLe
                      exact ⟨z0, hP.2, (fun n hn => by cases hn), by unfold TxtLeL; exact True.intro⟩
                  · obtain ⟨x, hx, rfl⟩ := map_ok h
                    have hP := eachTo_keeps (P := fun x : List ByteArray × List JT => x.1.length = x.2.length ∧ sndF [] x.1 x.2 (d : Int) = true ∧ (∀ n ∈ x.1, n.size ≤ txtMost) ∧ TxtLeL x.2) (fun i x y k hy hx => by
                      unfold objStep at hy
                      split at hy
                      · rename_i h34
                        split at hy
                        · cases hy
                        · rename_i nm q hq
                          split at hy
                          · cases hy
                          · rename_i hh
                            split at hy
                            · cases hy
                            · obtain ⟨t, ht, rfl⟩ := map_ok hy
                              have hg := value_good hs d _ t k ht
                              have hb := text_good hq
                              have hz := text_size hq (pk_lt h34 (by omega))
                              obtain ⟨p1, p2, p3, p4⟩ := hx
                              refine ⟨by simp [p1], ?_, fun n hn => ?_, (txtL_app _ _).2 ⟨p4, by unfold TxtLeL TxtLeL; exact ⟨hg.2, True.intro⟩⟩⟩
                              · show sndF [] (x.1 ++ [nm]) (x.2 ++ [t]) (d : Int) = true
                                rw [sndF_app [] x.1 x.2 p1, p2, List.nil_append]
                                have hh2 : hasN x.1 nm = false := by simpa using hh
                                simp [hb, hg.1, hh2]
                              · rcases List.mem_append.1 hn with h1 | h1
                                · exact p3 n h1
                                · obtain rfl : n = nm := by simpa using h1
                                  unfold txtMost; omega
                      · cases hy) hx ⟨rfl, by simp [sndF], (fun n hn => by cases hn), by unfold TxtLeL; exact True.intro⟩
                    refine ⟨?_, ?_⟩
                    · unfold jObj sndT
                      rw [less_nat]
                      simp [hP.2.1]
                    · unfold jObj TxtLe
                      exact ⟨z0, by unfold TxtLeL; exact True.intro, hP.2.2.1, hP.2.2.2⟩
theorem parse_good {s : ByteArray} {t : JT} {k : Nat} (hs : s.size ≤ 65536) (h : parseTo s = .ok t k) : sndT t 32 = true ∧ TxtLe t := by
  unfold parseTo at h
  split at h
  · cases h
  · rename_i t' k' hv
    split at h
    · cases h
    · injection h with h1 _
      rw [← h1]
      exact value_good hs 32 _ _ _ hv
end Go.Proofs.YtnjhmnolngdfaaaGreatDoor
