/- Layer 2: a number's text (coveyref02.figures), walked. -/
import Derived.Test.YtnjhmnolngdfaaaGreatDoorBlA
import Derived.Test.YtnjhmnolngdfaaaGreatDoorAppC
namespace Go.Proofs.YtnjhmnolngdfaaaGreatDoor
open Go.RowKit Go.PlainAid
set_option linter.unusedVariables false
set_option linter.unusedSimpArgs false
theorem dig_len : ∀ (n x : Nat), x < 10 ^ n → 0 < n → (dig x).length ≤ n
  | 0, x, _, h => by omega
  | n + 1, x, hx, _ => by
    by_cases h : x < 10
    · rw [dec_lt h]; simp
    · rw [dec_ge h, List.length_append]
      have hn : 0 < n := by
        rcases Nat.eq_zero_or_pos n with h0 | h0
        · subst h0; simp at hx; omega
        · exact h0
      have := dig_len n (x / 10) (by rw [Nat.pow_succ] at hx; omega) hn
      simp
      omega
def u64Top : Int := 18446744073709551616
theorem fig_u64 (n : Int) (h : I64 n) (hn : n < 0) : IntKind.u64.wrap n = n + u64Top ∧ IntKind.u64.wrap (0 - (n + u64Top)) = (n.natAbs : Int) := by
  unfold I64 at h
  unfold u64Top
  rw [IntKind.wrap_u64, IntKind.wrap_u64]
  constructor <;> omega
theorem fig_u64p (n : Int) (h : I64 n) (hn : ¬ n < 0) : IntKind.u64.wrap n = (n.natAbs : Int) := by
  unfold I64 at h
  rw [IntKind.wrap_u64]
  omega
/-- The digits so far, and what is left of the number. -/
def FigL (N : Nat) (L : List UInt8) (X : Nat) : Prop := (L = [] ∧ X = N) ∨ (X = 0 ∧ L = dig N) ∨ (0 < X ∧ dig X ++ L = dig N)
theorem fig_step {N X : Nat} {L : List UInt8} (h : FigL N L X) (hg : 0 < X ∨ L = []) : FigL N ((48 + X % 10).toUInt8 :: L) (X / 10) := by
  have key : dig X ++ L = dig N := by
    rcases h with ⟨h1, h2⟩ | ⟨h1, h2⟩ | ⟨h1, h2⟩
    · rw [h1, h2, List.append_nil]
    · rcases hg with hg | hg
      · omega
      · rw [hg] at h2
        obtain ⟨_, _, c, r, h3, _⟩ := dig_spec (N + 1) N (Nat.lt_succ_self _)
        rw [h3] at h2; cases h2
    · exact h2
  by_cases hx : X < 10
  · refine .inr (.inl ⟨by omega, ?_⟩)
    rw [dec_lt hx] at key
    rw [← key, show X % 10 = X by omega]; rfl
  · refine .inr (.inr ⟨by omega, ?_⟩)
    rw [dec_ge hx, List.append_assoc] at key
    exact key
theorem fig_done {N X : Nat} {L : List UInt8} (h : FigL N L X) (h0 : ¬ 0 < X) (hL : L ≠ []) : L = dig N := by
  rcases h with ⟨h1, h2⟩ | ⟨h1, h2⟩ | ⟨h1, h2⟩
  · exact absurd h1 hL
  · exact h2
  · omega
theorem fig_short {N X : Nat} {L : List UInt8} (h : FigL N L X) (hN : N < 100000000000000000000) : L.length ≤ 20 := by
  have := dig_len 20 N (by omega) (by omega)
  rcases h with ⟨h1, h2⟩ | ⟨h1, h2⟩ | ⟨h1, h2⟩
  · rw [h1]; simp
  · rw [h2]; exact this
  · have h3 := congrArg List.length h2
    rw [List.length_append] at h3
    omega
theorem dbyte2 (d : Nat) (h : d < 10) : ((48 + d).toUInt8.toNat : Int) = 48 + (d : Int) := by rw [dbyte h]; omega
theorem cat_list (a b : List UInt8) : (⟨a.toArray⟩ : ByteArray) ++ ⟨b.toArray⟩ = ⟨(a ++ b).toArray⟩ := by
  apply ByteArray.ext
  simp
def emptyN : Value → Nat
  | .string s => if s.size = 0 then 1 else 0
  | _ => 0
theorem emp_cons (c : UInt8) (L : List UInt8) : emptyN (.string ((⟨[c].toArray⟩ : ByteArray) ++ ⟨L.toArray⟩)) = 0 := by
  rw [cat_list]
  unfold emptyN
  simp [ByteArray.size]
theorem fig_cells (X : Nat) {c : UInt8} (hc : c = (48 + X % 10).toUInt8) : (#[.int .u8 (48 + (X : Int) % 10)] : Array Value).toList = Lib.byteCells [c] := by
  subst hc
  unfold Lib.byteCells
  rw [List.map_cons, List.map_nil, dbyte2 _ (by omega)]
  rfl
set_option maxRecDepth 10000 in
set_option maxHeartbeats 4000000 in
theorem figures_any {n : Int} (hn : I64 n) (w : World) : Calls Tryz.prog 62 #[.int .i64 n] w fun e w' => e = .returned (.string ⟨(figL n).toArray⟩) ∧ Below w.heap.size w w' := by
  obtain ⟨N, hN⟩ : ∃ N, N = n.natAbs := ⟨_, rfl⟩
  have HB := Below.refl w.heap.size w
  have hNB : N ≤ 9223372036854775808 := by unfold I64 at hn; omega
  have HNB := Lib.hid hNB
  clear hNB
  by_cases hneg : n < 0
  · obtain ⟨e1, e2⟩ := fig_u64 n hn hneg
    have e3 : IntKind.u64.wrap (-(n + u64Top)) = (N : Int) := by rw [hN, ← e2]; congr 1; omega
    have HN := Lib.hid hN
    clear hN hn e2
    go_enter Tryz.func62, Tryz.ntmps62
    go_wp2
    clear e1 e3
    go_loopw [3, 4] (fun sv xv wr => ∃ (L : List UInt8) (X : Nat), sv = .string ⟨L.toArray⟩ ∧ xv = .int .u64 X ∧ X ≤ N ∧ Hid (FigL N L X) ∧ Below w.heap.size w wr) (fun sv xv _ => (intOf xv).toNat * 2 + emptyN sv)
    case atStart => exact ⟨[], N, rfl, rfl, Nat.le_refl _, Lib.hid (.inl ⟨rfl, rfl⟩), HB⟩
    case round =>
      clear HB
      obtain ⟨L, X, rfl, rfl, hX, HF, HB⟩ := hrel
      have q0 : 0 ≤ (X : Int) % 10 := by omega
      have q1 : (X : Int) % 10 ≤ 9 := by omega
      have q2 : 0 ≤ (X : Int) / 10 := by omega
      have q3 : (X : Int) / 10 ≤ 922337203685477581 := by have := HNB.out; omega
      have hsh := fig_short HF.out (by have := HNB.out; omega)
      have hbz := HB.size
      by_cases hX0 : 0 < X
      · obtain ⟨c, hc⟩ : ∃ c : UInt8, c = (48 + X % 10).toUInt8 := ⟨_, rfl⟩
        have HC := Lib.hid hc
        have hst : Hid (FigL N (c :: L) (X / 10)) := Lib.hid (by rw [hc]; exact fig_step HF.out (.inl hX0))
        clear hc
        have hX1 : (0 : Int) < (X : Int) := by omega
        go_wp2_with (first
          | ((with_reducible refine is_convert ?_); refine wpl_own_text rfl (.tmp 21) 46 9 rfl Tryz.underlying46 Tryz.underlying9 w.heap.size _ [c] rfl (own_box (IBox.new _ _ _) (fig_cells X HC.out) hbz rfl (by unfold maxLen; decide)) ?_))
        exact ⟨⟨c :: L, X / 10, by rw [cat_list]; rfl, rfl, by omega, hst.out, HB.trans ((Below.refl _ _).alloc hbz _)⟩, by have he := emp_cons c L; simp [intOf] at he ⊢; omega⟩
      · obtain rfl : X = 0 := by omega
        cases L with
        | nil =>
          have hst : Hid (FigL N [48] 0) := Lib.hid (fig_step HF.out (.inr rfl))
          go_wp2_with (first
            | ((with_reducible refine is_convert ?_); refine wpl_own_text rfl (.tmp 21) 46 9 rfl Tryz.underlying46 Tryz.underlying9 w.heap.size _ [48] rfl (own_box (IBox.new _ _ _) rfl hbz rfl (by unfold maxLen; decide)) ?_))
          exact ⟨⟨[48], 0, rfl, rfl, by omega, hst.out, HB.trans ((Below.refl _ _).alloc hbz _)⟩, by simp only [intOf]; decide⟩
        | cons c r =>
          have hdone := Lib.hid (fig_done HF.out (by omega) (by simp))
          have hsh2 : r.length ≤ 19 := by simp at hsh; omega
          clear hsh
          go_wp2
          go_ret
          have hf : figL n = 45 :: dig N := by unfold figL; rw [if_pos hneg, HN.out]
          rw [hf, ← hdone.out]
          exact ⟨congrArg (fun x => Ending.returned (.string x)) (cat_list [45] (c :: r)), HB⟩
  · have e1 := fig_u64p n hn hneg
    rw [← hN] at e1
    have HN := Lib.hid hN
    clear hN hn
    go_enter Tryz.func62, Tryz.ntmps62
    go_wp2
    clear e1
    go_loopw [3, 4] (fun sv xv wr => ∃ (L : List UInt8) (X : Nat), sv = .string ⟨L.toArray⟩ ∧ xv = .int .u64 X ∧ X ≤ N ∧ Hid (FigL N L X) ∧ Below w.heap.size w wr) (fun sv xv _ => (intOf xv).toNat * 2 + emptyN sv)
    case atStart => exact ⟨[], N, rfl, rfl, Nat.le_refl _, Lib.hid (.inl ⟨rfl, rfl⟩), HB⟩
    case round =>
      clear HB
      obtain ⟨L, X, rfl, rfl, hX, HF, HB⟩ := hrel
      have q0 : 0 ≤ (X : Int) % 10 := by omega
      have q1 : (X : Int) % 10 ≤ 9 := by omega
      have q2 : 0 ≤ (X : Int) / 10 := by omega
      have q3 : (X : Int) / 10 ≤ 922337203685477581 := by have := HNB.out; omega
      have hsh := fig_short HF.out (by have := HNB.out; omega)
      have hbz := HB.size
      by_cases hX0 : 0 < X
      · obtain ⟨c, hc⟩ : ∃ c : UInt8, c = (48 + X % 10).toUInt8 := ⟨_, rfl⟩
        have HC := Lib.hid hc
        have hst : Hid (FigL N (c :: L) (X / 10)) := Lib.hid (by rw [hc]; exact fig_step HF.out (.inl hX0))
        clear hc
        have hX1 : (0 : Int) < (X : Int) := by omega
        go_wp2_with (first
          | ((with_reducible refine is_convert ?_); refine wpl_own_text rfl (.tmp 21) 46 9 rfl Tryz.underlying46 Tryz.underlying9 w.heap.size _ [c] rfl (own_box (IBox.new _ _ _) (fig_cells X HC.out) hbz rfl (by unfold maxLen; decide)) ?_))
        exact ⟨⟨c :: L, X / 10, by rw [cat_list]; rfl, rfl, by omega, hst.out, HB.trans ((Below.refl _ _).alloc hbz _)⟩, by have he := emp_cons c L; simp [intOf] at he ⊢; omega⟩
      · obtain rfl : X = 0 := by omega
        cases L with
        | nil =>
          have hst : Hid (FigL N [48] 0) := Lib.hid (fig_step HF.out (.inr rfl))
          go_wp2_with (first
            | ((with_reducible refine is_convert ?_); refine wpl_own_text rfl (.tmp 21) 46 9 rfl Tryz.underlying46 Tryz.underlying9 w.heap.size _ [48] rfl (own_box (IBox.new _ _ _) rfl hbz rfl (by unfold maxLen; decide)) ?_))
          exact ⟨⟨[48], 0, rfl, rfl, by omega, hst.out, HB.trans ((Below.refl _ _).alloc hbz _)⟩, by simp only [intOf]; decide⟩
        | cons c r =>
          have hdone := Lib.hid (fig_done HF.out (by omega) (by simp))
          go_wp2
          go_ret
          have hf : figL n = dig N := by unfold figL; rw [if_neg (by omega), HN.out]
          rw [hf, ← hdone.out]
          exact ⟨rfl, HB⟩
end Go.Proofs.YtnjhmnolngdfaaaGreatDoor
