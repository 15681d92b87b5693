/- Layer 16: is a value an object of integers? In the program, with its map of names. -/
import Derived.Test.YtpmdpfgaafaceaaAuthL
import Derived.Test.YtpmdpfgaafaceaaMapC
namespace Go.Proofs.Ytpmdpfgaafaceaa
open Go.RowKit
open Go.Maps (Keyed)
set_option linter.unusedVariables false
set_option linter.unusedSimpArgs false

open Classical in
noncomputable def seenF (p : Nat → Prop) (S : Nat → Lit) (k : Nat) (l : Lit) : Int := if ∃ i, i < k ∧ p i ∧ S i = l then 1 else 0
theorem putF_same {f : Lit → Int} {l : Lit} {c : Int} (hl : WideAt.IsKeyLit l) : putF f l c l = c := by
  unfold putF
  rw [if_pos (WideAt.sameKey_self hl)]
theorem seen_zero (p : Nat → Prop) (S : Nat → Lit) (l : Lit) : (0 : Int) = seenF p S 0 l := by
  unfold seenF
  rw [if_neg (by rintro ⟨i, hi, _⟩; omega)]
theorem seen_not {p : Nat → Prop} {S : Nat → Lit} {k : Nat} {l : Lit} (h : ∀ i, i < k → p i → S i ≠ l) : seenF p S k l = 0 := by
  unfold seenF
  rw [if_neg (by rintro ⟨i, hi, hp, e⟩; exact h i hi hp e)]
theorem seen_yes {p : Nat → Prop} {S : Nat → Lit} {k i : Nat} {l : Lit} (hi : i < k) (hp : p i) (e : S i = l) : seenF p S k l = 1 := by
  unfold seenF
  rw [if_pos ⟨i, hi, hp, e⟩]
theorem seen_step {p : Nat → Prop} {S : Nat → Lit} {k : Nat} {l : Lit} (hp : p k) (e : S k = l) (hl : WideAt.IsKeyLit l) : ∀ x, putF (seenF p S k) l 1 x = seenF p S (k + 1) x := by
  intro x
  unfold putF
  by_cases hx : x = l
  · subst hx
    rw [if_pos (WideAt.sameKey_self hl), seen_yes (Nat.lt_succ_self k) hp e]
  · rw [if_neg (by rw [Maps.sameKey_ne hx]; simp)]
    unfold seenF
    have : (∃ i, i < k ∧ p i ∧ S i = x) ↔ (∃ i, i < k + 1 ∧ p i ∧ S i = x) := by
      constructor
      · rintro ⟨i, hi, h⟩
        exact ⟨i, by omega, h⟩
      · rintro ⟨i, hi, hp', h⟩
        rcases Nat.lt_or_ge i k with hlt | hge
        · exact ⟨i, hlt, hp', h⟩
        · obtain rfl : i = k := by omega
          exact absurd (h.symm.trans e) hx
    by_cases h : ∃ i, i < k + 1 ∧ p i ∧ S i = x
    · rw [if_pos h, if_pos (this.2 h)]
    · rw [if_neg h, if_neg (fun g => h (this.1 g))]
theorem seen_skip {p : Nat → Prop} {S : Nat → Lit} {k : Nat} (hp : ¬ p k) : ∀ x, seenF p S k x = seenF p S (k + 1) x := by
  intro x
  unfold seenF
  have : (∃ i, i < k ∧ p i ∧ S i = x) ↔ (∃ i, i < k + 1 ∧ p i ∧ S i = x) := by
    constructor
    · rintro ⟨i, hi, h⟩
      exact ⟨i, by omega, h⟩
    · rintro ⟨i, hi, hp', h⟩
      rcases Nat.lt_or_ge i k with hlt | hge
      · exact ⟨i, hlt, hp', h⟩
      · obtain rfl : i = k := by omega
        exact absurd hp' hp
  by_cases h : ∃ i, i < k + 1 ∧ p i ∧ S i = x
  · rw [if_pos h, if_pos (this.2 h)]
  · rw [if_neg h, if_neg (fun g => h (this.1 g))]

section
variable {P : Program} {w : World} {k e t : TypeId} {b n : Nat} {f : Lit → Int}
theorem wpl_look_at {ops : Array Oper} {rest : List Oper} {o : Oper} {a : Act} {Q : Exit → Act → World → Prop} (hgd : o.guard = none) (m x : Operand) (t : TypeId) (hop : o.op = Op.lookup t m x false)
    (K : Keyed P k) (ht : P.underlying t = some (.map k e)) (he : P.underlying e = some (.int .i64)) (hz : ∀ w, (zeroValue e).run P w = .ok (.int .i64 0) w) (hown : Cnt P w k e b n f) (hm : a.eval m = .map (some b))
    (key : Value) (kl : Lit) (hx : a.eval x = key) (hkey : keyOf P k key = some kl) (c : Int) (hc : f kl = c)
    (h : wpList P ops Q rest (a.put o.dst (.int .i64 c)) w) : wpList P ops Q (o :: rest) a w :=
  wpl_look_cnt hgd m x t hop K ht he hz hown hm key kl hx hkey (by rw [hc]; exact h)
end

theorem strKeyed : Keyed Try.prog 9 := Maps.string_keyed Try.underlying9
theorem zeroInt (w : World) : (zeroValue 3).run Try.prog w = .ok (.int .i64 0) w := by kernel_rfl
theorem key_str {n : ByteArray} (hn : n.size ≤ reach) : keyOf Try.prog 9 (.string n) = some (.string n.toList) := by
  rw [ba_toList]
  exact WideMaps.keyOf_string_mk Try.underlying9 (by unfold reach at hn; unfold maxLen; omega)

set_option maxRecDepth 100000 in
set_option maxHeartbeats 8000000 in
theorem aints_any (j : JV) (w : World) (HJ : IsJV w j) :
    Calls Try.prog 71 #[.agg j.cells] w fun e w' => e = .returned (.bool (intsB j)) ∧ Below w.heap.size w w' := by
  have hF : j.v.Fn ≤ 9223372036854775807 ∧ j.v.Fn < maxLen := by have := (jv_names HJ).2.2; unfold reach at this; unfold maxLen; omega
  obtain ⟨hF, hFM⟩ := hF
  have HB := Below.refl w.heap.size w
  have hk2 : (j.v.kind != 5) = !(j.v.kind == 5) := rfl
  cases hk : (j.v.kind == 5)
  · have HZ := Lib.hid (ints_none hk)
    rw [hk] at hk2
    clear hk hFM
    go_enter Try.func71, Try.ntmps71
    go_wp2_with (refine wpl_box_at rfl 30 (.tmp 0) rfl _ rfl ?_; intro w1 hw; have hb := hid_grow hw; have B1 := (hid_alloc hw).1; replace HB := HB.trans (hb.mono HB.size); clear hb hw; have c1_0 : w1.cell? ⟨_, 0, none⟩ = some (.int .i64 j.v.kind) := B1.cell 0)
    go_ret
    exact ⟨ret_bool HZ.out.symm, HB⟩
  · have HK := Lib.hid hk
    have HFM := Lib.hid hFM
    rw [hk] at hk2
    clear hk hFM
    have hmm := @run_makeMap Try.prog
    go_enter Try.func71, Try.ntmps71
    go_wp2_with (refine wpl_box_at rfl 30 (.tmp 0) rfl _ rfl ?_; intro w1 hw; have hb := hid_grow hw; have B1 := (hid_alloc hw).1; replace HB := HB.trans (hb.mono HB.size); replace HJ := HJ.below hb; clear hb hw; have c1_0 : w1.cell? ⟨_, 0, none⟩ = some (.int .i64 j.v.kind) := B1.cell 0; have c1_5 : w1.cell? ⟨_, 5, none⟩ = some (.slice j.v.FA j.v.Fn j.v.Fc) := B1.cell 5; have cq_5 : ∀ o, (w1.alloc o).cell? ⟨w.heap.size, 5, none⟩ = some (.slice j.v.FA j.v.Fn j.v.Fc) := fun o => cell_below ((Below.refl _ _).alloc (Nat.le_refl _) o) c1_5)
    clear hmm
    go_loopw [13] (fun i wr => ∃ k : Nat, k ≤ j.v.Fn ∧ i = .int .i64 k ∧ Hid (OKTo j k) ∧ Hid (Cnt Try.prog wr 9 3 w1.heap.size k (seenF (fun _ => True) (fun i => .string (nameAt j i)) k)) ∧ w1.heap.size + 1 ≤ wr.heap.size ∧ Below w1.heap.size w1 wr) (fun i _ => j.v.Fn - (intOf i).toNat)
    case atStart => exact ⟨0, Nat.zero_le _, rfl, fun i hi => absurd hi (by omega), (Cnt.made w1 _ _ _).congr (seen_zero _ _), by simp, (Below.refl _ _).alloc (Nat.le_refl _) _⟩
    case round =>
      obtain ⟨k, hk, rfl, HOK, HC, hsz, hb⟩ := hrel
      have HBW := Lib.hid hb
      by_cases hlt : k < j.v.Fn
      · obtain ⟨bl, off, n, x, hFA, hfc, hna, hki, hns, _⟩ := jv_field2 (HJ.below hb) hlt
        obtain ⟨f0, f1, f2, f3, f4, f5, f6⟩ := hfc
        have hkey := key_str hns
        rw [← hna] at hkey
        have HKEY := Lib.hid hkey
        rw [hFA] at *
        have hx2 : (x.kind != 2) = !(x.kind == 2) := rfl
        by_cases hsn : ∃ i, i < k ∧ nameAt j i = nameAt j k
        · obtain ⟨m, hm, he⟩ := hsn
          have HZ := Lib.hid (ints_twice hlt hm he)
          have HF1 := Lib.hid (seen_yes (p := fun _ => True) (S := fun i => Lit.string (nameAt j i)) (l := .string (nameAt j k)) hm trivial (by rw [he]))
          clear hna hki hFA hm he hb hkey
          cases hxk : (x.kind == 2) <;> rw [hxk] at hx2
          all_goals
            clear hxk
            go_wp2_with (first
              | (at_lookup; refine wpl_look_at rfl (.tmp 17) (.tmp 19) _ rfl strKeyed Try.underlying94 Try.underlying3 zeroInt (HC.out.below ((Below.refl _ _).alloc (Nat.le_refl _) _)) rfl _ _ rfl HKEY.out 1 HF1.out ?_)
              | (at_mapUpdate; refine wpl_store_cnt rfl (.tmp 17) (.tmp 19) (.tmp 21) _ rfl strKeyed Try.underlying94 Try.underlying3 (HC.out.below ((Below.refl _ _).alloc (Nat.le_refl _) _)) (Nat.lt_of_le_of_lt hk HFM.out) rfl _ _ rfl HKEY.out 2 rfl rfl ?_; intro w2 hcnt hgr
                 have hlk := hcnt.look strKeyed Try.underlying94 Try.underlying3 (zeroInt _) HKEY.out
                 rw [putF_same (strKeyed.key HKEY.out)] at hlk
                 have g0 : w2.cell? ⟨wr.heap.size, 0, none⟩ = some (.string n) := hgr.cell ((IBox.new wr _ _).cell 0) (by simp; omega)
                 have g1 : w2.cell? ⟨wr.heap.size, 1, none⟩ = some (.int .i64 x.kind) := hgr.cell ((IBox.new wr _ _).cell 1) (by simp; omega)
                 replace HBW := HBW.out.alloc HBW.out.size (.cells #[.string n, .int .i64 x.kind, .bool x.b, .int .i64 x.i, .string x.t, .slice x.LA x.Ln x.Lc, .slice x.FA x.Fn x.Fc] 58)
                 replace HBW := Lib.hid (HBW.grown hgr HBW.size (fun q hq => by cases hq; exact Nat.le_refl _))
                 clear hcnt hgr))
            go_ret
            exact ⟨ret_bool HZ.out.symm, HB.trans (HBW.out.mono HB.size)⟩
        · have hne : ∀ m, m < k → nameAt j m ≠ nameAt j k := fun m hm he => hsn ⟨m, hm, he⟩
          have HNE := Lib.hid hne
          have HF0 := Lib.hid (seen_not (p := fun _ => True) (S := fun i => Lit.string (nameAt j i)) (k := k) (l := .string (nameAt j k)) (fun i hi _ e => hne i hi (by injection e)))
          cases hxk : (x.kind == 2)
          · rw [hxk] at hx2
            have HZ := Lib.hid (ints_kind hlt (by rw [hki]; simpa using hxk))
            clear hna hki hFA hb hkey hxk hsn hne
            go_wp2_with (first
              | (at_lookup; refine wpl_look_at rfl (.tmp 17) (.tmp 19) _ rfl strKeyed Try.underlying94 Try.underlying3 zeroInt (HC.out.below ((Below.refl _ _).alloc (Nat.le_refl _) _)) rfl _ _ rfl HKEY.out 0 HF0.out ?_)
              | (at_mapUpdate; refine wpl_store_cnt rfl (.tmp 17) (.tmp 19) (.tmp 21) _ rfl strKeyed Try.underlying94 Try.underlying3 (HC.out.below ((Below.refl _ _).alloc (Nat.le_refl _) _)) (Nat.lt_of_le_of_lt hk HFM.out) rfl _ _ rfl HKEY.out 1 rfl rfl ?_; intro w2 hcnt hgr
                 have hlk := hcnt.look strKeyed Try.underlying94 Try.underlying3 (zeroInt _) HKEY.out
                 rw [putF_same (strKeyed.key HKEY.out)] at hlk
                 have g0 : w2.cell? ⟨wr.heap.size, 0, none⟩ = some (.string n) := hgr.cell ((IBox.new wr _ _).cell 0) (by simp; omega)
                 have g1 : w2.cell? ⟨wr.heap.size, 1, none⟩ = some (.int .i64 x.kind) := hgr.cell ((IBox.new wr _ _).cell 1) (by simp; omega)
                 replace HBW := HBW.out.alloc HBW.out.size (.cells #[.string n, .int .i64 x.kind, .bool x.b, .int .i64 x.i, .string x.t, .slice x.LA x.Ln x.Lc, .slice x.FA x.Fn x.Fc] 58)
                 replace HBW := Lib.hid (HBW.grown hgr HBW.size (fun q hq => by cases hq; exact Nat.le_refl _))
                 clear hcnt hgr))
            go_ret
            exact ⟨ret_bool HZ.out.symm, HB.trans (HBW.out.mono HB.size)⟩
          · rw [hxk] at hx2
            have HX2 := Lib.hid (show kindAt j k = 2 by rw [hki]; simpa using hxk)
            clear hna hki hFA hb hkey hxk hsn hne
            go_wp2_with (first
              | (at_lookup; refine wpl_look_at rfl (.tmp 17) (.tmp 19) _ rfl strKeyed Try.underlying94 Try.underlying3 zeroInt (HC.out.below ((Below.refl _ _).alloc (Nat.le_refl _) _)) rfl _ _ rfl HKEY.out 0 HF0.out ?_)
              | (at_mapUpdate; refine wpl_store_cnt rfl (.tmp 17) (.tmp 19) (.tmp 21) _ rfl strKeyed Try.underlying94 Try.underlying3 (HC.out.below ((Below.refl _ _).alloc (Nat.le_refl _) _)) (Nat.lt_of_le_of_lt hk HFM.out) rfl _ _ rfl HKEY.out 1 rfl rfl ?_; intro w2 hcnt hgr
                 have hlk := hcnt.look strKeyed Try.underlying94 Try.underlying3 (zeroInt _) HKEY.out
                 rw [putF_same (strKeyed.key HKEY.out)] at hlk
                 have g0 : w2.cell? ⟨wr.heap.size, 0, none⟩ = some (.string n) := hgr.cell ((IBox.new wr _ _).cell 0) (by simp; omega)
                 have g1 : w2.cell? ⟨wr.heap.size, 1, none⟩ = some (.int .i64 x.kind) := hgr.cell ((IBox.new wr _ _).cell 1) (by simp; omega)
                 replace HBW := HBW.out.alloc HBW.out.size (.cells #[.string n, .int .i64 x.kind, .bool x.b, .int .i64 x.i, .string x.t, .slice x.LA x.Ln x.Lc, .slice x.FA x.Fn x.Fc] 58)
                 replace HBW := Lib.hid (HBW.grown hgr HBW.size (fun q hq => by cases hq; exact Nat.le_refl _))
                 have HC2 := Lib.hid (hcnt.congr (seen_step (p := fun _ => True) (S := fun i => Lit.string (nameAt j i)) trivial rfl (strKeyed.key HKEY.out)))
                 have hsz2 := hgr.size
                 clear hcnt hgr))
            go_roundw
            case rel => exact ⟨k + 1, by omega, by go_num, oks_step HOK.out HX2.out HNE.out, HC2.out, by simp at hsz2; omega, HBW.out⟩
            case measure => simp [intOf]; omega
      · obtain rfl : k = j.v.Fn := by omega
        have HZ := Lib.hid (ints_yes HK.out HOK.out)
        clear hb
        go_wp2
        go_ret
        exact ⟨ret_bool HZ.out.symm, HB.trans (HBW.out.mono HB.size)⟩
end Go.Proofs.Ytpmdpfgaafaceaa
