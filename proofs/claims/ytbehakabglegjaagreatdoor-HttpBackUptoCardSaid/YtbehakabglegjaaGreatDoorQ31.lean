/- Layer 9: the document's trimmed: a row of bytes without blanks at both ends. Layer 9: the document's kinds of bytes; are a text's bytes all of a kind? Layer 9: the document's all: are a text's bytes all of a kind? -/
import Derived.Test.YtbehakabglegjaaGreatDoorQ30
import Derived.Test.YtbehakabglegjaaGreatDoorQ10
import Derived.Test.YtbehakabglegjaaGreatDoorQ06
import Derived.Test.YtbehakabglegjaaGreatDoorQ22
namespace Go.Proofs.YtbehakabglegjaaGreatDoor
open Go.RowKit Go.PlainAid
set_option linter.unusedVariables false
set_option linter.unusedSimpArgs false
def isBk (c : UInt8) : Bool := c == 32 || c == 9
theorem bk_is (c : UInt8) : ([32, 9] : List UInt8).contains c = isBk c := by
  unfold isBk
  by_cases h : c = 32 <;> by_cases k : c = 9 <;> simp [h, k]
theorem trim_is {l : List UInt8} {i k : Nat} (hik : i ≤ k) (hk : k ≤ l.length) (h1 : ∀ j x, j < i → l[j]? = some x → isBk x = true) (h2 : i < k → ∀ x, l[i]? = some x → isBk x = false) (h3 : ∀ j x, k ≤ j → l[j]? = some x → isBk x = true) (h4 : i < k → ∀ x, l[k - 1]? = some x → isBk x = false) : trimL l = (l.take k).drop i := by
  unfold trimL Lib.trimS
  by_cases h : i < k
  · rw [Lib.trimRightS_take l _ k hk (fun j b hj hb => by rw [bk_is]; exact h3 j b hj hb) (fun b _ hb => by rw [bk_is]; exact h4 h b hb)]
    refine Lib.trimLeftS_drop _ _ i (by rw [List.length_take]; omega) (fun j b hj hb => ?_) (fun b hb => ?_)
    · rw [List.getElem?_take, if_pos (by omega)] at hb
      rw [bk_is]
      exact h1 j b hj hb
    · rw [List.getElem?_take, if_pos h] at hb
      rw [bk_is]
      exact h2 h b hb
  · obtain rfl : i = k := by omega
    have hall : ∀ (j : Nat) (b : UInt8), l[j]? = some b → ([32, 9] : List UInt8).contains b = true := fun j b hb => by
      rw [bk_is]
      by_cases hj : j < i
      · exact h1 j b hj hb
      · exact h3 j b (by omega) hb
    rw [Lib.trimRightS_take l _ 0 (Nat.zero_le _) (fun j b _ hb => hall j b hb) (fun b h0 => absurd h0 (Nat.lt_irrefl _))]
    rw [List.drop_eq_nil_iff.2 (by rw [List.length_take]; omega)]
    rfl
theorem bt_sub {w : World} {A : Option Addr} {c i k : Nat} {l : List UInt8} (h : BtAt w (.slice A l.length c) l) (hik : i ≤ k) (hk : k ≤ l.length) (c2 : Nat) : ∀ b off, A = some ⟨b, off, none⟩ → BtAt w (.slice (some ⟨b, off + i, none⟩) (k - i) c2) ((l.take k).drop i) := by
  intro b off hA
  refine ⟨_, _, by rw [List.length_drop, List.length_take, Nat.min_eq_left hk], fun j u hu => ⟨b, off + i, rfl, ?_⟩⟩
  rw [List.getElem?_drop, List.getElem?_take] at hu
  split at hu
  · obtain ⟨A2, c3, e, hc⟩ := h
    injection e with e1 e2 e3
    subst e1
    obtain ⟨b2, o2, e4, h4⟩ := hc (i + j) u hu
    rw [hA] at e4
    injection e4 with e4
    injection e4 with e5 e6
    subst e5
    subst e6
    rw [← Nat.add_assoc] at h4
    exact h4
  · cases hu
theorem bt_nil (w : World) (A : Option Addr) (c : Nat) : BtAt w (.slice A 0 c) [] := ⟨A, c, rfl, fun i u h => by simp at h⟩
theorem byte_ne {x y : UInt8} (h : x ≠ y) : ((x.toNat : Int) == (y.toNat : Int)) = false := by
  rw [beq_eq_false_iff_ne]
  intro e
  exact h (UInt8.toNat_inj.1 (by omega))
set_option maxRecDepth 100000 in
set_option maxHeartbeats 4000000 in
theorem trimmed_any {A : Option Addr} {c : Nat} {l : List UInt8} {w : World} (hv : BtAt w (.slice A l.length c) l) (hl : l.length ≤ 140737488355328) (hcap : l.length ≤ c) :
    Calls Tryz.prog 69 #[.slice A l.length c] w fun e w' => e = .returned (.string (txt (trimL l))) ∧ w = w' := by
  have hcells : ∀ i u, l[i]? = some u → ∃ b off, A = some ⟨b, off, none⟩ ∧ w.cell? ⟨b, off + i, none⟩ = some (.int .u8 (u.toNat : Int)) := by
    obtain ⟨A2, c2, e, hc⟩ := hv
    injection e with e1 e2 e3
    subst e1
    exact hc
  have HV := Lib.hid hv
  have HCP := Lib.hid hcap
  have HL := Lib.hid hl
  have HC := Lib.hid hcells
  clear hv hl hcells hcap
  go_enter Tryz.func69, Tryz.ntmps69
  go_wp2
  go_loopw [3] (fun iv wr => ∃ i : Nat, iv = .int .i64 (i : Int) ∧ i ≤ l.length ∧ Hid (∀ j x, j < i → l[j]? = some x → isBk x = true) ∧ w = wr) (fun iv _ => l.length - ivN iv)
  case atStart => exact ⟨0, rfl, Nat.zero_le _, Lib.hid (fun j x h => absurd h (Nat.not_lt_zero _)), rfl⟩
  case round =>
    obtain ⟨i, rfl, hi, H1, rfl⟩ := hrel
    have hl1 := HL.out
    by_cases hlt : i < l.length
    · obtain ⟨x, hx⟩ : ∃ x, l[i]? = some x := ⟨_, List.getElem?_eq_getElem hlt⟩
      obtain ⟨b, off, rfl, cx⟩ := HC.out i x hx
      have hi1 : (i : Int) < (l.length : Int) := by omega
      by_cases h32 : x = 32
      · have hq : ((x.toNat : Int) == 32) = true := by rw [h32]; rfl
        have HN : Hid (∀ j y, j < i + 1 → l[j]? = some y → isBk y = true) := Lib.hid (fun j y hj hy => by
          by_cases e : j = i
          · subst e
            rw [hx] at hy
            rw [← Option.some.inj hy]
            unfold isBk
            simp [h32]
          · exact H1.out j y (by omega) hy)
        clear hx
        go_wp2
        go_roundw
        case rel => first | exact ⟨i + 1, rfl, by omega, HN, rfl⟩ | exact ⟨i + 1, rfl, by omega, HN, trivial⟩
        case measure => (show l.length - ((i : Int) + 1).toNat < l.length - (i : Int).toNat; omega)
      · have hq : ((x.toNat : Int) == 32) = false := byte_ne h32
        by_cases h9 : x = 9
        · have hq9 : ((x.toNat : Int) == 9) = true := by rw [h9]; rfl
          have HN : Hid (∀ j y, j < i + 1 → l[j]? = some y → isBk y = true) := Lib.hid (fun j y hj hy => by
            by_cases e : j = i
            · subst e
              rw [hx] at hy
              rw [← Option.some.inj hy]
              unfold isBk
              simp [h9]
            · exact H1.out j y (by omega) hy)
          clear hx
          go_wp2
          go_roundw
          case rel => first | exact ⟨i + 1, rfl, by omega, HN, rfl⟩ | exact ⟨i + 1, rfl, by omega, HN, trivial⟩
          case measure => (show l.length - ((i : Int) + 1).toNat < l.length - (i : Int).toNat; omega)
        · have hq9 : ((x.toNat : Int) == 9) = false := byte_ne h9
          have H2 : Hid (i < l.length → ∀ y, l[i]? = some y → isBk y = false) := Lib.hid (fun _ y hy => by
            rw [hx] at hy
            rw [← Option.some.inj hy]
            unfold isBk
            simp [h32, h9])
          clear hx h32 h9
          go_wp2
          go_loopw [4] (fun iv wr => ∃ k : Nat, iv = .int .i64 (k : Int) ∧ i ≤ k ∧ k ≤ l.length ∧ Hid (∀ j x, k ≤ j → l[j]? = some x → isBk x = true) ∧ w = wr) (fun iv _ => ivN iv)
          case atStart => exact ⟨l.length, rfl, hi, Nat.le_refl _, Lib.hid (fun j x hj hx => by have := (List.getElem?_eq_some_iff.1 hx).1; omega), rfl⟩
          case round =>
            obtain ⟨k, rfl, hik, hkl, H3, rfl⟩ := hrel
            by_cases hk : i < k
            · obtain ⟨k1, rfl⟩ : ∃ k1, k = k1 + 1 := ⟨k - 1, by omega⟩
              obtain ⟨y, hy⟩ : ∃ y, l[k1]? = some y := ⟨_, List.getElem?_eq_getElem (by omega)⟩
              obtain ⟨b2, off2, hA2, cy⟩ := HC.out k1 y hy
              injection hA2 with hA2
              injection hA2 with e1 e2
              subst e1
              subst e2
              have hk1 : (i : Int) < (k1 : Int) + 1 := by omega
              have hk2 : (k1 : Int) < (l.length : Int) := by omega
              by_cases y32 : y = 32
              · have hr : ((y.toNat : Int) == 32) = true := by rw [y32]; rfl
                have HN : Hid (∀ j z, k1 ≤ j → l[j]? = some z → isBk z = true) := Lib.hid (fun j z hj hz => by
                  by_cases e : j = k1
                  · subst e
                    rw [hy] at hz
                    rw [← Option.some.inj hz]
                    unfold isBk
                    simp [y32]
                  · exact H3.out j z (by omega) hz)
                clear hy
                go_wp2
                go_roundw
                case rel => first | exact ⟨k1, rfl, by omega, by omega, HN, rfl⟩ | exact ⟨k1, rfl, by omega, by omega, HN, trivial⟩
                case measure => (show (k1 : Int).toNat < ((k1 : Int) + 1).toNat; omega)
              · have hr : ((y.toNat : Int) == 32) = false := byte_ne y32
                by_cases y9 : y = 9
                · have hr9 : ((y.toNat : Int) == 9) = true := by rw [y9]; rfl
                  have HN : Hid (∀ j z, k1 ≤ j → l[j]? = some z → isBk z = true) := Lib.hid (fun j z hj hz => by
                    by_cases e : j = k1
                    · subst e
                      rw [hy] at hz
                      rw [← Option.some.inj hz]
                      unfold isBk
                      simp [y9]
                    · exact H3.out j z (by omega) hz)
                  clear hy
                  go_wp2
                  go_roundw
                  case rel => first | exact ⟨k1, rfl, by omega, by omega, HN, rfl⟩ | exact ⟨k1, rfl, by omega, by omega, HN, trivial⟩
                  case measure => (show (k1 : Int).toNat < ((k1 : Int) + 1).toNat; omega)
                · have hr9 : ((y.toNat : Int) == 9) = false := byte_ne y9
                  have HT := Lib.hid (trim_is (Nat.le_of_lt hk) hkl H1.out (fun _ => H2.out hlt) H3.out (fun _ z hz => by
                    rw [Nat.add_sub_cancel, hy] at hz
                    rw [← Option.some.inj hz]
                    unfold isBk
                    simp [y32, y9]))
                  clear hy y32 y9
                  have hcI : (k1 : Int) + 1 ≤ (c : Int) := by have := HCP.out; omega
                  have hik2 : (i : Int) ≤ (k1 : Int) + 1 := by omega
                  have hcN : k1 + 1 ≤ c := by have := HCP.out; omega
                  have hiN : i ≤ k1 + 1 := by omega
                  go_wp2_with ((with_reducible refine is_convert ?_); refine wpl_bt_text rfl (.tmp 50) rfl (bt_sub HV.out (Nat.le_of_lt hk) hkl (c - i) _ _ rfl) rfl ?_)
                  go_ret
                  exact ⟨by (rw [HT.out]; try rfl), rfl⟩
            · obtain rfl : i = k := by omega
              have hkI : ¬ (i : Int) < (i : Int) := by omega
              have HT := Lib.hid (trim_is (Nat.le_refl i) hi H1.out (fun h => absurd h (Nat.lt_irrefl _)) H3.out (fun h => absurd h (Nat.lt_irrefl _)))
              have HT0 : Hid (trimL l = []) := Lib.hid (by rw [HT.out]; exact List.drop_eq_nil_iff.2 (by rw [List.length_take]; omega))
              have hcI : (i : Int) ≤ (c : Int) := by have := HCP.out; omega
              have hcN : i ≤ c := by have := HCP.out; omega
              go_wp2_with ((with_reducible refine is_convert ?_); refine wpl_bt_text rfl (.tmp 50) rfl (l := []) (bt_nil _ _ _) rfl ?_)
              all_goals
                go_ret
                exact ⟨by (rw [HT0.out]; try rfl), rfl⟩
    · have H2 : Hid (i < l.length → ∀ y, l[i]? = some y → isBk y = false) := Lib.hid (fun h => absurd h hlt)
      have hi1 : ¬ (i : Int) < (l.length : Int) := by omega
      go_wp2
      go_loopw [4] (fun iv wr => ∃ k : Nat, iv = .int .i64 (k : Int) ∧ i ≤ k ∧ k ≤ l.length ∧ Hid (∀ j x, k ≤ j → l[j]? = some x → isBk x = true) ∧ w = wr) (fun iv _ => ivN iv)
      case atStart => exact ⟨l.length, rfl, hi, Nat.le_refl _, Lib.hid (fun j x hj hx => by have := (List.getElem?_eq_some_iff.1 hx).1; omega), rfl⟩
      case round =>
        obtain ⟨k, rfl, hik, hkl, H3, rfl⟩ := hrel
        by_cases hk : i < k
        · omega
        · obtain rfl : i = k := by omega
          have hkI : ¬ (i : Int) < (i : Int) := by omega
          have HT := Lib.hid (trim_is (Nat.le_refl i) hi H1.out (fun h => absurd h (Nat.lt_irrefl _)) H3.out (fun h => absurd h (Nat.lt_irrefl _)))
          have HT0 : Hid (trimL l = []) := Lib.hid (by rw [HT.out]; exact List.drop_eq_nil_iff.2 (by rw [List.length_take]; omega))
          have hcI : (i : Int) ≤ (c : Int) := by have := HCP.out; omega
          have hcN : i ≤ c := by have := HCP.out; omega
          cases A with
          | none =>
            have h0 : i = 0 := by
              by_cases e : i = 0
              · exact e
              · obtain ⟨u, hu⟩ : ∃ u, l[0]? = some u := ⟨_, List.getElem?_eq_getElem (by omega)⟩
                obtain ⟨_, _, e2, _⟩ := HC.out 0 u hu
                cases e2
            subst h0
            go_wp2_with ((with_reducible refine is_convert ?_); refine wpl_bt_text rfl (.tmp 50) rfl (l := []) (bt_nil _ _ _) rfl ?_)
            all_goals
              go_ret
              exact ⟨by (rw [HT0.out]; try rfl), rfl⟩
          | some ad =>
            go_wp2_with ((with_reducible refine is_convert ?_); refine wpl_bt_text rfl (.tmp 50) rfl (l := []) (bt_nil _ _ _) rfl ?_)
            all_goals
              go_ret
              exact ⟨by (rw [HT0.out]; try rfl), rfl⟩
end Go.Proofs.YtbehakabglegjaaGreatDoor
namespace Go.Proofs.YtbehakabglegjaaGreatDoor
open Go.RowKit Go.PlainAid
set_option linter.unusedVariables false
set_option linter.unusedSimpArgs false
set_option maxRecDepth 100000
def isLetB (c : UInt8) : Bool := (65 ≤ c.toNat && c.toNat ≤ 90) || (97 ≤ c.toNat && c.toNat ≤ 122)
def isDgB (c : UInt8) : Bool := 48 ≤ c.toNat && c.toNat ≤ 57
theorem rlet_any (c : UInt8) (w : World) : Calls Tryz.prog 91 #[.int .u8 (c.toNat : Int)] w fun e w' => e = .returned (.bool (isLetB c)) ∧ w = w' := by
  go_enter Tryz.func91, Tryz.ntmps91
  go_wp2
  all_goals
    go_ret
    exact ⟨ret_bool (by unfold isLetB; rw [Bool.eq_iff_iff]; simp only [Bool.or_eq_true, Bool.and_eq_true, decide_eq_true_eq, beq_iff_eq, bne_iff_ne, true_iff, false_iff, Bool.false_eq_true, Bool.true_eq_false]; omega), rfl⟩
theorem rdig_any (c : UInt8) (w : World) : Calls Tryz.prog 92 #[.int .u8 (c.toNat : Int)] w fun e w' => e = .returned (.bool (isDgB c)) ∧ w = w' := by
  go_enter Tryz.func92, Tryz.ntmps92
  go_wp2
  all_goals
    go_ret
    exact ⟨ret_bool (by unfold isDgB; rw [Bool.eq_iff_iff]; simp only [Bool.or_eq_true, Bool.and_eq_true, decide_eq_true_eq, beq_iff_eq, bne_iff_ne, true_iff, false_iff, Bool.false_eq_true, Bool.true_eq_false]; omega), rfl⟩
theorem rvalue_any (c : UInt8) (w : World) : Calls Tryz.prog 100 #[.int .u8 (c.toNat : Int)] w fun e w' => e = .returned (.bool (isValueB c)) ∧ w = w' := by
  go_enter Tryz.func100, Tryz.ntmps100
  go_wp2
  all_goals
    go_ret
    exact ⟨ret_bool (by unfold isValueB; rw [Bool.eq_iff_iff]; simp only [Bool.or_eq_true, Bool.and_eq_true, decide_eq_true_eq, beq_iff_eq, bne_iff_ne, true_iff, false_iff, Bool.false_eq_true, Bool.true_eq_false]; omega), rfl⟩
def marks14 : ByteArray := ⟨#[33, 35, 36, 37, 38, 39, 42, 43, 45, 46, 94, 95, 124, 126]⟩
theorem name_tab : ∀ n : Fin 256, isNameB (UInt8.ofNat n.val) = ((isLetB (UInt8.ofNat n.val) || isDgB (UInt8.ofNat n.val)) || (marks14.data.toList.contains (UInt8.ofNat n.val) || decide ((UInt8.ofNat n.val).toNat = 96))) := by decide +kernel
theorem name_is (c : UInt8) : isNameB c = ((isLetB c || isDgB c) || (marks14.data.toList.contains c || decide (c.toNat = 96))) := by
  have h := name_tab ⟨c.toNat, c.toNat_lt⟩
  simp only [UInt8.ofNat_toNat] at h
  exact h
set_option maxHeartbeats 4000000 in
theorem rname_any (c : UInt8) (w : World) : Calls Tryz.prog 99 #[.int .u8 (c.toNat : Int)] w fun e w' => e = .returned (.bool (isNameB c)) ∧ w = w' := by
  have hn := name_is c
  cases hl : isLetB c <;> cases hd : isDgB c
  all_goals
    rw [hl, hd] at hn
    have HN := Lib.hid hn
    have HLE := Lib.hid hl
    have HDI := Lib.hid hd
    clear hn hl hd
  · obtain ⟨s, hs⟩ : ∃ s, s = marks14 := ⟨_, rfl⟩
    have hm : (⟨#[33, 35, 36, 37, 38, 39, 42, 43, 45, 46, 94, 95, 124, 126]⟩ : ByteArray) = s := hs.symm
    have HSZ : Hid (s.size = 14) := Lib.hid (by rw [hs]; rfl)
    rw [← hs] at HN
    clear hs
    have hbs := get_bt s
    have HB0 : Hid (isNameB c = (s.data.toList.contains c || decide (c.toNat = 96))) := Lib.hid (by have h := HN.out; simpa using h)
    clear HN
    go_enter Tryz.func99, Tryz.ntmps99
    rw [hm]
    clear hm
    go_wp2_with (first
      | (go_at_call 91; (with_reducible refine (rlet_any _ _).mono ?_); rintro e w' ⟨rfl, rfl⟩; rw [HLE.out])
      | (go_at_call 92; (with_reducible refine (rdig_any _ _).mono ?_); rintro e w' ⟨rfl, rfl⟩; rw [HDI.out]))
    go_loopw [6] (fun iv wr => ∃ i : Nat, iv = .int .i64 (i : Int) ∧ i ≤ s.size ∧ Hid (∀ j, j < i → s.data.toList[j]? ≠ some c) ∧ w = wr) (fun iv _ => match iv with | .int _ i => (s.size - i.toNat) | _ => 0)
    case atStart => exact ⟨0, rfl, Nat.zero_le _, Lib.hid (fun j h => absurd h (Nat.not_lt_zero _)), rfl⟩
    case round =>
      obtain ⟨i, rfl, hi, HNO, rfl⟩ := hrel
      have hsz := HSZ.out
      by_cases hlt : i < s.size
      · obtain ⟨d, hd⟩ : ∃ d, s.data.toList[i]? = some d := ⟨_, List.getElem?_eq_getElem (show i < s.data.toList.length from hlt)⟩
        have hcb := bt_in hd
        by_cases hdc : d = c
        · have hq : ((d.toNat : Int) == (c.toNat : Int)) = true := by rw [hdc, beq_self_eq_true]
          have HF : Hid (isNameB c = true) := Lib.hid (by
            rw [HB0.out, List.contains_iff_mem.2 (by rw [← hdc]; exact List.mem_of_getElem? hd)]
            rfl)
          clear hd hdc
          go_wp2
          go_ret
          exact ⟨ret_bool HF.out.symm, rfl⟩
        · have hq : ((d.toNat : Int) == (c.toNat : Int)) = false := by
            rw [beq_eq_false_iff_ne]
            intro e
            exact hdc (UInt8.toNat_inj.1 (by omega))
          have HN2 : Hid (∀ j, j < i + 1 → s.data.toList[j]? ≠ some c) := Lib.hid (fun j hj e => by
            by_cases h2 : j = i
            · subst h2
              rw [hd] at e
              exact hdc (Option.some.inj e)
            · exact HNO.out j (by omega) e)
          clear hd hdc
          go_wp2
          go_roundw
          case rel => first | exact ⟨i + 1, rfl, by omega, HN2, rfl⟩ | exact ⟨i + 1, rfl, by omega, HN2, trivial⟩
          case measure => (simp only; omega)
      · obtain rfl : i = s.size := by omega
        have HF : Hid (isNameB c = decide (c.toNat = 96)) := Lib.hid (by
          rw [HB0.out]
          have h : s.data.toList.contains c = false := by
            rw [← Bool.not_eq_true, List.contains_iff_mem]
            intro hm
            obtain ⟨j, hj⟩ := List.getElem?_of_mem hm
            exact HNO.out j (List.getElem?_eq_some_iff.1 hj).1 hj
          rw [h, Bool.false_or])
        clear hlt hi
        go_wp2
        go_ret
        exact ⟨ret_bool (by rw [HF.out, Bool.eq_iff_iff]; simp; omega), rfl⟩
  all_goals
    go_enter Tryz.func99, Tryz.ntmps99
    go_wp2_with (first
      | (go_at_call 91; (with_reducible refine (rlet_any _ _).mono ?_); rintro e w' ⟨rfl, rfl⟩; rw [HLE.out])
      | (go_at_call 92; (with_reducible refine (rdig_any _ _).mono ?_); rintro e w' ⟨rfl, rfl⟩; rw [HDI.out]))
    go_ret
    exact ⟨ret_bool (by rw [HN.out]; rfl), rfl⟩
end Go.Proofs.YtbehakabglegjaaGreatDoor
namespace Go.Proofs.YtbehakabglegjaaGreatDoor
open Go.RowKit Go.PlainAid
set_option linter.unusedVariables false
set_option linter.unusedSimpArgs false
theorem all_parts (P : UInt8 → Bool) (s : ByteArray) : (∀ i, i < s.size → ∃ c, s.data.toList[i]? = some c ∧ (s.data.toList.take (i + 1)).all P = ((s.data.toList.take i).all P && P c) ∧ (P c = false → s.data.toList.all P = false)) := fun i hi => by
  have hl : i < s.data.toList.length := hi
  refine ⟨_, List.getElem?_eq_getElem hl, ?_, fun hp => ?_⟩
  · rw [List.take_add_one, List.getElem?_eq_getElem hl, List.all_append]
    simp
  · rw [List.all_eq_false]
    exact ⟨_, List.getElem_mem hl, by rw [hp]; simp⟩
set_option maxRecDepth 100000 in
set_option maxHeartbeats 4000000 in
theorem all0_any (s : ByteArray) (w : World) (hs : s.size ≤ 9223372036854775806) : Calls Tryz.prog 68 #[.string s, .int .i64 0] w fun e w' => e = .returned (.bool (s.data.toList.all isSeenB)) ∧ w = w' := by
  have hbs := get_bt s
  have HA := Lib.hid (all_parts isSeenB s)
  have HE : Hid ((s.data.toList.take s.size).all isSeenB = s.data.toList.all isSeenB) := Lib.hid (by rw [show s.size = s.data.toList.length from rfl, List.take_length])
  go_enter Tryz.func68, Tryz.ntmps68
  go_wp2
  go_loopw [5] (fun iv wr => ∃ i : Nat, iv = .int .i64 (i : Int) ∧ i ≤ s.size ∧ (s.data.toList.take i).all isSeenB = true ∧ w = wr) (fun iv _ => match iv with | .int _ i => (s.size - i.toNat) | _ => 0)
  case atStart => exact ⟨0, rfl, Nat.zero_le _, by simp, rfl⟩
  case round =>
    obtain ⟨i, rfl, hi, hal, rfl⟩ := hrel
    have HAL := Lib.hid hal
    clear hal
    by_cases hlt : i < s.size
    · obtain ⟨c, hc, hn, hf⟩ := HA.out i hlt
      have hcb := bt_in hc
      have HN := Lib.hid hn
      have HF := Lib.hid hf
      have hc8 := c.toNat_lt
      clear hc hn hf
      cases hp : isSeenB c
      · have HP := Lib.hid hp
        by_cases b1 : 33 ≤ c.toNat
        · have b2 : ¬ (c.toNat : Int) ≤ 126 := by
            intro h
            unfold isSeenB at hp
            have h1 : decide (33 ≤ c.toNat) = true := by simpa using b1
            have h2 : decide (c.toNat ≤ 126) = true := by rw [decide_eq_true_eq]; omega
            rw [h1, h2] at hp
            cases hp
          have b3 : (33 : Int) ≤ (c.toNat : Int) := by omega
          clear hp b1
          go_wp2
          go_ret
          exact ⟨ret_bool (by have h := (HF.out HP.out).symm; first | exact h | simpa using h), rfl⟩
        · have b2 : ¬ (33 : Int) ≤ (c.toNat : Int) := by omega
          clear hp b1
          go_wp2
          go_ret
          exact ⟨ret_bool (by have h := (HF.out HP.out).symm; first | exact h | simpa using h), rfl⟩
      · have HP := Lib.hid hp
        have b0 : 33 ≤ c.toNat ∧ c.toNat ≤ 126 := by
          unfold isSeenB at hp
          simpa using hp
        have b1 : (33 : Int) ≤ (c.toNat : Int) := by omega
        have b2 : (c.toNat : Int) ≤ 126 := by omega
        clear hp b0
        have HT : Hid ((s.data.toList.take (i + 1)).all isSeenB = true) := Lib.hid (by rw [HN.out, HAL.out, HP.out]; rfl)
        go_wp2
        go_roundw
        case rel => first | exact ⟨i + 1, rfl, by omega, HT.out, rfl⟩ | exact ⟨i + 1, rfl, by omega, HT.out, trivial⟩
        case measure => (simp only; omega)
    · obtain rfl : i = s.size := by omega
      have HX : Hid (s.data.toList.all isSeenB = true) := Lib.hid (by rw [← HE.out]; exact HAL.out)
      clear hlt hi
      go_wp2
      go_ret
      exact ⟨ret_bool (by have h := HX.out.symm; first | exact h | simpa using h), rfl⟩
set_option maxRecDepth 100000 in
set_option maxHeartbeats 4000000 in
theorem all3_any (s : ByteArray) (w : World) (hs : s.size ≤ 9223372036854775806) : Calls Tryz.prog 68 #[.string s, .int .i64 3] w fun e w' => e = .returned (.bool (s.data.toList.all isUpB)) ∧ w = w' := by
  have hbs := get_bt s
  have HA := Lib.hid (all_parts isUpB s)
  have HE : Hid ((s.data.toList.take s.size).all isUpB = s.data.toList.all isUpB) := Lib.hid (by rw [show s.size = s.data.toList.length from rfl, List.take_length])
  go_enter Tryz.func68, Tryz.ntmps68
  go_wp2
  go_loopw [5] (fun iv wr => ∃ i : Nat, iv = .int .i64 (i : Int) ∧ i ≤ s.size ∧ (s.data.toList.take i).all isUpB = true ∧ w = wr) (fun iv _ => match iv with | .int _ i => (s.size - i.toNat) | _ => 0)
  case atStart => exact ⟨0, rfl, Nat.zero_le _, by simp, rfl⟩
  case round =>
    obtain ⟨i, rfl, hi, hal, rfl⟩ := hrel
    have HAL := Lib.hid hal
    clear hal
    by_cases hlt : i < s.size
    · obtain ⟨c, hc, hn, hf⟩ := HA.out i hlt
      have hcb := bt_in hc
      have HN := Lib.hid hn
      have HF := Lib.hid hf
      have hc8 := c.toNat_lt
      clear hc hn hf
      cases hp : isUpB c
      · have HP := Lib.hid hp
        by_cases b1 : 65 ≤ c.toNat
        · have b2 : ¬ (c.toNat : Int) ≤ 90 := by
            intro h
            unfold isUpB at hp
            have h1 : decide (65 ≤ c.toNat) = true := by simpa using b1
            have h2 : decide (c.toNat ≤ 90) = true := by rw [decide_eq_true_eq]; omega
            rw [h1, h2] at hp
            cases hp
          have b3 : (65 : Int) ≤ (c.toNat : Int) := by omega
          clear hp b1
          go_wp2
          go_ret
          exact ⟨ret_bool (by have h := (HF.out HP.out).symm; first | exact h | simpa using h), rfl⟩
        · have b2 : ¬ (65 : Int) ≤ (c.toNat : Int) := by omega
          clear hp b1
          go_wp2
          go_ret
          exact ⟨ret_bool (by have h := (HF.out HP.out).symm; first | exact h | simpa using h), rfl⟩
      · have HP := Lib.hid hp
        have b0 : 65 ≤ c.toNat ∧ c.toNat ≤ 90 := by
          unfold isUpB at hp
          simpa using hp
        have b1 : (65 : Int) ≤ (c.toNat : Int) := by omega
        have b2 : (c.toNat : Int) ≤ 90 := by omega
        clear hp b0
        have HT : Hid ((s.data.toList.take (i + 1)).all isUpB = true) := Lib.hid (by rw [HN.out, HAL.out, HP.out]; rfl)
        go_wp2
        go_roundw
        case rel => first | exact ⟨i + 1, rfl, by omega, HT.out, rfl⟩ | exact ⟨i + 1, rfl, by omega, HT.out, trivial⟩
        case measure => (simp only; omega)
    · obtain rfl : i = s.size := by omega
      have HX : Hid (s.data.toList.all isUpB = true) := Lib.hid (by rw [← HE.out]; exact HAL.out)
      clear hlt hi
      go_wp2
      go_ret
      exact ⟨ret_bool (by have h := HX.out.symm; first | exact h | simpa using h), rfl⟩
set_option maxRecDepth 100000 in
set_option maxHeartbeats 4000000 in
theorem all4_any (s : ByteArray) (w : World) (hs : s.size ≤ 9223372036854775806) : Calls Tryz.prog 68 #[.string s, .int .i64 4] w fun e w' => e = .returned (.bool (s.data.toList.all isTextB)) ∧ w = w' := by
  have hbs := get_bt s
  have HA := Lib.hid (all_parts isTextB s)
  have HE : Hid ((s.data.toList.take s.size).all isTextB = s.data.toList.all isTextB) := Lib.hid (by rw [show s.size = s.data.toList.length from rfl, List.take_length])
  go_enter Tryz.func68, Tryz.ntmps68
  go_wp2
  go_loopw [5] (fun iv wr => ∃ i : Nat, iv = .int .i64 (i : Int) ∧ i ≤ s.size ∧ (s.data.toList.take i).all isTextB = true ∧ w = wr) (fun iv _ => match iv with | .int _ i => (s.size - i.toNat) | _ => 0)
  case atStart => exact ⟨0, rfl, Nat.zero_le _, by simp, rfl⟩
  case round =>
    obtain ⟨i, rfl, hi, hal, rfl⟩ := hrel
    have HAL := Lib.hid hal
    clear hal
    by_cases hlt : i < s.size
    · obtain ⟨c, hc, hn, hf⟩ := HA.out i hlt
      have hcb := bt_in hc
      have HN := Lib.hid hn
      have HF := Lib.hid hf
      have hc8 := c.toNat_lt
      clear hc hn hf
      cases hp : isTextB c
      · have HP := Lib.hid hp
        by_cases b1 : 32 ≤ c.toNat
        · have b2 : ¬ (c.toNat : Int) ≤ 126 := by
            intro h
            unfold isTextB at hp
            have h1 : decide (32 ≤ c.toNat) = true := by simpa using b1
            have h2 : decide (c.toNat ≤ 126) = true := by rw [decide_eq_true_eq]; omega
            rw [h1, h2] at hp
            cases hp
          have b3 : (32 : Int) ≤ (c.toNat : Int) := by omega
          clear hp b1
          go_wp2
          go_ret
          exact ⟨ret_bool (by have h := (HF.out HP.out).symm; first | exact h | simpa using h), rfl⟩
        · have b2 : ¬ (32 : Int) ≤ (c.toNat : Int) := by omega
          clear hp b1
          go_wp2
          go_ret
          exact ⟨ret_bool (by have h := (HF.out HP.out).symm; first | exact h | simpa using h), rfl⟩
      · have HP := Lib.hid hp
        have b0 : 32 ≤ c.toNat ∧ c.toNat ≤ 126 := by
          unfold isTextB at hp
          simpa using hp
        have b1 : (32 : Int) ≤ (c.toNat : Int) := by omega
        have b2 : (c.toNat : Int) ≤ 126 := by omega
        clear hp b0
        have HT : Hid ((s.data.toList.take (i + 1)).all isTextB = true) := Lib.hid (by rw [HN.out, HAL.out, HP.out]; rfl)
        go_wp2
        go_roundw
        case rel => first | exact ⟨i + 1, rfl, by omega, HT.out, rfl⟩ | exact ⟨i + 1, rfl, by omega, HT.out, trivial⟩
        case measure => (simp only; omega)
    · obtain rfl : i = s.size := by omega
      have HX : Hid (s.data.toList.all isTextB = true) := Lib.hid (by rw [← HE.out]; exact HAL.out)
      clear hlt hi
      go_wp2
      go_ret
      exact ⟨ret_bool (by have h := HX.out.symm; first | exact h | simpa using h), rfl⟩
set_option maxRecDepth 100000 in
set_option maxHeartbeats 4000000 in
theorem all1_any (s : ByteArray) (w : World) (hs : s.size ≤ 9223372036854775806) : Calls Tryz.prog 68 #[.string s, .int .i64 1] w fun e w' => e = .returned (.bool (s.data.toList.all isNameB)) ∧ w = w' := by
  have hbs := get_bt s
  have HA := Lib.hid (all_parts isNameB s)
  have HE : Hid ((s.data.toList.take s.size).all isNameB = s.data.toList.all isNameB) := Lib.hid (by rw [show s.size = s.data.toList.length from rfl, List.take_length])
  go_enter Tryz.func68, Tryz.ntmps68
  go_wp2
  go_loopw [5] (fun iv wr => ∃ i : Nat, iv = .int .i64 (i : Int) ∧ i ≤ s.size ∧ (s.data.toList.take i).all isNameB = true ∧ w = wr) (fun iv _ => match iv with | .int _ i => (s.size - i.toNat) | _ => 0)
  case atStart => exact ⟨0, rfl, Nat.zero_le _, by simp, rfl⟩
  case round =>
    obtain ⟨i, rfl, hi, hal, rfl⟩ := hrel
    have HAL := Lib.hid hal
    clear hal
    by_cases hlt : i < s.size
    · obtain ⟨c, hc, hn, hf⟩ := HA.out i hlt
      have hcb := bt_in hc
      have HN := Lib.hid hn
      have HF := Lib.hid hf
      have hc8 := c.toNat_lt
      clear hc hn hf
      cases hp : isNameB c
      · have HP := Lib.hid hp
        clear hp
        go_wp2_with (first
          | (go_at_call 99; (with_reducible refine (rname_any c _).mono ?_); rintro e w9 ⟨rfl, rfl⟩; rw [HP.out]))
        go_ret
        exact ⟨ret_bool (by have h := (HF.out HP.out).symm; first | exact h | simpa using h), rfl⟩
      · have HP := Lib.hid hp
        clear hp
        have HT : Hid ((s.data.toList.take (i + 1)).all isNameB = true) := Lib.hid (by rw [HN.out, HAL.out, HP.out]; rfl)
        go_wp2_with (first
          | (go_at_call 99; (with_reducible refine (rname_any c _).mono ?_); rintro e w9 ⟨rfl, rfl⟩; rw [HP.out]))
        go_roundw
        case rel => first | exact ⟨i + 1, rfl, by omega, HT.out, rfl⟩ | exact ⟨i + 1, rfl, by omega, HT.out, trivial⟩
        case measure => (simp only; omega)
    · obtain rfl : i = s.size := by omega
      have HX : Hid (s.data.toList.all isNameB = true) := Lib.hid (by rw [← HE.out]; exact HAL.out)
      clear hlt hi
      go_wp2
      go_ret
      exact ⟨ret_bool (by have h := HX.out.symm; first | exact h | simpa using h), rfl⟩
set_option maxRecDepth 100000 in
set_option maxHeartbeats 4000000 in
theorem all2_any (s : ByteArray) (w : World) (hs : s.size ≤ 9223372036854775806) : Calls Tryz.prog 68 #[.string s, .int .i64 2] w fun e w' => e = .returned (.bool (s.data.toList.all isValueB)) ∧ w = w' := by
  have hbs := get_bt s
  have HA := Lib.hid (all_parts isValueB s)
  have HE : Hid ((s.data.toList.take s.size).all isValueB = s.data.toList.all isValueB) := Lib.hid (by rw [show s.size = s.data.toList.length from rfl, List.take_length])
  go_enter Tryz.func68, Tryz.ntmps68
  go_wp2
  go_loopw [5] (fun iv wr => ∃ i : Nat, iv = .int .i64 (i : Int) ∧ i ≤ s.size ∧ (s.data.toList.take i).all isValueB = true ∧ w = wr) (fun iv _ => match iv with | .int _ i => (s.size - i.toNat) | _ => 0)
  case atStart => exact ⟨0, rfl, Nat.zero_le _, by simp, rfl⟩
  case round =>
    obtain ⟨i, rfl, hi, hal, rfl⟩ := hrel
    have HAL := Lib.hid hal
    clear hal
    by_cases hlt : i < s.size
    · obtain ⟨c, hc, hn, hf⟩ := HA.out i hlt
      have hcb := bt_in hc
      have HN := Lib.hid hn
      have HF := Lib.hid hf
      have hc8 := c.toNat_lt
      clear hc hn hf
      cases hp : isValueB c
      · have HP := Lib.hid hp
        clear hp
        go_wp2_with (first
          | (go_at_call 100; (with_reducible refine (rvalue_any c _).mono ?_); rintro e w9 ⟨rfl, rfl⟩; rw [HP.out]))
        go_ret
        exact ⟨ret_bool (by have h := (HF.out HP.out).symm; first | exact h | simpa using h), rfl⟩
      · have HP := Lib.hid hp
        clear hp
        have HT : Hid ((s.data.toList.take (i + 1)).all isValueB = true) := Lib.hid (by rw [HN.out, HAL.out, HP.out]; rfl)
        go_wp2_with (first
          | (go_at_call 100; (with_reducible refine (rvalue_any c _).mono ?_); rintro e w9 ⟨rfl, rfl⟩; rw [HP.out]))
        go_roundw
        case rel => first | exact ⟨i + 1, rfl, by omega, HT.out, rfl⟩ | exact ⟨i + 1, rfl, by omega, HT.out, trivial⟩
        case measure => (simp only; omega)
    · obtain rfl : i = s.size := by omega
      have HX : Hid (s.data.toList.all isValueB = true) := Lib.hid (by rw [← HE.out]; exact HAL.out)
      clear hlt hi
      go_wp2
      go_ret
      exact ⟨ret_bool (by have h := HX.out.symm; first | exact h | simpa using h), rfl⟩
end Go.Proofs.YtbehakabglegjaaGreatDoor
