/- Layer 9: a text as it stands in a target. Layer 9: a target is cut into its parts: plain laws; rows of texts and of pairs beside a box. -/
import Derived.Test.YtbehakabglegjaaGreatDoorQ16
import Derived.Test.YtbehakabglegjaaGreatDoorQ15
namespace Go.Proofs.YtbehakabglegjaaGreatDoor
open Go.RowKit Go.PlainAid
set_option linter.unusedVariables false
set_option linter.unusedSimpArgs false
def digT : ByteArray := (⟨#[48, 49, 50, 51, 52, 53, 54, 55, 56, 57, 65, 66, 67, 68, 69, 70]⟩ : ByteArray)
set_option maxRecDepth 100000 in
theorem esc_text : ∀ n : Fin 256, (((⟨#[37]⟩ : ByteArray) ++ digT.extract (n.val / 16) (n.val / 16 + 1)) ++ digT.extract (n.val % 16) (n.val % 16 + 1)).data.toList = [37, digU (n.val / 16), digU (n.val % 16)] := by decide +kernel
theorem esc_bytes (c : UInt8) : (((⟨#[37]⟩ : ByteArray) ++ digT.extract (c.toNat / 16) (c.toNat / 16 + 1)) ++ digT.extract (c.toNat % 16) (c.toNat % 16 + 1)).data.toList = [37, digU (c.toNat / 16), digU (c.toNat % 16)] := esc_text ⟨c.toNat, c.toNat_lt⟩
theorem esc_take {s : ByteArray} {i : Nat} {c : UInt8} (h : (bl s)[i]? = some c) : ((bl s).take (i + 1)).flatMap escB = ((bl s).take i).flatMap escB ++ escB c := by
  rw [List.take_add_one, h, List.flatMap_append]
  simp
theorem esc_len (l : List UInt8) : (l.flatMap escB).length ≤ 3 * l.length := by
  induction l with
  | nil => exact Nat.le_refl _
  | cons c r ih =>
    rw [List.flatMap_cons, List.length_append, List.length_cons]
    have : (escB c).length ≤ 3 := by
      unfold escB
      split <;> simp
    omega
theorem and_15t : ∀ n : Fin 256, bits BinOp.and IntKind.u8 (n.val : Int) 15 = ((n.val % 16 : Nat) : Int) := by decide +kernel
theorem and_15 (c : UInt8) : bits BinOp.and IntKind.u8 (c.toNat : Int) 15 = ((c.toNat % 16 : Nat) : Int) := and_15t ⟨c.toNat, c.toNat_lt⟩
theorem u8_small (n : Nat) (h : n < 256) : IntKind.u8.wrap (n : Int) = (n : Int) := by
  have e : IntKind.u8.wrap (n : Int) = (n : Int) % 256 := by simp [IntKind.wrap, IntKind.bits, IntKind.signed]
  omega
theorem kw_isB {B b : Nat} {w w' : World} (h : KW B b w w') : w.heap.size ≤ w'.heap.size := h.1.size
set_option maxRecDepth 100000 in
set_option maxHeartbeats 8000000 in
theorem escape_any {B b : Nat} {acc : List UInt8} {s : ByteArray} {w : World} (HI : IsB B b (Lib.byteCells acc) w) (hB : B ≤ w.heap.size) (hl : acc.length + 3 * s.size ≤ wTop) :
    Calls Tryz.prog 48 #[At b, .string s] w fun e w' => e = .returned (.tuple #[]) ∧ IsB B b (Lib.byteCells (acc ++ escL s)) w' ∧ KW B b w w' := by
  have HL := Lib.hid hl
  have HS : Hid (s.size ≤ 70368744177664) := Lib.hid (by unfold wTop at hl; omega)
  have hbs := get_bt s
  have HK : KW B b w w := KW.refl hB
  have HBB := Lib.hid hB
  clear hl hB
  go_enter Tryz.func48, Tryz.ntmps48
  go_wp2
  go_loopw [8] (fun iv wr => ∃ i : Nat, iv = .int .i64 (i : Int) ∧ i ≤ s.size ∧ IsB B b (Lib.byteCells (acc ++ ((bl s).take i).flatMap escB)) wr ∧ KW B b w wr) (fun iv _ => match iv with | .int _ i => (s.size - i.toNat) | _ => 0)
  case atStart => exact ⟨0, rfl, Nat.zero_le _, by simpa using HI, HK⟩
  case round =>
    clear HI HK
    obtain ⟨i, rfl, hi, HI, HK⟩ := hrel
    by_cases hlt : i < s.size
    · obtain ⟨c, hc⟩ : ∃ c, (bl s)[i]? = some c := ⟨_, List.getElem?_eq_getElem (show i < (bl s).length from hlt)⟩
      have hcb := bt_in hc
      have hsz := HS.out
      have HT := Lib.hid (esc_take hc)
      have HLN : Hid ((acc ++ ((bl s).take i).flatMap escB).length + 3 ≤ wTop) := Lib.hid (by
        have h1 := esc_len ((bl s).take i)
        have h2 : ((bl s).take i).length = i := by rw [List.length_take]; exact Nat.min_eq_left hi
        have h3 := HL.out
        rw [List.length_append]
        omega)
      have HA : Hid (acc ++ ((bl s).take (i + 1)).flatMap escB = (acc ++ ((bl s).take i).flatMap escB) ++ escB c) := Lib.hid (by rw [HT.out, List.append_assoc])
      generalize acc ++ ((bl s).take i).flatMap escB = ac at HI HLN HA
      clear HT
      have hix := ix_has plainMarks c
      have HX : Hid (∀ w, Calls Tryz.prog 58 #[.string ⟨#[45, 46, 95, 126, 33, 36, 58, 64]⟩, .int .u8 (c.toNat : Int)] w fun e w' => e = .returned (.int .i64 (Lib.indexByte plainMarks c)) ∧ w = w') := Lib.hid (fun w => (ix_any (⟨#[45, 46, 95, 126, 33, 36, 58, 64]⟩ : ByteArray) c w).mono fun e w' h => ⟨h.1, h.2.symm⟩)
      generalize Lib.indexByte plainMarks c = ix at HX hix
      cases hw : isWordB c
      · have HWD := Lib.hid hw
        cases hp : plainMarks.contains c
        · have HE : Hid (escB c = [37, digU (c.toNat / 16), digU (c.toNat % 16)]) := Lib.hid (by unfold escB; rw [hw, hp]; rfl)
          have hx : ¬ 0 ≤ ix := by
            intro h
            have := hix.1.1 h
            rw [hp] at this
            cases this
          clear hix hp hw hc
          have hc8 := c.toNat_lt
          obtain ⟨hN, hH⟩ : ∃ hN : Nat, c.toNat / 16 = hN := ⟨_, rfl⟩
          obtain ⟨lN, hLo⟩ : ∃ lN : Nat, c.toNat % 16 = lN := ⟨_, rfl⟩
          have hEB := esc_bytes c
          rw [hH, hLo] at hEB
          have HEB := Lib.hid hEB
          have HEL : Hid (escB c = [37, digU hN, digU lN]) := Lib.hid (by rw [HE.out, hH, hLo])
          have HH : Hid ((c.toNat : Int) / 16 = (hN : Int)) := Lib.hid (by omega)
          have HAN : Hid (bits BinOp.and IntKind.u8 (c.toNat : Int) 15 = (lN : Int)) := Lib.hid (by rw [and_15 c, hLo])
          have hh : hN ≤ 15 := by omega
          have hl : lN ≤ 15 := by omega
          have W1 : Hid (IntKind.u8.wrap ((hN : Int) + 1) = (hN : Int) + 1) := Lib.hid (u8_small (hN + 1) (by omega))
          have W2 : Hid (IntKind.u8.wrap ((lN : Int) + 1) = (lN : Int) + 1) := Lib.hid (u8_small (lN + 1) (by omega))
          have t1 : ((hN : Int) + 1).toNat = hN + 1 := by omega
          have t2 : ((lN : Int) + 1).toNat = lN + 1 := by omega
          have l1 : (hN : Int) + 1 ≤ 16 := by omega
          have l2 : (lN : Int) + 1 ≤ 16 := by omega
          have g1 : 0 ≤ (hN : Int) + 1 := by omega
          have g2 : (hN : Int) ≤ (hN : Int) + 1 := by omega
          have g3 : 0 ≤ (lN : Int) + 1 := by omega
          have g4 : (lN : Int) ≤ (lN : Int) + 1 := by omega
          have HZ : Hid ((((⟨#[37]⟩ : ByteArray) ++ digT.extract hN (hN + 1)) ++ digT.extract lN (lN + 1)).size = 3) := Lib.hid (congrArg List.length hEB)
          clear hEB hH hLo
          go_wp2_with (first
            | (go_at_call 57; (with_reducible refine (word_any _ _).mono ?_); rintro e w' ⟨rfl, rfl⟩; rw [HWD.out])
            | (go_at_call 58; (with_reducible refine (HX.out _).mono ?_); rintro e w' ⟨rfl, rfl⟩))
          refine wp_region_S (S := fun _ => True) (by kernel_rfl) (fun w2 hh => trivial) (fun w2 hh hbb HS0 => ?_)
          replace HI := isB_heap hh HI
          replace HK := HK.trans (KW.of (hbb _ (Nat.le_refl _)) (HK.up HBB.out))
          clear hh hbb
          refine TKC 0 24 rfl ?_
          try simp only [Act.put, zA, zB, zC]
          refine TKC 1 25 rfl ?_
          try simp only [Act.put, zA, zB, zC]
          refine TKC 2 26 (v := .int .u8 (hN : Int)) rfl ?_ (by (intro w hSw; (try dsimp only at hSw); have q1 := HH.out; go_simp; try with_reducible rfl))
          try simp only [Act.put, zA, zB, zC]
          refine TKC 3 27 rfl ?_
          try simp only [Act.put, zA, zB, zC]
          refine TKC 4 28 (v := .int .u8 (hN : Int)) rfl ?_ (by (intro w hSw; (try dsimp only at hSw); have q1 := HH.out; go_simp; try with_reducible rfl))
          try simp only [Act.put, zA, zB, zC]
          refine TKC 5 29 (v := .int .u8 ((hN : Int) + 1)) rfl ?_ (by (intro w hSw; (try dsimp only at hSw); have q1 := W1.out; go_simp; try with_reducible rfl))
          try simp only [Act.put, zA, zB, zC]
          refine TKC 6 30 (v := .string ((⟨#[48, 49, 50, 51, 52, 53, 54, 55, 56, 57, 65, 66, 67, 68, 69, 70]⟩ : ByteArray).extract hN (hN + 1))) rfl ?_
          try simp only [Act.put, zA, zB, zC]
          refine TKC 7 31 rfl ?_
          try simp only [Act.put, zA, zB, zC]
          refine TKC 8 32 rfl ?_
          try simp only [Act.put, zA, zB, zC]
          refine TKC 9 33 (v := .int .u8 (lN : Int)) rfl ?_ (by (intro w hSw; (try dsimp only at hSw); have q1 := HAN.out; go_simp; try with_reducible rfl))
          try simp only [Act.put, zA, zB, zC]
          refine TKC 10 34 rfl ?_
          try simp only [Act.put, zA, zB, zC]
          refine TKC 11 35 (v := .int .u8 (lN : Int)) rfl ?_ (by (intro w hSw; (try dsimp only at hSw); have q1 := HAN.out; go_simp; try with_reducible rfl))
          try simp only [Act.put, zA, zB, zC]
          refine TKC 12 36 (v := .int .u8 ((lN : Int) + 1)) rfl ?_ (by (intro w hSw; (try dsimp only at hSw); have q1 := W2.out; go_simp; try with_reducible rfl))
          try simp only [Act.put, zA, zB, zC]
          refine TKC 13 37 (v := .string ((⟨#[48, 49, 50, 51, 52, 53, 54, 55, 56, 57, 65, 66, 67, 68, 69, 70]⟩ : ByteArray).extract lN (lN + 1))) rfl ?_
          try simp only [Act.put, zA, zB, zC]
          refine TKC 14 38 rfl ?_
          try simp only [Act.put, zA, zB, zC]
          refine wpAnyH_ready (rs := [15]) (by kernel_rfl) (by simp) ?_
          refine AllReadyH.cons (o := ⟨some 39, _, _, _, _, _⟩) rfl (fun K hK => ?_) AllReadyH.nil
          go_simp
          (go_at_call 76; (refine (wtext_any (s := ((⟨#[37]⟩ : ByteArray) ++ digT.extract hN (hN + 1)) ++ digT.extract lN (lN + 1)) HI (by have h1 := HLN.out; have h2 := HZ.out; omega) (HK.up HBB.out)).mono ?_); rintro e w9 ⟨rfl, hi9, hk9⟩)
          rw [HEB.out] at hi9
          replace HI := hi9
          replace HK := HK.trans hk9
          clear hi9 hk9
          refine hK.out _ _ HS0 (fun hS2 => ?_)
          clear hK K hS2
          try simp only [Act.put, zA, zB, zC]
          refine wpAnyH_done (by kernel_rfl) ?_ _
          go_wp2
          go_roundw
          case rel => first | exact ⟨i + 1, rfl, by omega, (by rw [HA.out, HEL.out]; exact HI), HK⟩ | ((repeat apply Exists.intro); exact ⟨⟨i + 1, rfl, by omega, (by rw [HA.out, HEL.out]; exact HI), HK⟩, rfl⟩)
          case measure => (simp only; omega)
        · have HE : Hid (escB c = [c]) := Lib.hid (by unfold escB; rw [hw, hp]; rfl)
          have hx : 0 ≤ ix := hix.1.2 hp
          clear hix hp hw hc
          go_wp2_with (first
            | (go_at_call 57; (with_reducible refine (word_any _ _).mono ?_); rintro e w' ⟨rfl, rfl⟩; rw [HWD.out])
            | (go_at_call 58; (with_reducible refine (HX.out _).mono ?_); rintro e w' ⟨rfl, rfl⟩)
            | (go_at_call 47; (with_reducible refine (wbyte_any (n := (c.toNat : Int)) (c := c) rfl HI (by have := HLN.out; omega) (HK.up HBB.out)).mono ?_); rintro e w9 ⟨rfl, hi9, hk9⟩; replace HI := hi9; replace HK := HK.trans hk9; clear hi9 hk9))
          go_roundw
          case rel => first | exact ⟨i + 1, rfl, by omega, (by rw [HA.out, HE.out]; exact HI), HK⟩ | ((repeat apply Exists.intro); exact ⟨⟨i + 1, rfl, by omega, (by rw [HA.out, HE.out]; exact HI), HK⟩, rfl⟩)
          case measure => (simp only; omega)
      · have HWD := Lib.hid hw
        have HE : Hid (escB c = [c]) := Lib.hid (by unfold escB; rw [hw]; rfl)
        clear hix hw hc HX
        go_wp2_with (first
          | (go_at_call 57; (with_reducible refine (word_any _ _).mono ?_); rintro e w' ⟨rfl, rfl⟩; rw [HWD.out])
          | (go_at_call 47; (with_reducible refine (wbyte_any (n := (c.toNat : Int)) (c := c) rfl HI (by have := HLN.out; omega) (HK.up HBB.out)).mono ?_); rintro e w9 ⟨rfl, hi9, hk9⟩; replace HI := hi9; replace HK := HK.trans hk9; clear hi9 hk9))
        go_roundw
        case rel => first | exact ⟨i + 1, rfl, by omega, (by rw [HA.out, HE.out]; exact HI), HK⟩ | ((repeat apply Exists.intro); exact ⟨⟨i + 1, rfl, by omega, (by rw [HA.out, HE.out]; exact HI), HK⟩, rfl⟩)
        case measure => (simp only; omega)
    · obtain rfl : i = s.size := by omega
      have HE : Hid (((bl s).take s.size).flatMap escB = escL s) := Lib.hid (by
        unfold escL
        rw [show s.size = (bl s).length from rfl, List.take_length])
      go_wp2
      go_end0
      exact ⟨rfl, by rw [← HE.out]; exact HI, HK⟩
end Go.Proofs.YtbehakabglegjaaGreatDoor
namespace Go.Proofs.YtbehakabglegjaaGreatDoor
open Go.RowKit Go.PlainAid
set_option linter.unusedVariables false
set_option linter.unusedSimpArgs false
theorem partL_bd (en : List UInt8) : ∀ (n : Nat) (l : List UInt8) (i : Nat) (acc t : List UInt8) (k : Nat), partL en n l i acc = .inr (t, k) → i ≤ k ∧ k ≤ i + l.length
  | 0, l, i, acc, t, k, h => by
    injection h with h
    injection h with _ h
    omega
  | n + 1, [], i, acc, t, k, h => by
    unfold partL at h
    injection h with h
    injection h with _ h
    omega
  | n + 1, c :: l, i, acc, t, k, h => by
    unfold partL at h
    simp only [List.length_cons]
    split at h
    · injection h with h
      injection h with _ h
      omega
    · split at h
      · cases h
      · split at h
        · match l, h with
          | [], h => cases h
          | [_], h => cases h
          | a :: b :: l2, h =>
            simp only at h
            split at h
            · cases h
            · have := partL_bd en n l2 (i + 3) _ t k h
              simp only [List.length_cons]
              omega
        · have := partL_bd en n l (i + 1) _ t k h
          omega
theorem partS_bd {en s : List UInt8} {i k : Nat} {t : ByteArray} (h : partS en s i = .inr (t, k)) (hi : i ≤ s.length) : i ≤ k ∧ k ≤ s.length := by
  unfold partS at h
  split at h
  · cases h
  · rename_i t2 k2 e
    split at h
    · injection h with h
      injection h with _ h
      have := partL_bd _ _ _ _ _ _ _ e
      rw [List.length_drop] at this
      omega
    · cases h
/-- The path from a place on, whatever the fuel. -/
def PT (s : List UInt8) (k : Nat) (acc : List ByteArray) (r : (Int × Nat) ⊕ (List ByteArray × Nat)) : Prop := ∀ n, s.length - k < n → pathS s n k acc = r
theorem PT.end_ {s : List UInt8} {k : Nat} {acc : List ByteArray} {r} (h : PT s k acc r) (hk : s[k]? ≠ some 47) : r = .inr (acc, k) := by
  have e := h (s.length - k + 1) (by omega)
  unfold pathS at e
  rw [if_neg hk] at e
  exact e.symm
theorem PT.bad {s : List UInt8} {k : Nat} {acc : List ByteArray} {r} {x : Int × Nat} (h : PT s k acc r) (hk : s[k]? = some 47) (hp : partS [47, 63] s (k + 1) = .inl x) : r = .inl x := by
  have e := h (s.length - k + 1) (by omega)
  unfold pathS at e
  rw [if_pos hk, hp] at e
  exact e.symm
theorem pathS_fuel (s : List UInt8) : ∀ (n m k : Nat) (acc : List ByteArray), s.length - k < n → s.length - k < m → pathS s n k acc = pathS s m k acc
  | 0, _, _, _, h, _ => by cases h
  | _ + 1, 0, _, _, _, h => by cases h
  | n + 1, m + 1, k, acc, hn, hm => by
    unfold pathS
    by_cases hk : s[k]? = some 47
    · rw [if_pos hk, if_pos hk]
      have hl := (List.getElem?_eq_some_iff.1 hk).1
      cases hp : partS [47, 63] s (k + 1) with
      | inl x => rfl
      | inr x =>
        obtain ⟨p, k2⟩ := x
        have hb := partS_bd hp (by omega)
        exact pathS_fuel s n m k2 _ (by omega) (by omega)
    · rw [if_neg hk, if_neg hk]
theorem PT.more {s : List UInt8} {k k2 : Nat} {acc : List ByteArray} {r} {p : ByteArray} (h : PT s k acc r) (hk : s[k]? = some 47) (hp : partS [47, 63] s (k + 1) = .inr (p, k2)) : PT s k2 (acc ++ [p]) r := fun n hn => by
  have hl := (List.getElem?_eq_some_iff.1 hk).1
  have hb := partS_bd hp (by omega)
  have e := h (s.length - k + 1) (by omega)
  conv at e => lhs; unfold pathS
  rw [if_pos hk, hp] at e
  rw [← e]
  exact pathS_fuel s _ _ _ _ hn (by omega)
theorem PT.start (s : List UInt8) : PT s 0 [] (pathS s (s.length + 1) 0 []) := fun n hn => pathS_fuel s _ _ _ _ hn (by omega)
theorem paramS_bd {s : List UInt8} {i k : Nat} {p : ByteArray × ByteArray} (h : paramS s i = .inr (p, k)) (hi : i ≤ s.length) : i ≤ k ∧ k ≤ s.length := by
  unfold paramS at h
  split at h
  · cases h
  · rename_i n k1 e1
    have h1 := partS_bd e1 hi
    split at h
    · rename_i h61
      have hl := (List.getElem?_eq_some_iff.1 h61).1
      split at h
      · cases h
      · rename_i v q e2
        have h2 := partS_bd e2 (by omega)
        injection h with h
        injection h with _ h
        omega
    · injection h with h
      injection h with _ h
      omega
/-- The query from a place on, whatever the fuel. -/
def QT (s : List UInt8) (k : Nat) (acc : List (ByteArray × ByteArray)) (r : (Int × Nat) ⊕ (List (ByteArray × ByteArray))) : Prop := ∀ n, s.length - k < n → queryS s n k acc = r
theorem QT.bad {s : List UInt8} {k : Nat} {acc : List (ByteArray × ByteArray)} {r} {x : Int × Nat} (h : QT s k acc r) (hp : paramS s k = .inl x) : r = .inl x := by
  have e := h (s.length - k + 1) (by omega)
  unfold queryS at e
  rw [hp] at e
  exact e.symm
theorem QT.last {s : List UInt8} {k k2 : Nat} {acc : List (ByteArray × ByteArray)} {r} {p : ByteArray × ByteArray} (h : QT s k acc r) (hp : paramS s k = .inr (p, k2)) (h38 : s[k2]? ≠ some 38) : r = .inr (acc ++ [p]) := by
  have e := h (s.length - k + 1) (by omega)
  unfold queryS at e
  rw [hp] at e
  simp only at e
  rw [if_neg h38] at e
  exact e.symm
theorem queryS_fuel (s : List UInt8) : ∀ (n m k : Nat) (acc : List (ByteArray × ByteArray)), k ≤ s.length → s.length - k < n → s.length - k < m → queryS s n k acc = queryS s m k acc
  | 0, _, _, _, _, h, _ => by cases h
  | _ + 1, 0, _, _, _, _, h => by cases h
  | n + 1, m + 1, k, acc, hk, hn, hm => by
    unfold queryS
    cases hp : paramS s k with
    | inl x => rfl
    | inr x =>
      obtain ⟨p, k2⟩ := x
      have hb := paramS_bd hp hk
      simp only
      by_cases h38 : s[k2]? = some 38
      · rw [if_pos h38, if_pos h38]
        have hl := (List.getElem?_eq_some_iff.1 h38).1
        exact queryS_fuel s n m _ _ (by omega) (by omega) (by omega)
      · rw [if_neg h38, if_neg h38]
theorem QT.more {s : List UInt8} {k k2 : Nat} {acc : List (ByteArray × ByteArray)} {r} {p : ByteArray × ByteArray} (h : QT s k acc r) (hk : k ≤ s.length) (hp : paramS s k = .inr (p, k2)) (h38 : s[k2]? = some 38) : QT s (k2 + 1) (acc ++ [p]) r := fun n hn => by
  have hl := (List.getElem?_eq_some_iff.1 h38).1
  have hb := paramS_bd hp hk
  have e := h (s.length - k + 1) (by omega)
  conv at e => lhs; unfold queryS
  rw [hp] at e
  simp only at e
  rw [if_pos h38] at e
  rw [← e]
  exact queryS_fuel s _ _ _ _ (by omega) hn (by omega)
theorem QT.start {s : List UInt8} {k : Nat} (hk : k ≤ s.length) : QT s k [] (queryS s (s.length + 1) k []) := fun n hn => queryS_fuel s _ _ _ _ hk hn (by omega)
theorem paramS_bad {s : List UInt8} {k : Nat} {x : Int × Nat} (h : partS [61, 38] s k = .inl x) : paramS s k = .inl x := by unfold paramS; rw [h]
theorem paramS_name {s : List UInt8} {k k1 : Nat} {n : ByteArray} (h : partS [61, 38] s k = .inr (n, k1)) (h61 : s[k1]? ≠ some 61) : paramS s k = .inr ((n, ⟨#[]⟩), k1) := by unfold paramS; rw [h]; simp only; rw [if_neg h61]
theorem paramS_bad2 {s : List UInt8} {k k1 : Nat} {n : ByteArray} {x : Int × Nat} (h : partS [61, 38] s k = .inr (n, k1)) (h61 : s[k1]? = some 61) (h2 : partS [38] s (k1 + 1) = .inl x) : paramS s k = .inl x := by unfold paramS; rw [h]; simp only; rw [if_pos h61, h2]
theorem paramS_both {s : List UInt8} {k k1 k2 : Nat} {n v : ByteArray} (h : partS [61, 38] s k = .inr (n, k1)) (h61 : s[k1]? = some 61) (h2 : partS [38] s (k1 + 1) = .inr (v, k2)) : paramS s k = .inr ((n, v), k2) := by unfold paramS; rw [h]; simp only; rw [if_pos h61, h2]
/-- A row's block is none of another type. -/
theorem own_ne {w : World} {base : Nat} {e t : TypeId} {size g : Nat} {v : Value} {n : Nat} {xs : List Value} {arr : Array Value} (h : w.ownsRow base e size v n xs) (hB : IBox w g t arr) (ht : t ≠ e) : v.ownBlock ≠ some g := fun hv => by
  rcases h.2 with ⟨rfl, _⟩ | ⟨k, cap, cur, rfl, _, hg, _⟩
  · cases hv
  · have : k = g := Option.some.inj hv
    subst this
    have hI : w.heap[k]? = some (.cells arr t (0, 0)) := hB
    rw [hI] at hg
    injection hg with hg
    injection hg with _ e2
    exact ht e2
theorem own_by {w w' : World} {base : Nat} {e t : TypeId} {size g : Nat} {v : Value} {n : Nat} {xs : List Value} {arr : Array Value} (h : w.ownsRow base e size v n xs) (hB : IBox w g t arr) (ht : t ≠ e) (hb : Bes (· = g) w w') : w'.ownsRow base e size v n xs :=
  hb.own h fun k hk e2 => own_ne h hB ht (by rw [hk, e2])
theorem box_ne {w : World} {a b : Nat} {s t : TypeId} {x y : Array Value} (h : IBox w a s x) (k : IBox w b t y) (ht : s ≠ t) : a ≠ b := fun e => by
  subst e
  have h2 : w.heap[a]? = some (.cells x s (0, 0)) := h
  have k2 : w.heap[a]? = some (.cells y t (0, 0)) := k
  rw [h2] at k2
  injection k2 with k2
  injection k2 with _ e2
  exact ht e2
theorem box_by {w w' : World} {a b : Nat} {s t : TypeId} {x y : Array Value} (h : IBox w a s x) (k : IBox w b t y) (ht : s ≠ t) (hb : Bes (· = b) w w') : IBox w' a s x := hb.box h (box_ne h k ht)
theorem box_grown {w w' : World} {base g : Nat} {e t : TypeId} {size : Nat} {v : Value} {n : Nat} {xs : List Value} {arr : Array Value} (hB : IBox w g t arr) (h : w.ownsRow base e size v n xs) (ht : t ≠ e) (hg : w.grownBy w' v.ownBlock) : IBox w' g t arr :=
  (Bes.grown (X := fun q => v.ownBlock = some q) hg (fun _ e => e)).box hB (own_ne h hB ht)
theorem own_grown {w w' : World} {base b2 : Nat} {e t : TypeId} {size s2 : Nat} {v v2 : Value} {n n2 : Nat} {xs ys : List Value} (h : w.ownsRow base e size v n xs) (h2 : w.ownsRow b2 t s2 v2 n2 ys) (ht : e ≠ t) (hg : w.grownBy w' v2.ownBlock) : w'.ownsRow base e size v n xs := by
  refine (Bes.grown (X := fun q => v2.ownBlock = some q) hg (fun _ e => e)).own h fun k hk hk2 => ?_
  rcases h.2 with ⟨rfl, _⟩ | ⟨a, cap, cur, rfl, _, ha, _⟩
  · cases hk
  · rcases h2.2 with ⟨rfl, _⟩ | ⟨b, cap2, cur2, rfl, _, hb, _⟩
    · cases hk2
    · have e1 : a = k := Option.some.inj hk
      have e2 : b = k := Option.some.inj hk2
      subst e1
      subst e2
      rw [ha] at hb
      injection hb with hb
      injection hb with _ e3
      exact ht e3
/-- The row grown by one element that lies in a block of its own; what else has changed is told. -/
theorem wpl_grow {P : Program} {ops : Array Oper} {rest : List Oper} {o : Oper} {a : Act} {w : World} {Q : Exit → Act → World → Prop} (hgd : o.guard = none) (s x : Operand) (t : TypeId)
    (ho : o.op = .call { callee := .builtin .append, args := #[s, x], argTypes := #[t, t] })
    (base : Nat) (e : TypeId) (i : TypeInfo) (z : Value) (size bytes : Nat) (ht : P.underlying t = some (.slice e)) (hi : P.info? e = some i) (hz : i.zero = some z)
    (hsize : i.size = size) (hby : i.bytes = bytes) (hzs : z.cells.size = size) (hsz : 0 < size)
    (v : Value) (n : Nat) (xs : List Value) (hs : a.eval s = v) (hown : w.ownsRow base e size v n xs)
    (g c : Nat) (cells : Array Value) (ty : TypeId) (IB : IBox w g ty cells) (hcs : cells.size = size) (hx : a.eval x = .slice (some ⟨g, 0, none⟩) 1 c) (h1 : cells.all (·.oneCell') = true)
    (h63 : n + 1 ≤ maxLen) (hbytes : (n + 1) * bytes ≤ 140737488355328) (hbase : base ≤ w.heap.size)
    (h : ∀ v' w', w'.ownsRow base e size v' (n + 1) (xs ++ cells.toList) → w.grownBy w' v.ownBlock → Below base w w' → wpList P ops Q rest (a.put o.dst v') w') : wpList P ops Q (o :: rest) a w := by
  refine wpList_append_own w hgd s x t ho base e i z size bytes ht hi hz hsize hby hzs hsz v n xs hs hown ⟨g, 0, none⟩ 1 c cells.toList hx (by simp [hcs]) ?_ ?_ h63 hbytes hbase ?_
  · intro j u hu
    have hadd : (⟨g, 0, none⟩ : Addr).add j = ⟨g, j, none⟩ := by unfold Addr.add; split <;> simp_all
    rw [hadd, IB.cell]
    simpa using hu
  · intro u hu
    have := Array.all_eq_true_iff_forall_mem.1 h1 u (by simpa using hu)
    exact this
  · intro v' w' h2 h3 _
    exact h v' w' h2 h3 ((Below.refl base w).grown h3 hbase fun k hk => (hown.lt k hk).1)
def txL (l : List ByteArray) : List Value := l.map Value.string
/-- Texts in a row of the call's own. -/
def OwnT (w : World) (base : Nat) (v : Value) (l : List ByteArray) : Prop := w.ownsRow base 9 1 v l.length (txL l)
/-- Pairs of texts in a row of the call's own. -/
def OwnP (w : World) (base : Nat) (v : Value) (l : List (ByteArray × ByteArray)) : Prop := w.ownsRow base 54 2 v l.length (hdsL l)
theorem own_nil (w : World) (base : Nat) (e : TypeId) (size : Nat) : w.ownsRow base e size (.slice none 0 0) 0 [] := ⟨by rw [Nat.zero_mul]; rfl, .inl ⟨rfl, rfl⟩⟩
theorem own_some {w : World} {base : Nat} {e : TypeId} {size n : Nat} {v : Value} {xs : List Value} (h : w.ownsRow base e size v n xs) (hn : n ≠ 0) : ∃ ad cap, v = .slice (some ad) n cap := by
  rcases h.2 with ⟨_, h0⟩ | ⟨g, cap, cur, rfl, _⟩
  · exact absurd h0 hn
  · exact ⟨_, _, rfl⟩
theorem info_str : ∃ ie, Tryz.prog.info? 9 = some ie ∧ ie.zero = some (.string ⟨#[]⟩) ∧ ie.size = 1 ∧ ie.bytes = 16 := by
  have h : (Tryz.prog.info? 9).map (fun i => (i.zero, i.size, i.bytes)) = some (some (.string ⟨#[]⟩), 1, 16) := by kernel_rfl
  cases hq : Tryz.prog.info? 9 with
  | none => rw [hq] at h; cases h
  | some ie =>
    rw [hq] at h
    simp only [Option.map_some, Option.some.injEq, Prod.mk.injEq] at h
    exact ⟨ie, rfl, h.1, h.2.1, h.2.2⟩
theorem str_fill (a : ByteArray) : Instr.fill (fun i => some (i * 1, 1)) ((Array.range (1 * 1)).map ((Value.string ⟨#[]⟩).cells[· % (Value.string ⟨#[]⟩).cells.size]!)) [(0, .string a)] = some #[.string a] := by kernel_rfl
theorem info_pm : ∃ ie, Tryz.prog.info? 54 = some ie ∧ ie.zero = some (.agg (hdA ⟨#[]⟩ ⟨#[]⟩)) ∧ ie.size = 2 ∧ ie.bytes = 32 := by
  have h : (Tryz.prog.info? 54).map (fun i => (i.zero, i.size, i.bytes)) = some (some (.agg (hdA ⟨#[]⟩ ⟨#[]⟩)), 2, 32) := by kernel_rfl
  cases hq : Tryz.prog.info? 54 with
  | none => rw [hq] at h; cases h
  | some ie =>
    rw [hq] at h
    simp only [Option.map_some, Option.some.injEq, Prod.mk.injEq] at h
    exact ⟨ie, rfl, h.1, h.2.1, h.2.2⟩
theorem info_pm2 : (Tryz.prog.info? 54).map (·.size) = some 2 := by kernel_rfl
theorem zeroPm (w : World) : (zeroValue 54).run Tryz.prog w = .ok (.agg (hdA ⟨#[]⟩ ⟨#[]⟩)) w := (Go.zero_of_info (show (Tryz.prog.info? 54).map (fun i => (i.zero, i.size)) = some (some (.agg (hdA ⟨#[]⟩ ⟨#[]⟩)), 2) by kernel_rfl)).1 w
theorem pm_build (nm : ByteArray) (w : World) : (Instr.build 54 [(0, .string nm)].toArray).run Tryz.prog w = .ok (.agg (hdA nm ⟨#[]⟩)) w := by kernel_rfl
theorem ct_build (s : ByteArray) (w : World) : (Instr.build 91 [(0, .string s)].toArray).run Tryz.prog w = .ok (.agg (CtA s 0)) w := by kernel_rfl
theorem ft_build (k : Int) (w : World) : (Instr.build 85 [(1, .iface 31 (.int .i64 k))].toArray).run Tryz.prog w = .ok (.agg (FaultA 0 k)) w := by kernel_rfl
theorem one_s1 : (Tryz.prog.info? 9).map (·.size) = some 1 := by kernel_rfl
theorem txL_app (l : List ByteArray) (p : ByteArray) : txL l ++ (#[Value.string p] : Array Value).toList = txL (l ++ [p]) := by unfold txL; simp
def qOut (path : List ByteArray) (r : (Int × Nat) ⊕ (List (ByteArray × ByteArray))) : (Int × Nat) ⊕ (List ByteArray × List (ByteArray × ByteArray)) := match r with
  | .inl e => .inl e
  | .inr q => .inr (path, q)
/-- What Split gives. -/
def SpV (w : World) (base : Nat) (r : (Int × Nat) ⊕ (List ByteArray × List (ByteArray × ByteArray))) (e : Ending) : Prop := match r with
  | .inl (c, p) => ∃ v, e = .returned (.tuple #[.slice none 0 0, .slice none 0 0, v]) ∧ IsFault w v c p
  | .inr (path, q) => ∃ pv qv, e = .returned (.tuple #[pv, qv, .nilIface]) ∧ OwnT w base pv path ∧ OwnP w base qv q
end Go.Proofs.YtbehakabglegjaaGreatDoor
