/- Layer 9: a target is cut: a part of it. -/
import Derived.Test.YtbehakabglegjaaGreatDoorQ10
import Derived.Test.YtbehakabglegjaaGreatDoorQ15
import Derived.Test.YtbehakabglegjaaGreatDoorQ20
namespace Go.Proofs.YtbehakabglegjaaGreatDoor
open Go.RowKit Go.PlainAid
set_option linter.unusedVariables false
set_option linter.unusedSimpArgs false
theorem Bes.low {X : Nat → Prop} {w a b : World} {n : Nat} (h : Bes X w a) (k : Below n a b) (hn : w.heap.size ≤ n) : Bes X w b :=
  ⟨k.os.trans h.os, k.tape.trans h.tape, k.output.trans h.output, Nat.le_trans h.size k.size, fun q hq hx => (k.block q (Nat.lt_of_lt_of_le hq hn)).trans (h.block q hq hx)⟩
theorem isB_heap {B b : Nat} {bs : List Value} {w w' : World} (e : w'.heap = w.heap) (h : IsB B b bs w) : IsB B b bs w' := by
  unfold IsB Lib.IsBuilderF Lib.BuilderAtF World.ownsRowF at *
  rw [e]
  exact h
theorem ownF_lo' {w : World} {B : Nat} {e : TypeId} {size : Nat} {v : Value} {n : Nat} {xs : List Value} (h : w.ownsRowF B e size v n xs) {k : Nat} (hk : v.ownBlock = some k) : B ≤ k := by
  rcases h.2 with ⟨hv, _⟩ | ⟨g, cap, cur, fz, hv, hb, _⟩
  · subst hv; cases hk
  · subst hv
    have : g = k := Option.some.inj hk
    omega
theorem bAt_bes {B b g : Nat} {p : Value} {bs : List Value} {w w' : World} (h : Lib.BuilderAtF 96 5 B b p bs w) (hb : Bes (· = g) w w') (hg : g < B) : Lib.BuilderAtF 96 5 B b p bs w' := by
  have hlt := h.lt
  obtain ⟨hB, v, hbk, hown, hne⟩ := h
  refine ⟨hB, v, (hb.block b hlt (by omega)).trans hbk, ?_, hne⟩
  refine hown.kept (row := some g) ⟨hb.os, hb.tape, hb.output, hb.size, fun k hk hn => hb.block k hk (fun e => hn (by rw [e]))⟩ (Or.inr fun e => ?_)
  have := ownF_lo' hown e
  omega
theorem isB_row {B b g : Nat} {bs : List Value} {w w' : World} {arr : Array Value} (h : IsB B b bs w) (hw : Hid (w' = w.setRow g arr)) (hg : g < B) : IsB B b bs w' :=
  h.elim (fun x => .inl (bAt_bes x (Bes.row (X := fun q => q = g) hw rfl) hg)) (fun x => .inr (bAt_bes x (Bes.row (X := fun q => q = g) hw rfl) hg))
/-- What piece gives. -/
def PcV (g : Nat) (s : ByteArray) (r : (Int × Nat) ⊕ (ByteArray × Nat)) (e : Ending) (w' : World) : Prop := match r with
  | .inr (p, k) => e = .returned (.tuple #[.string p, .nilIface]) ∧ CtM w' g s k ∧ k ≤ s.size
  | .inl (c, p) => ∃ v, e = .returned (.tuple #[.string ⟨#[]⟩, v]) ∧ IsFault w' v c p
/-- A part's bytes, whatever the fuel. -/
def PL (en s : ByteArray) (k : Nat) (acc : List UInt8) (r : (Int × Nat) ⊕ (List UInt8 × Nat)) : Prop := ∀ n, s.size - k < n → partL (bl en) n ((bl s).drop k) k acc = r
theorem drop_at {l : List UInt8} {k : Nat} {c : UInt8} (h : l[k]? = some c) : l.drop k = c :: l.drop (k + 1) := by
  obtain ⟨h1, h2⟩ := List.getElem?_eq_some_iff.1 h
  rw [List.drop_eq_getElem_cons h1, h2]
theorem lt_at {s : ByteArray} {k : Nat} {c : UInt8} (h : (bl s)[k]? = some c) : k < s.size := (List.getElem?_eq_some_iff.1 h).1
theorem partL_fuel (en : List UInt8) : ∀ (n m : Nat) (l : List UInt8) (k : Nat) (acc : List UInt8), l.length < n → l.length < m → partL en n l k acc = partL en m l k acc
  | 0, _, l, _, _, h, _ => by cases h
  | _ + 1, 0, l, _, _, _, h => by cases h
  | n + 1, m + 1, [], k, acc, _, _ => rfl
  | n + 1, m + 1, c :: l, k, acc, h, h' => by
    have hl : l.length < n := by simpa using h
    have hl' : l.length < m := by simpa using h'
    unfold partL
    split
    · rfl
    · split
      · rfl
      · split
        · match l, hl, hl' with
          | [], _, _ => rfl
          | [_], _, _ => rfl
          | a :: b :: l2, hl, hl' =>
            simp only
            split
            · rfl
            · exact partL_fuel en n m l2 (k + 3) _ (by simp at hl; omega) (by simp at hl'; omega)
        · exact partL_fuel en n m l (k + 1) _ hl hl'
theorem PL.fin {en s : ByteArray} {k : Nat} {acc : List UInt8} {r} (h : PL en s k acc r) (hk : ¬ k < s.size) : r = .inr (acc, k) := by
  have e := h (s.size - k + 1) (by omega)
  rw [List.drop_eq_nil_iff.2 (show (bl s).length ≤ k from by show s.size ≤ k; omega)] at e
  exact e.symm
theorem PL.stop {en s : ByteArray} {k : Nat} {acc : List UInt8} {r} {c : UInt8} (h : PL en s k acc r) (hc : (bl s)[k]? = some c) (he : (bl en).contains c = true) : r = .inr (acc, k) := by
  have e := h (s.size - k + 1) (by omega)
  rw [drop_at hc] at e
  unfold partL at e
  rw [if_pos he] at e
  exact e.symm
theorem PL.bad {en s : ByteArray} {k : Nat} {acc : List UInt8} {r} {c : UInt8} (h : PL en s k acc r) (hc : (bl s)[k]? = some c) (he : (bl en).contains c = false) (hb : (c.toNat < 33 ∨ 126 < c.toNat) ∨ c.toNat = 35) : r = .inl (3, k) := by
  have e := h (s.size - k + 1) (by omega)
  rw [drop_at hc] at e
  unfold partL at e
  rw [if_neg (by rw [he]; decide), if_pos hb] at e
  exact e.symm
theorem PL.near {en s : ByteArray} {k : Nat} {acc : List UInt8} {r} {c : UInt8} (h : PL en s k acc r) (hc : (bl s)[k]? = some c) (he : (bl en).contains c = false) (hb : c.toNat = 37) (hk : s.size ≤ k + 2) : r = .inl (3, k) := by
  have e := h (s.size - k + 1) (by omega)
  rw [drop_at hc] at e
  have hl : ((bl s).drop (k + 1)).length ≤ 1 := by rw [List.length_drop]; show s.size - (k + 1) ≤ 1; omega
  unfold partL at e
  rw [if_neg (by rw [he]; decide), if_neg (by omega), if_pos hb] at e
  generalize (bl s).drop (k + 1) = l at e hl
  match l, hl with
  | [], _ => exact e.symm
  | [_], _ => exact e.symm
theorem PL.pct {en s : ByteArray} {k : Nat} {acc : List UInt8} {r} {c d1 d2 : UInt8} (h : PL en s k acc r) (hc : (bl s)[k]? = some c) (he : (bl en).contains c = false) (hb : c.toNat = 37) (h1 : (bl s)[k + 1]? = some d1) (h2 : (bl s)[k + 2]? = some d2) :
    (hexB d1 < 0 ∨ hexB d2 < 0 → r = .inl (3, k)) ∧ (¬ hexB d1 < 0 → ¬ hexB d2 < 0 → PL en s (k + 3) (acc ++ [UInt8.ofNat (hexB d1 * 16 + hexB d2).toNat]) r) := by
  have e1 : ∀ n, partL (bl en) (n + 1) ((bl s).drop k) k acc = if hexB d1 < 0 ∨ hexB d2 < 0 then .inl (3, k) else partL (bl en) n ((bl s).drop (k + 3)) (k + 3) (acc ++ [UInt8.ofNat (hexB d1 * 16 + hexB d2).toNat]) := fun n => by
    rw [drop_at hc, drop_at h1, drop_at h2]
    conv => lhs; unfold partL
    rw [if_neg (by rw [he]; decide), if_neg (by omega), if_pos hb]
  refine ⟨fun hx => ?_, fun n1 n2 n hn => ?_⟩
  · have e := h (s.size - k + 1) (by omega)
    rw [e1, if_pos hx] at e
    exact e.symm
  · have hl := lt_at h2
    have hz : (bl s).length = s.size := rfl
    have e := h (s.size - k + 1) (by omega)
    rw [e1, if_neg (by omega)] at e
    rw [← e]
    exact partL_fuel _ _ _ _ _ _ (by rw [List.length_drop]; omega) (by rw [List.length_drop]; omega)
theorem PL.plain {en s : ByteArray} {k : Nat} {acc : List UInt8} {r} {c : UInt8} (h : PL en s k acc r) (hc : (bl s)[k]? = some c) (he : (bl en).contains c = false) (hb : ¬ ((c.toNat < 33 ∨ 126 < c.toNat) ∨ c.toNat = 35)) (hp : ¬ c.toNat = 37) : PL en s (k + 1) (acc ++ [c]) r := by
  intro n hn
  have e := h (n + 1) (by have := lt_at hc; omega)
  rw [drop_at hc] at e
  conv at e => lhs; unfold partL
  rw [if_neg (by rw [he]; decide), if_neg hb, if_neg hp] at e
  exact e
theorem PL.start (en s : ByteArray) (k : Nat) : PL en s k [] (partL (bl en) ((bl s).length + 1) ((bl s).drop k) k []) := fun n hn => by
  have hz : (bl s).length = s.size := rfl
  exact partL_fuel _ _ _ _ _ _ (by rw [List.length_drop]; omega) (by rw [List.length_drop]; omega)
theorem Wh.up {w : World} {r : Nat} (h : Wh w r) (hr : r ≤ w.heap.size) : Wh w w.heap.size := fun W hW => h W (hW.mono hr)
set_option maxRecDepth 100000 in
theorem hex_bits : ∀ n : Fin 256, (hexB (UInt8.ofNat n.val) < 0 ∨ (0 ≤ hexB (UInt8.ofNat n.val) ∧ hexB (UInt8.ofNat n.val) ≤ 15)) := by decide +kernel
theorem hex_in (c : UInt8) : hexB c < 0 ∨ (0 ≤ hexB c ∧ hexB c ≤ 15) := by
  have h := hex_bits ⟨c.toNat, c.toNat_lt⟩
  simp only [UInt8.ofNat_toNat] at h
  exact h
end Go.Proofs.YtbehakabglegjaaGreatDoor
