/- Layer 16: a field that is a text, a field that is an integer, in the program and in the reference. -/
import Derived.Test.YtpmdpfgaafaceaaAuthA
namespace Go.Proofs.Ytpmdpfgaafaceaa
open Go.RowKit
set_option linter.unusedVariables false

mutual
theorem IsJV.below {w w' : World} (hb : Below w.heap.size w w') : ∀ {j : JV}, IsJV w j → IsJV w' j
  | .mk v l ns vs, h => by
    unfold IsJV at h ⊢
    exact ⟨⟨h.1.1, h.1.2.1, h.1.2.2.1, h.1.2.2.2.1, h.1.2.2.2.2.1, h.1.2.2.2.2.2.1, h.1.2.2.2.2.2.2.1, h.1.2.2.2.2.2.2.2.1, h.1.2.2.2.2.2.2.2.2.below hb⟩, h.2.1.below hb, h.2.2.below hb⟩
theorem IsRow.below {w w' : World} (hb : Below w.heap.size w w') {A : Option Addr} {step shift : Nat} : ∀ {l : List JV} {k : Nat}, IsRow w A step shift k l → IsRow w' A step shift k l
  | [], _, h => by unfold IsRow; exact True.intro
  | x :: r, k, h => by
    unfold IsRow at h ⊢
    obtain ⟨⟨b, off, e, hr⟩, h2, h3⟩ := h
    exact ⟨⟨b, off, e, range_below hb hr⟩, h2.below hb, h3.below hb⟩
end

def wordP (j : JV) (name : ByteArray) : Bool := (fieldS j name).isSome && ((fieldD j name).v.kind == 3)
def wordT (j : JV) (name : ByteArray) : ByteArray := if wordP j name = true then (fieldD j name).v.t else ⟨#[]⟩
def numP (j : JV) (name : ByteArray) : Bool := (fieldS j name).isSome && ((fieldD j name).v.kind == 2)
def numT (j : JV) (name : ByteArray) : Int := if numP j name = true then (fieldD j name).v.i else 0

theorem aword_any (j : JV) (name : ByteArray) (w : World) (hj : IsJV w j) :
    Calls Try.prog 33 #[.agg j.cells, .string name] w fun e w' => e = .returned (.tuple #[.string (wordT j name), .bool (wordP j name)]) ∧ Below w.heap.size w w' := by
  have hc := afield_any j name (w.alloc (.cells j.cells 30)) (hj.below ((Below.refl _ _).alloc (Nat.le_refl _) _))
  have hp : wordP j name = ((fieldS j name).isSome && ((fieldD j name).v.kind == 3)) := rfl
  have ht : wordT j name = if wordP j name = true then (fieldD j name).v.t else ⟨#[]⟩ := rfl
  generalize fieldD j name = x at hc hp ht
  generalize (fieldS j name).isSome = S at hc hp
  generalize wordP j name = PP at hp ht ⊢
  generalize wordT j name = TT at ht ⊢
  have HC := Lib.hid hc
  have HP := Lib.hid hp
  have HT := Lib.hid ht
  have hb0 := Below.refl w.heap.size w
  have HB0 := Lib.hid hb0
  obtain ⟨v, l, ns, vs⟩ := j
  obtain ⟨kind, b, i, t, LA, Ln, Lc, FA, Fn, Fc⟩ := v
  clear hc hp ht hj hb0
  show Calls Try.prog 33 #[.agg #[.int .i64 kind, .bool b, .int .i64 i, .string t, .slice LA Ln Lc, .slice FA Fn Fc], .string name] w _
  cases S <;> cases hk : (x.v.kind == 3)
  all_goals
    have hk2 : (x.v.kind != 3) = !(x.v.kind == 3) := rfl
    rw [hk] at hk2
    have HK := Lib.hid hk
    clear hk
    go_enter Try.func33, Try.ntmps33
    go_wp2_with (go_at_call 35; refine HC.out.mono ?_; rintro e w1 ⟨rfl, hb1⟩; have HB1 := Lib.hid (((Below.refl _ _).alloc (Nat.le_refl _) _).trans (hb1.mono (by simp))); clear hb1; simp only [JV.cells, VM.cells])
    go_ret2
    refine ⟨?_, by first | exact HB1.out.alloc HB1.out.size _ | exact HB1.out⟩
    have e1 := HP.out
    rw [HK.out] at e1
    have e2 := HT.out
    rw [e1] at e2
    rw [e1, e2]
    rfl

theorem anum_any (j : JV) (name : ByteArray) (w : World) (hj : IsJV w j) :
    Calls Try.prog 36 #[.agg j.cells, .string name] w fun e w' => e = .returned (.tuple #[.int .i64 (numT j name), .bool (numP j name)]) ∧ Below w.heap.size w w' := by
  have hc := afield_any j name (w.alloc (.cells j.cells 30)) (hj.below ((Below.refl _ _).alloc (Nat.le_refl _) _))
  have hp : numP j name = ((fieldS j name).isSome && ((fieldD j name).v.kind == 2)) := rfl
  have ht : numT j name = if numP j name = true then (fieldD j name).v.i else 0 := rfl
  generalize fieldD j name = x at hc hp ht
  generalize (fieldS j name).isSome = S at hc hp
  generalize numP j name = PP at hp ht ⊢
  generalize numT j name = TT at ht ⊢
  have HC := Lib.hid hc
  have HP := Lib.hid hp
  have HT := Lib.hid ht
  have hb0 := Below.refl w.heap.size w
  have HB0 := Lib.hid hb0
  obtain ⟨v, l, ns, vs⟩ := j
  obtain ⟨kind, b, i, t, LA, Ln, Lc, FA, Fn, Fc⟩ := v
  clear hc hp ht hj hb0
  show Calls Try.prog 36 #[.agg #[.int .i64 kind, .bool b, .int .i64 i, .string t, .slice LA Ln Lc, .slice FA Fn Fc], .string name] w _
  cases S <;> cases hk : (x.v.kind == 2)
  all_goals
    have hk2 : (x.v.kind != 2) = !(x.v.kind == 2) := rfl
    rw [hk] at hk2
    have HK := Lib.hid hk
    clear hk
    go_enter Try.func36, Try.ntmps36
    go_wp2_with (go_at_call 35; refine HC.out.mono ?_; rintro e w1 ⟨rfl, hb1⟩; have HB1 := Lib.hid (((Below.refl _ _).alloc (Nat.le_refl _) _).trans (hb1.mono (by simp))); clear hb1; simp only [JV.cells, VM.cells])
    go_ret2
    refine ⟨?_, by first | exact HB1.out.alloc HB1.out.size _ | exact HB1.out⟩
    have e1 := HP.out
    rw [HK.out] at e1
    have e2 := HT.out
    rw [e1] at e2
    rw [e1, e2]
    rfl

theorem rword_any (j : JV) (name : ByteArray) (w : World) (hj : IsJV w j) :
    Calls Try.prog 12 #[.agg j.cells, .string name] w fun e w' => e = .returned (.tuple #[.string (wordT j name), .bool (wordP j name)]) ∧ Below w.heap.size w w' := by
  have hc := rfield_any j name (w.alloc (.cells j.cells 30)) (hj.below ((Below.refl _ _).alloc (Nat.le_refl _) _))
  have hp : wordP j name = ((fieldS j name).isSome && ((fieldD j name).v.kind == 3)) := rfl
  have ht : wordT j name = if wordP j name = true then (fieldD j name).v.t else ⟨#[]⟩ := rfl
  generalize fieldD j name = x at hc hp ht
  generalize (fieldS j name).isSome = S at hc hp
  generalize wordP j name = PP at hp ht ⊢
  generalize wordT j name = TT at ht ⊢
  have HC := Lib.hid hc
  have HP := Lib.hid hp
  have HT := Lib.hid ht
  have hb0 := Below.refl w.heap.size w
  have HB0 := Lib.hid hb0
  obtain ⟨v, l, ns, vs⟩ := j
  obtain ⟨kind, b, i, t, LA, Ln, Lc, FA, Fn, Fc⟩ := v
  clear hc hp ht hj hb0
  show Calls Try.prog 12 #[.agg #[.int .i64 kind, .bool b, .int .i64 i, .string t, .slice LA Ln Lc, .slice FA Fn Fc], .string name] w _
  cases S <;> cases hk : (x.v.kind == 3)
  all_goals
    have hk2 : (x.v.kind != 3) = !(x.v.kind == 3) := rfl
    rw [hk] at hk2
    have HK := Lib.hid hk
    clear hk
    go_enter Try.func12, Try.ntmps12
    go_wp2_with (go_at_call 18; refine HC.out.mono ?_; rintro e w1 ⟨rfl, hb1⟩; have HB1 := Lib.hid (((Below.refl _ _).alloc (Nat.le_refl _) _).trans (hb1.mono (by simp))); clear hb1; simp only [JV.cells, VM.cells])
    go_ret2
    refine ⟨?_, by first | exact HB1.out.alloc HB1.out.size _ | exact HB1.out⟩
    have e1 := HP.out
    rw [HK.out] at e1
    have e2 := HT.out
    rw [e1] at e2
    rw [e1, e2]
    rfl

theorem rnum_any (j : JV) (name : ByteArray) (w : World) (hj : IsJV w j) :
    Calls Try.prog 19 #[.agg j.cells, .string name] w fun e w' => e = .returned (.tuple #[.int .i64 (numT j name), .bool (numP j name)]) ∧ Below w.heap.size w w' := by
  have hc := rfield_any j name (w.alloc (.cells j.cells 30)) (hj.below ((Below.refl _ _).alloc (Nat.le_refl _) _))
  have hp : numP j name = ((fieldS j name).isSome && ((fieldD j name).v.kind == 2)) := rfl
  have ht : numT j name = if numP j name = true then (fieldD j name).v.i else 0 := rfl
  generalize fieldD j name = x at hc hp ht
  generalize (fieldS j name).isSome = S at hc hp
  generalize numP j name = PP at hp ht ⊢
  generalize numT j name = TT at ht ⊢
  have HC := Lib.hid hc
  have HP := Lib.hid hp
  have HT := Lib.hid ht
  have hb0 := Below.refl w.heap.size w
  have HB0 := Lib.hid hb0
  obtain ⟨v, l, ns, vs⟩ := j
  obtain ⟨kind, b, i, t, LA, Ln, Lc, FA, Fn, Fc⟩ := v
  clear hc hp ht hj hb0
  show Calls Try.prog 19 #[.agg #[.int .i64 kind, .bool b, .int .i64 i, .string t, .slice LA Ln Lc, .slice FA Fn Fc], .string name] w _
  cases S <;> cases hk : (x.v.kind == 2)
  all_goals
    have hk2 : (x.v.kind != 2) = !(x.v.kind == 2) := rfl
    rw [hk] at hk2
    have HK := Lib.hid hk
    clear hk
    go_enter Try.func19, Try.ntmps19
    go_wp2_with (go_at_call 18; refine HC.out.mono ?_; rintro e w1 ⟨rfl, hb1⟩; have HB1 := Lib.hid (((Below.refl _ _).alloc (Nat.le_refl _) _).trans (hb1.mono (by simp))); clear hb1; simp only [JV.cells, VM.cells])
    go_ret2
    refine ⟨?_, by first | exact HB1.out.alloc HB1.out.size _ | exact HB1.out⟩
    have e1 := HP.out
    rw [HK.out] at e1
    have e2 := HT.out
    rw [e1] at e2
    rw [e1, e2]
    rfl
end Go.Proofs.Ytpmdpfgaafaceaa
