/- Layer 16: a pair of a type and a key as a map's key; the lists of events that no rule of 10 to 13 refuses. -/
import Derived.Test.YtpmdpfgaafaceaaAuthM
import Derived.Test.YtpmdpfgaafaceaaAuthE
import Derived.DeepKeys4
namespace Go.Proofs.Ytpmdpfgaafaceaa
open Go.RowKit
open Go.Maps (Keyed)
set_option linter.unusedVariables false
set_option linter.unusedSimpArgs false

theorem laidP : laidOutB Try.prog = true := by kernel_rfl
theorem pairRow : (69 : TypeId) < Try.prog.types.size := of_decide_eq_true (by kernel_rfl)
theorem pairWide : (match Try.prog.underlying 69 with | some (.array _ _) | some (.struct _) => true | _ => false) = true := by kernel_rfl
theorem pairLaw : WideMaps.KeyLaw Try.prog 69 := deep_law_laid laidP (m := 3) (by omega) pairRow (by kernel_rfl) pairWide
theorem pairKeyed : Keyed Try.prog 69 := Keyed.of_law pairLaw
def pairV (x : Ev) : Value := .agg #[.string x.ty, .string x.key]
def pairL (x : Ev) : Lit := .string (keyBytes [.string x.ty.data.toList, .string x.key.data.toList])
theorem pairType : Try.prog.keyType 69 = true := by kernel_rfl
theorem sizeT : ∃ m, Try.prog.types.size + 1 = m + 2 := by
  have h : Try.prog.types.size ≠ 0 := fun h0 => by have := pairRow; rw [h0] at this; exact absurd this (Nat.not_lt_zero _)
  obtain ⟨m, hm⟩ := Nat.exists_eq_succ_of_ne_zero h
  exact ⟨m, by rw [hm]⟩
theorem cells_pair : Try.prog.cellsOf 69 = 2 := by kernel_rfl
theorem cells_str : Try.prog.cellsOf 9 = 1 := by kernel_rfl
theorem key_pair {x : Ev} (h1 : x.ty.size ≤ reach) (h2 : x.key.size ≤ reach) : keyOf Try.prog 69 (pairV x) = some (pairL x) := by
  have m1 : x.ty.size ≤ maxLen := by unfold reach at h1; unfold maxLen; omega
  have m2 : x.key.size ≤ maxLen := by unfold reach at h2; unfold maxLen; omega
  have hf : (pairV x).formed Try.prog 69 = true := by
    simp [pairV, Value.formed, Try.underlying69, cells_pair]
  obtain ⟨m, hm⟩ := sizeT
  unfold keyOf
  rw [Try.underlying69]
  simp only [pairType, hf, Bool.and_self, if_true, hm]
  unfold Program.keyLits
  rw [Try.underlying69]
  unfold Program.keyLits
  simp [pairV, Value.cells, cells_pair, cells_str, Try.underlying9, m1, m2, pairL]
theorem pair_inj {w : World} {x y : Ev} (hx : IsEv w x) (hy : IsEv w y) (h : pairL x = pairL y) : x.ty = y.ty ∧ x.key = y.key := by
  have e1 := key_pair hx.ty hx.key
  have e2 := key_pair hy.ty hy.key
  rw [← h] at e2
  have := pairLaw.inj e1 e2
  unfold pairV at this
  injection this with this
  simp at this
  exact this
end Go.Proofs.Ytpmdpfgaafaceaa
