/- Bytes in memory: what the program says of their type. -/
import Derived.Test.YtnjhmnolngdfaaaGreatDoorMemS
namespace Go.Proofs.YtnjhmnolngdfaaaGreatDoor
open Go.RowKit
theorem info_u8 : (Tryz.prog.info? 5).map (fun i => (i.zero, i.size, i.bytes)) = some (some (.int .u8 0), 1, 1) := by kernel_rfl
theorem u8_info : ∃ ie, Tryz.prog.info? 5 = some ie ∧ ie.zero = some (.int .u8 0) ∧ ie.size = 1 ∧ ie.bytes = 1 := by
  have h := info_u8
  cases hq : Tryz.prog.info? 5 with
  | none => rw [hq] at h; cases h
  | some ie =>
    rw [hq] at h
    simp only [Option.map_some, Option.some.injEq, Prod.mk.injEq] at h
    exact ⟨ie, rfl, h.1, h.2.1, h.2.2⟩
end Go.Proofs.YtnjhmnolngdfaaaGreatDoor
