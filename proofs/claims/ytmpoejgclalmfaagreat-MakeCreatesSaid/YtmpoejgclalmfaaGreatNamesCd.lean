/- An error's number. -/
import Derived.Test.YtmpoejgclalmfaaGreatBase
namespace Go.Proofs.YtmpoejgclalmfaaGreat
open Go.RowKit
set_option linter.unusedVariables false

theorem code_info : (Tryz.prog.info? 43).map (fun i => i.comparable) = some true := by kernel_rfl
theorem eql_code (a b : Int) (w : World) : (binOp .eql 28 (.iface 43 (.int .i64 a)) (.iface 43 (.int .i64 b))).run Tryz.prog w = .ok (.bool (a == b)) w := by
  obtain ⟨i, hi, hc⟩ := Option.map_eq_some_iff.1 code_info
  exact run_eql_iface_int w a b Tryz.underlying28 Tryz.underlying43 hi hc

theorem code_nil (w : World) : Calls Tryz.prog 8 #[.nilIface] w fun e w' => e = .returned (.int .i64 0) ∧ w = w' := by
  go_enter Tryz.func8, Tryz.ntmps8
  go_wp2
  go_ret
  exact ⟨rfl, rfl⟩
theorem code_3 (w : World) : Calls Tryz.prog 8 #[.iface 43 (.int .i64 3)] w fun e w' => e = .returned (.int .i64 3) ∧ w = w' := by
  have he := eql_code
  go_enter Tryz.func8, Tryz.ntmps8
  go_wp2
  go_ret
  exact ⟨rfl, rfl⟩

end Go.Proofs.YtmpoejgclalmfaaGreat
