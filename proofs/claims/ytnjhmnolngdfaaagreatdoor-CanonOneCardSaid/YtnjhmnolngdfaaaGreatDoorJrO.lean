/- Layer 2: what json.Parse defers. -/
import Derived.Test.YtnjhmnolngdfaaaGreatDoorJrN
import Derived.Defers
import Derived.Recover
namespace Go.Proofs.YtnjhmnolngdfaaaGreatDoor
open Go.RowKit Go.PlainAid
set_option linter.unusedVariables false
set_option linter.unusedSimpArgs false

theorem value_all (d : Nat) : d ≤ 32 → ValOK d := by
  induction d with
  | zero => exact fun h => value_any h (fun e he => by cases he)
  | succ d ih =>
    intro h
    have hd : ValOK d := ih (by omega)
    have hin : ∀ e, d + 1 = e + 1 → ValOK e := fun e he => by
      have e2 : d = e := by omega
      subst e2
      exact @hd
    have hv : ValOK (d + 1) := value_any h hin
    exact @hv

theorem catch_idle (gv ge : Nat) (w : World) :
    CallsD Tryz.prog 36 #[At gv, At ge] .returning w fun e u' w' => e = .returned (.tuple #[]) ∧ u' = .returning ∧ w' = w := by
  refine callsD_of_wpS Tryz.func36 rfl fun c₀ cs hu => ?_
  apply wpS_seq
  apply wpS_region
  simp [wpOpsS, go_sem, recoverD, hu, Tryz.ntmps36, Exit.thenS]
  apply wpS_seq
  apply wpS_seq
  apply wpS_region
  simp [wpOpsS, go_sem, Exit.thenS]
  refine wpS_cond (t := true) (by simp [Act.eval, Array.replicate]) ?_
  simp only [if_true]
  refine wpS_of_wp (wp_ret ?_)
  cases c₀
  simp_all [bodyPostS, results, Tryz.results36, Exit.thenS]

set_option maxRecDepth 10000 in
set_option maxHeartbeats 4000000 in
theorem catch_fault (gv ge g : Nat) (older : List PanicEntry) {w : World} {t1 t2 : TypeId} {arr : Array Value} {v0 : Value} (hgv : IBox w gv t1 arr) (h6 : arr.size = 6) (hge : IBox w ge t2 #[v0]) (hne : gv ≠ ge) :
    CallsD Tryz.prog 36 #[At gv, At ge] (.panicking ({ v := .iface 66 (At g), recovered := false } :: older)) w fun e u' w' =>
      e = .returned (.tuple #[]) ∧ u' = .panicking ({ v := .iface 66 (At g), recovered := true } :: older) ∧ IBox w' gv t1 JV.zero.cells ∧ IBox w' ge t2 #[.iface 66 (At g)] ∧ Bes (fun k => k = gv ∨ k = ge) w w' := by
  refine callsD_of_wpS Tryz.func36 rfl fun c₀ cs hu => ?_
  have hta : ∀ (w : World), (Instr.typeAssert (.iface 66 (At g)) 20 66 true).run Tryz.prog w = .ok (.tuple #[At g, .bool true]) w := fun _ => by kernel_rfl
  have hnot : ∀ (x : Bool) (w : World), (Op.unary .not (.bool x)).run Tryz.prog w = .ok (.bool (!x)) w := fun _ _ => rfl
  apply wpS_seq
  apply wpS_region
  simp [wpOpsS, go_sem, recoverD, hu, Tryz.ntmps36, Exit.thenS, Array.replicate, List.replicate]
  refine wpS_of_wp ?_
  go_wp2_with (first
    | ((with_reducible refine is_store ?_); refine wpl_store_at rfl 25 (.tmp 0) (.tmp 16) rfl gv JV.zero.cells rfl rfl _ _ hgv info_value h6 (jv_one _) ?_; intro w5 hw; have hb1 := Bes.row (X := fun q => q = gv ∨ q = ge) hw (.inl rfl); replace hge := hid_row_other hw (fun e => hne e.symm) hge; replace hgv := hid_row hw hgv; clear hw)
    | ((with_reducible refine is_store ?_); refine wpl_store_cell rfl 28 (.tmp 1) (.tmp 18) rfl ge 0 rfl _ rfl _ _ hge (by simp) rfl rfl ?_; intro w6 hw; have hb2 := Bes.row (X := fun q => q = gv ∨ q = ge) hw (.inr rfl); replace hgv := hid_row_other hw hne hgv; replace hge := hid_row hw hge; clear hw))
  refine ⟨rfl, _, rfl, _, results_none rfl _ _ _, rfl, rfl, hgv, hge, Bes.trans hb1 hb2 (fun _ e => e) (fun _ _ e => e)⟩
end Go.Proofs.YtnjhmnolngdfaaaGreatDoor
