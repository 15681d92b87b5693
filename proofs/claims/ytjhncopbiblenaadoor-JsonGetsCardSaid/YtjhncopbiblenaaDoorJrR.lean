/- Layer 2: errors.Is of a Fault and a Code (after the given example SentryIs), and what the statements ask of a fault: coveylaw00.Is. -/
import Derived.Test.YtjhncopbiblenaaDoorJrQ
namespace Go.Proofs.YtjhncopbiblenaaDoor
open Go.RowKit Go.PlainAid Go.Extern.Stop Go.Stop Go.Extern
set_option linter.unusedVariables false
set_option linter.unusedSimpArgs false

theorem Tryd.isTypeOf (v : Value) (w : World) : (Extern.ReflectliteType.typeOf #[.iface 46 v]).run Tryd.prog w = .ok (.iface 105 (.agg #[.pointer (some ⟨9, 46, none⟩)])) w := by kernel_rfl
theorem Tryd.callComparable (w : World) : (callFunc 113 #[.agg #[.pointer (some ⟨9, 46, none⟩)]]).run Tryd.prog w = .ok (Next.value (.bool true)) w := by kernel_rfl
theorem Tryd.isMethodComparable (v : Value) (w : World) : (Go.method 190 105 v "Comparable").run Tryd.prog w = .ok (113, v) w := by kernel_rfl
theorem Tryd.noIsF (v : Value) (xT : TypeId) (w : World) : (Instr.typeAssert (.iface 49 v) xT 117 true).run Tryd.prog w = .ok (.tuple #[.nilIface, .bool false]) w := run_typeAssert_lacksB Tryd.underlying117 (by kernel_rfl) (by kernel_rfl) v xT w
theorem Tryd.hasUnwrapF (v : Value) (xT : TypeId) (w : World) : (Instr.typeAssert (.iface 49 v) xT 112 true).run Tryd.prog w = .ok (.tuple #[.iface 49 v, .bool true]) w := run_typeAssert_hasB Tryd.underlying112 (by kernel_rfl) v xT w
theorem Tryd.methodUnwrapF (v : Value) (w : World) : (Go.method 190 49 v "Unwrap").run Tryd.prog w = .ok (106, v) w := by kernel_rfl
theorem Tryd.codeComp : (Tryd.prog.info? 46).map (·.comparable) = some true := by kernel_rfl
theorem Tryd.faultComp : (Tryd.prog.info? 49).map (·.comparable) = some true := by kernel_rfl
theorem Tryd.faultSize : (Tryd.prog.info? 64).map (·.size) = some 2 := by kernel_rfl
theorem run_neq_iface_ptr_same {P : Program} (w : World) {ti tp te : TypeId} {ms : Array (String × TypeId)} {i j : TypeInfo} (a : Addr)
    (hi : P.underlying ti = some (.interface ms)) (hp : P.underlying tp = some (.pointer te)) (hinfo : P.info? tp = some i) (hcomp : i.comparable = true) (hte : P.info? te = some j) :
    (binOp .neq ti (.iface tp (.pointer (some a))) (.iface tp (.pointer (some a)))).run P w = .ok (.bool false) w := by
  simp only [binOp]
  simp [Op.equal, Op.maxDepth, run_equalIn_iface_ptr_same w 9998 a hi hp hinfo hcomp hte]

/-- errors.Is(e, c), e a *api.Fault whose Err is the Code c. -/
theorem is_code (g : Nat) (c : Int) (w : World) (h1 : w.cell? ⟨g, 1, none⟩ = some (.iface 46 (.int .i64 c))) :
    Calls Tryd.prog 25 #[.iface 49 (At g), .iface 46 (.int .i64 c)] w fun e w' => e = .returned (.bool true) ∧ w' = w := by
  obtain ⟨i, hi, hcmp⟩ := Option.map_eq_some_iff.1 Tryd.codeComp
  have h8 := @run_callFunc_extern Tryd.prog 40 _ Extern.ReflectliteType.typeOf Tryd.func40 (by kernel_rfl) (by kernel_rfl) (by kernel_rfl) (by kernel_rfl)
  have h32 := Tryd.callComparable
  have tT := Tryd.isTypeOf
  have mR := Tryd.isMethodComparable
  have nW := Tryd.noIsF
  have uW := Tryd.hasUnwrapF
  have mU := Tryd.methodUnwrapF
  have heq := fun w => Lib.run_eql_iface_int (P := Tryd.prog) w (k := .i64) c c Tryd.underlying32 Tryd.codeComp Tryd.underlying46
  have hty := run_eql_iface_types (P := Tryd.prog) 49 46 (At g) (.int .i64 c) Tryd.underlying32 (by decide) w
  go_enter Tryd.func25, Tryd.ntmps25
  go_wp2
  refine wp_loop_rounds 2 ?_
  rw [rounds_succ]
  go_wp2
  rw [rounds_succ]
  go_wp2
  go_ret
  exact ⟨rfl, rfl⟩

/-- The type of error, as the library keeps it for errors.As. -/
abbrev ErrTy (w : World) : Prop := w.cell? ⟨0, 0, none⟩ = some (.iface 105 (.agg #[.pointer (some ⟨9, 32, none⟩)]))
theorem ErrTy.bes {X : Nat → Prop} {w w' : World} (h : Bes X w w') (hn : ¬ X 0) (he : ErrTy w) : ErrTy w' := cell_bes h hn he
theorem as_hit2 {w : World} {g gf : Nat} (hT : ErrTy w) (hI : IBox w gf 49 #[.pointer none]) :
    Calls Tryd.prog 24 #[.iface 49 (At g), .iface 61 (At gf)] w fun e w' => e = .returned (.bool true) ∧ IBox w' gf 49 #[At g] ∧ Bes (fun k => k = gf) w w' := by
  refine (as_hit ⟨g, 0, none⟩ ⟨gf, 0, none⟩ (.pointer none) w hT (hI.cell 0) (hI.frozen 0)).mono ?_
  rintro e w' ⟨rfl, rfl⟩
  have hb : Below w.heap.size w ((((w.alloc (.cells #[At gf] 61)).alloc (.cells #[.pointer (some ⟨9, 61, none⟩), .pointer (some ⟨w.heap.size, 0, none⟩), .int .u64 150] 81)).alloc (.cells #[.pointer (some ⟨9, 61, none⟩), .pointer (some ⟨w.heap.size, 0, none⟩), .int .u64 150] 81)).alloc (.cells #[At g] 49)) :=
    ((((Below.refl _ _).alloc (Nat.le_refl _) _).alloc (by simp) _).alloc (by simp; omega) _).alloc (by simp; omega) _
  have hI2 := IBox.below hI hb hI.lt
  rw [setCell_eq_setRow _ gf 0 #[.pointer none] 49 (0, 0) (At g) hI2]
  exact ⟨rfl, hI2.row _, Bes.trans (Bes.of_below hb) (Bes.row (X := fun k => k = gf) (Lib.hid rfl) rfl) (fun _ e => e) (fun _ _ e => e)⟩

set_option maxRecDepth 10000 in
set_option maxHeartbeats 4000000 in
/-- A fault with this place and this Code is one. -/
theorem fault_is {w : World} {g : Nat} {p c : Int} (hT : ErrTy w) (hT0 : 0 < w.heap.size) (hg : IBox w g 64 #[.int .i64 p, .iface 46 (.int .i64 c)]) :
    Calls Tryd.prog 15 #[.iface 49 (At g), .int .i64 p, .int .i64 c] w fun e w' => e = .returned (.bool true) ∧ Below w.heap.size w w' := by
  obtain ⟨i, hi, hcmp⟩ := Option.map_eq_some_iff.1 Tryd.faultComp
  obtain ⟨j, hj, hjs⟩ := Option.map_eq_some_iff.1 Tryd.faultSize
  have hnq := fun w => run_neq_iface_ptr_same (P := Tryd.prog) w (⟨g, 0, none⟩ : Addr) Tryd.underlying32 Tryd.underlying49 hi hcmp hj
  have heq := fun w => Lib.run_eql_iface_int (P := Tryd.prog) w (k := .i64) c c Tryd.underlying32 Tryd.codeComp Tryd.underlying46
  clear hcmp hj hjs hi
  have HB := Below.refl w.heap.size w
  go_enter Tryd.func15, Tryd.ntmps15
  go_wp2_with (first
    | ((with_reducible refine is_alloc ?_); refine wpl_alloc1 rfl 49 rfl (.pointer none) (fun _ => rfl) rfl ?_; intro wa hw; have hb := hid_grow hw; have BF := (hid_alloc hw).1; have hsa := Lib.hid (hid_alloc hw).2.1; clear hw; replace HB := HB.trans (hb.mono HB.size); replace hg := IBox.below hg hb (IBox.lt hg); have hT2 : ErrTy wa := hT.bes (Bes.of_below (X := fun _ => False) hb) (fun e => e); have hgn : g ≠ w.heap.size := IBox.ne hg BF (by simp); clear hb)
    | (go_at_call 24; (with_reducible refine (as_hit2 hT2 BF).mono ?_); rintro e w2 ⟨rfl, BF2, hbe⟩; replace hg := Bes.box hbe hg hgn; replace HB := Below.of_mv HB hbe (Nat.le_refl _) (Below.leB HB (Nat.le_refl _)); have cf := BF2.cell 0; have cg0 := hg.cell 0; have cg1 := hg.cell 1; clear hbe)
    | (go_at_call 25; (with_reducible refine (is_code g c _ cg1).mono ?_); rintro e w3 ⟨rfl, rfl⟩))
  go_ret
  exact ⟨rfl, HB⟩
end Go.Proofs.YtjhncopbiblenaaDoor
