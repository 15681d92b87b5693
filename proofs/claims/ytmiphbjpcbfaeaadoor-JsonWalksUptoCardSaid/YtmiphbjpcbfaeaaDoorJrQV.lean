/- Layer 2: errors.As at a pointer to api's Fault: the given example ToyasAs, turned to this program. Layer 2: errors.Is of a Fault and a Code (after the given example SentryIs), and what the statements ask of a fault: coveylaw00.Is. Layer 2: the three texts of the examples, read by the plain words. Layer 2: the document's examples come out (coveylaw02.shown). -/
import Derived.Test.YtmiphbjpcbfaeaaDoorJrP
import Derived.LaidEql
import Derived.Stop.Asserts
import Derived.RowKitTokens
import Derived.Test.YtmiphbjpcbfaeaaDoorJsB
import Derived.KernelRfl
import Derived.Test.YtmiphbjpcbfaeaaDoorJrS
namespace Go.Proofs.YtmiphbjpcbfaeaaDoor
section
open Go.RowKit Go.Extern.Stop Go.Stop Go.Extern
set_option linter.unusedVariables false
set_option linter.unusedSimpArgs false

theorem Tryd.valueOf27 (t : Addr) (w : World) : (ReflectliteValue.unpack (.iface 57 (.pointer (some t)))).run Tryd.prog w
    = .ok (.agg #[.pointer (some ⟨9, 57, none⟩), .pointer (some ⟨w.heap.size, 0, none⟩), .int .u64 150]) (w.alloc (.cells #[.pointer (some t)] 57)) := by kernel_rfl
theorem Tryd.type27 (a : Addr) (w : World) : (ReflectliteValue.methodAny (ReflectliteValue.valueError "reflectlite.Value.Type" 0) (fun t _ _ _ => ReflectliteType.toType t) #[.agg #[.pointer (some ⟨9, 57, none⟩), .pointer (some a), .int .u64 150]]).run Tryd.prog w
    = .ok (.iface 96 (.agg #[.pointer (some ⟨9, 57, none⟩)])) w := by kernel_rfl
theorem Tryd.methodKind (h : Value) (w : World) : (Go.method 190 96 (.agg #[h]) "Kind").run Tryd.prog w = .ok (90, h) w := by kernel_rfl
theorem Tryd.kind27 (w : World) : ((ReflectliteType.abiMethod fun t => (fun a : Nat => Value.int IntKind.u8 (a : Int)) <$> Rtype.kind t) #[.pointer (some ⟨9, 57, none⟩)]).run Tryd.prog w = .ok (.int .u8 22) w := by kernel_rfl
theorem Tryd.kind25 (w : World) : ((ReflectliteType.abiMethod fun t => (fun a : Nat => Value.int IntKind.u8 (a : Int)) <$> Rtype.kind t) #[.pointer (some ⟨9, 49, none⟩)]).run Tryd.prog w = .ok (.int .u8 22) w := by kernel_rfl

/-! ### THE ENTRIES THAT READ OR WRITE MEMORY: laws with a premise on the cell (after Derived/Lib/ReflectliteSlice.lean's manner: each unfolding a lemma of its own, by rfl) -/
theorem rlm (z : Sem Value) (f : TypeId → Addr → Nat → Nat → Sem Value) (v : Value) :
    ReflectliteValue.method z f #[v] = (do match ← ReflectliteValue.parts v with | none => z | some (t, a, fl) => f t a fl (fl % 32)) := rfl
theorem Tryd.parts27 (a : Addr) (w : World) : (ReflectliteValue.parts (.agg #[.pointer (some ⟨9, 57, none⟩), .pointer (some a), .int .u64 150])).run Tryd.prog w = .ok (some (57, a, 150)) w := by kernel_rfl
/-- (Value).IsNil at the Value of a **p.E that is not nil. -/
theorem Tryd.isNil27 (a p : Addr) (W : World) (ha : W.cell? a = some (.pointer (some p))) :
    (ReflectliteValue.method (ReflectliteValue.valueError "reflectlite.Value.IsNil" 0) ReflectliteValue.isNil #[.agg #[.pointer (some ⟨9, 57, none⟩), .pointer (some a), .int .u64 150]]).run Tryd.prog W = .ok (.bool false) W := by
  rw [rlm]
  simp only [Sem.run_bind, Tryd.parts27, Result.andThen]
  simp [ReflectliteValue.isNil, loadVar, isAgg, underlying, Tryd.underlying57, ha, Result.andThen]

theorem Tryd.methodElem (h : Value) (w : World) : (Go.method 190 96 (.agg #[h]) "Elem").run Tryd.prog w = .ok (103, .agg #[h]) w := by kernel_rfl
theorem Tryd.methodImplements (h : Value) (w : World) : (Go.method 190 96 (.agg #[h]) "Implements").run Tryd.prog w = .ok (104, .agg #[h]) w := by kernel_rfl
theorem Tryd.methodAssignableTo (h : Value) (w : World) : (Go.method 190 96 (.agg #[h]) "AssignableTo").run Tryd.prog w = .ok (101, .agg #[h]) w := by kernel_rfl
theorem Tryd.elem27 (w : World) : (ReflectliteType.method ReflectliteType.elem #[.agg #[.pointer (some ⟨9, 57, none⟩)]]).run Tryd.prog w = .ok (.iface 96 (.agg #[.pointer (some ⟨9, 49, none⟩)])) w := by kernel_rfl
theorem Tryd.implements25 (w : World) : (ReflectliteType.relation "Implements" ReflectliteType.implements_ #[.agg #[.pointer (some ⟨9, 49, none⟩)], .iface 96 (.agg #[.pointer (some ⟨9, 37, none⟩)])]).run Tryd.prog w = .ok (.bool true) w := by kernel_rfl
theorem Tryd.typeOf25 (v : Value) (w : World) : (ReflectliteType.typeOf #[.iface 49 v]).run Tryd.prog w = .ok (.iface 96 (.agg #[.pointer (some ⟨9, 49, none⟩)])) w := by kernel_rfl
theorem Tryd.assignable25 (w : World) : (ReflectliteType.relation "AssignableTo" ReflectliteType.assignableTo #[.agg #[.pointer (some ⟨9, 49, none⟩)], .iface 96 (.agg #[.pointer (some ⟨9, 49, none⟩)])]).run Tryd.prog w = .ok (.bool true) w := by kernel_rfl
theorem Tryd.valueOf25 (e : Addr) (w : World) : (ReflectliteValue.unpack (.iface 49 (.pointer (some e)))).run Tryd.prog w
    = .ok (.agg #[.pointer (some ⟨9, 49, none⟩), .pointer (some ⟨w.heap.size, 0, none⟩), .int .u64 150]) (w.alloc (.cells #[.pointer (some e)] 49)) := by kernel_rfl

theorem Tryd.elemOf27 (w : World) : (Rtype.elem? 57).run Tryd.prog w = .ok (some 49) w := by kernel_rfl
theorem Tryd.mk25 (p : Addr) (w : World) : (ReflectliteValue.mk 49 p ReflectliteValue.flagAddr).run Tryd.prog w = .ok (.agg #[.pointer (some ⟨9, 49, none⟩), .pointer (some p), .int .u64 406]) w := by kernel_rfl
/-- (Value).Elem at the Value of a **p.E that is not nil: the Value of the *p.E variable that it points to, addressable. -/
theorem Tryd.elemV27 (a p : Addr) (W : World) (ha : W.cell? a = some (.pointer (some p))) :
    (ReflectliteValue.method (ReflectliteValue.valueError "reflectlite.Value.Elem" 0) ReflectliteValue.elem #[.agg #[.pointer (some ⟨9, 57, none⟩), .pointer (some a), .int .u64 150]]).run Tryd.prog W
      = .ok (.agg #[.pointer (some ⟨9, 49, none⟩), .pointer (some p), .int .u64 406]) W := by
  rw [rlm]
  simp only [Sem.run_bind, Tryd.parts27, Result.andThen]
  simp [ReflectliteValue.elem, loadVar, isAgg, underlying, Tryd.underlying57, ha, Result.andThen, Tryd.elemOf27, Tryd.mk25]
theorem rls (v x : Value) : ReflectliteValue.set #[v, x] = (do
    let (some (dst, a, fl), some (src, b, _)) := (← ReflectliteValue.parts v, ← ReflectliteValue.parts x)
      | unsupported (.noEntry "extern/(internal/reflectlite.Value).Set.zeroValue")
    if fl / ReflectliteValue.flagAddr % 2 == 0 then unsupported (.noEntry "extern/(internal/reflectlite.Value).Set.unaddressable")
    let val ← loadVar src b
    if ← Rtype.directlyAssignable dst src then storeVar dst a val
    else if ← Rtype.implements dst src then
      if (← Rtype.kind src) == 20 then
        match val with
        | .nilIface => unsupported (.noEntry "extern/reflectlite: a nil value of one interface type handed on as a value of another")
        | _ => storeVar dst a val
      else storeVar dst a (.iface src val)
    else panicString ("reflectlite.Set: value of type " ++ (← Rtype.spelt src) ++ " is not assignable to type " ++ (← Rtype.spelt dst))
    pure (.tuple #[])) := rfl
theorem Tryd.parts25a (a : Addr) (w : World) : (ReflectliteValue.parts (.agg #[.pointer (some ⟨9, 49, none⟩), .pointer (some a), .int .u64 406])).run Tryd.prog w = .ok (some (49, a, 406)) w := by kernel_rfl
theorem Tryd.parts25 (a : Addr) (w : World) : (ReflectliteValue.parts (.agg #[.pointer (some ⟨9, 49, none⟩), .pointer (some a), .int .u64 150])).run Tryd.prog w = .ok (some (49, a, 150)) w := by kernel_rfl
theorem Tryd.direct25 (w : World) : (Rtype.directlyAssignable 49 49).run Tryd.prog w = .ok true w := by kernel_rfl
theorem Tryd.size25 (w : World) : (sizeOf 49).run Tryd.prog w = .ok 1 w := by kernel_rfl
/-- (Value).Set: the *p.E variable at 'ta' gets what the Value's own variable 'b' holds. -/
theorem Tryd.set25 (ta b e : Addr) (old : Value) (W : World) (hb : W.cell? b = some (.pointer (some e))) (ht : W.cell? ta = some old) (hf : W.frozen? ta = false) :
    (ReflectliteValue.set #[.agg #[.pointer (some ⟨9, 49, none⟩), .pointer (some ta), .int .u64 406], .agg #[.pointer (some ⟨9, 49, none⟩), .pointer (some b), .int .u64 150]]).run Tryd.prog W
      = .ok (.tuple #[]) (W.setCell ta (.pointer (some e))) := by
  rw [rls]
  simp only [Sem.run_bind, Tryd.parts25a, Tryd.parts25, Result.andThen]
  simp [ReflectliteValue.flagAddr, loadVar, isAgg, underlying, Tryd.underlying49, hb, Result.andThen, Tryd.direct25, storeVar, Value.cells, storeCells, Addr.add]
  rw [run_store Tryd.prog W ta _ _ (by rfl)]
  simp [ht, hf]

set_option maxHeartbeats 4000000 in
theorem as_hit (e t : Addr) (old : Value) (w : World) (hg : w.cell? ⟨0, 0, none⟩ = some (.iface 96 (.agg #[.pointer (some ⟨9, 37, none⟩)]))) (ht0 : w.cell? t = some old) (hf0 : w.frozen? t = false) :
    Calls Tryd.prog 18 #[.iface 49 (.pointer (some e)), .iface 57 (.pointer (some t))] w fun ev w' => ev = .returned (.bool true) ∧ w' = ((((w.alloc (.cells #[.pointer (some t)] 57)).alloc (.cells #[.pointer (some ⟨9, 57, none⟩), .pointer (some ⟨w.heap.size, 0, none⟩), .int .u64 150] 74)).alloc (.cells #[.pointer (some ⟨9, 57, none⟩), .pointer (some ⟨w.heap.size, 0, none⟩), .int .u64 150] 74)).alloc (.cells #[.pointer (some e)] 49)).setCell t (.pointer (some e)) := by
  have h6 := @run_callFunc_extern Tryd.prog 29 _ (fun args => ReflectliteValue.unpack (args.getD 0 (.tuple #[]))) Tryd.func29 (by kernel_rfl) (by kernel_rfl) (by kernel_rfl) (by kernel_rfl)
  have h7 := @run_callFunc_extern Tryd.prog 30 _ (ReflectliteValue.methodAny (ReflectliteValue.valueError "reflectlite.Value.Type" 0) (fun t _ _ _ => ReflectliteType.toType t)) Tryd.func30 (by kernel_rfl) (by kernel_rfl) (by kernel_rfl) (by kernel_rfl)
  have h8 := @run_callFunc_extern Tryd.prog 31 _ (ReflectliteValue.method (ReflectliteValue.valueError "reflectlite.Value.IsNil" 0) ReflectliteValue.isNil) Tryd.func31 (by kernel_rfl) (by kernel_rfl) (by kernel_rfl) (by kernel_rfl)
  have h27 := @run_callFunc_extern Tryd.prog 90 _ (ReflectliteType.abiMethod fun t => do pure (.int .u8 (← Rtype.kind t))) Tryd.func90 (by kernel_rfl) (by kernel_rfl) (by kernel_rfl) (by kernel_rfl)
  have h37 := @run_callFunc_extern Tryd.prog 103 _ (ReflectliteType.method ReflectliteType.elem) Tryd.func103 (by kernel_rfl) (by kernel_rfl) (by kernel_rfl) (by kernel_rfl)
  have h38 := @run_callFunc_extern Tryd.prog 104 _ (ReflectliteType.relation "Implements" ReflectliteType.implements_) Tryd.func104 (by kernel_rfl) (by kernel_rfl) (by kernel_rfl) (by kernel_rfl)
  have h10 := @run_callFunc_extern Tryd.prog 33 _ ReflectliteType.typeOf Tryd.func33 (by kernel_rfl) (by kernel_rfl) (by kernel_rfl) (by kernel_rfl)
  have h35 := @run_callFunc_extern Tryd.prog 101 _ (ReflectliteType.relation "AssignableTo" ReflectliteType.assignableTo) Tryd.func101 (by kernel_rfl) (by kernel_rfl) (by kernel_rfl) (by kernel_rfl)
  have h11 := @run_callFunc_extern Tryd.prog 42 _ (ReflectliteValue.method (ReflectliteValue.valueError "reflectlite.Value.Elem" 0) ReflectliteValue.elem) Tryd.func42 (by kernel_rfl) (by kernel_rfl) (by kernel_rfl) (by kernel_rfl)
  have h12 := @run_callFunc_extern Tryd.prog 43 _ ReflectliteValue.set Tryd.func43 (by kernel_rfl) (by kernel_rfl) (by kernel_rfl) (by kernel_rfl)
  have tO := Tryd.typeOf25
  have mA := Tryd.methodAssignableTo
  have a25 := Tryd.assignable25
  have v25 := Tryd.valueOf25
  have f6 := Tryd.valueOf27
  have f7 := Tryd.type27
  have mK := Tryd.methodKind
  have mE := Tryd.methodElem
  have mI := Tryd.methodImplements
  have k27 := Tryd.kind27
  have k25 := Tryd.kind25
  have e27 := Tryd.elem27
  have i25 := Tryd.implements25
  have n8 := Tryd.isNil27 ⟨w.heap.size, 0, none⟩ t ((w.alloc (.cells #[.pointer (some t)] 57)).alloc (.cells #[.pointer (some ⟨9, 57, none⟩), .pointer (some ⟨w.heap.size, 0, none⟩), .int .u64 150] 74)) (by simp)
  have hlt : 0 < w.heap.size := by
    rcases Nat.eq_zero_or_pos w.heap.size with h0 | h
    · simp [World.cell?, h0] at hg
    · exact h
  have hg2 : ((w.alloc (.cells #[.pointer (some t)] 57)).alloc (.cells #[.pointer (some ⟨9, 57, none⟩), .pointer (some ⟨w.heap.size, 0, none⟩), .int .u64 150] 74)).cell? ⟨0, 0, none⟩ = some (.iface 96 (.agg #[.pointer (some ⟨9, 37, none⟩)])) := by
    rw [World.cell?_alloc_lt _ _ ⟨0, 0, none⟩ (by simp), World.cell?_alloc_lt _ _ ⟨0, 0, none⟩ hlt]; exact hg
  have htl : t.block < w.heap.size := by
    rcases Nat.lt_or_ge t.block w.heap.size with h | h
    · exact h
    · simp [World.cell?, Array.getElem?_eq_none h] at ht0
  have el := Tryd.elemV27 ⟨w.heap.size, 0, none⟩ t (((w.alloc (.cells #[.pointer (some t)] 57)).alloc (.cells #[.pointer (some ⟨9, 57, none⟩), .pointer (some ⟨w.heap.size, 0, none⟩), .int .u64 150] 74)).alloc (.cells #[.pointer (some ⟨9, 57, none⟩), .pointer (some ⟨w.heap.size, 0, none⟩), .int .u64 150] 74)) (by rw [World.cell?_alloc_lt _ _ ⟨w.heap.size, 0, none⟩ (by simp; omega)]; simp)
  have st := Tryd.set25 t ⟨w.heap.size + 1 + 1 + 1, 0, none⟩ e old ((((w.alloc (.cells #[.pointer (some t)] 57)).alloc (.cells #[.pointer (some ⟨9, 57, none⟩), .pointer (some ⟨w.heap.size, 0, none⟩), .int .u64 150] 74)).alloc (.cells #[.pointer (some ⟨9, 57, none⟩), .pointer (some ⟨w.heap.size, 0, none⟩), .int .u64 150] 74)).alloc (.cells #[.pointer (some e)] 49))
    (by rw [World.cell?_alloc_at _ _ _ _ (by simp)]; rfl)
    (by rw [World.cell?_alloc_lt _ _ t (by simp; omega), World.cell?_alloc_lt _ _ t (by simp; omega), World.cell?_alloc_lt _ _ t (by simp; omega), World.cell?_alloc_lt _ _ t htl]; exact ht0)
    (by rw [World.frozen?_alloc_old _ _ t (by simp; omega), World.frozen?_alloc_old _ _ t (by simp; omega), World.frozen?_alloc_old _ _ t (by simp; omega), World.frozen?_alloc_old _ _ t (Nat.ne_of_lt htl)]; exact hf0)
  go_enter Tryd.func18, Tryd.ntmps18
  go_wp2
  refine wp_loop_rounds 1 ?_
  rw [rounds_succ]
  go_wp2
  go_ret
  exact ⟨rfl, rfl⟩
end
end Go.Proofs.YtmiphbjpcbfaeaaDoor
namespace Go.Proofs.YtmiphbjpcbfaeaaDoor
section
open Go.RowKit Go.PlainAid Go.Extern.Stop Go.Stop Go.Extern
set_option linter.unusedVariables false
set_option linter.unusedSimpArgs false

theorem Tryd.isTypeOf (v : Value) (w : World) : (Extern.ReflectliteType.typeOf #[.iface 43 v]).run Tryd.prog w = .ok (.iface 96 (.agg #[.pointer (some ⟨9, 43, none⟩)])) w := by kernel_rfl
theorem Tryd.callComparable (w : World) : (callFunc 102 #[.agg #[.pointer (some ⟨9, 43, none⟩)]]).run Tryd.prog w = .ok (Next.value (.bool true)) w := by kernel_rfl
theorem Tryd.isMethodComparable (v : Value) (w : World) : (Go.method 190 96 v "Comparable").run Tryd.prog w = .ok (102, v) w := by kernel_rfl
theorem Tryd.noIsF (v : Value) (xT : TypeId) (w : World) : (Instr.typeAssert (.iface 49 v) xT 108 true).run Tryd.prog w = .ok (.tuple #[.nilIface, .bool false]) w := run_typeAssert_lacksB Tryd.underlying108 (by kernel_rfl) (by kernel_rfl) v xT w
theorem Tryd.hasUnwrapF (v : Value) (xT : TypeId) (w : World) : (Instr.typeAssert (.iface 49 v) xT 103 true).run Tryd.prog w = .ok (.tuple #[.iface 49 v, .bool true]) w := run_typeAssert_hasB Tryd.underlying103 (by kernel_rfl) v xT w
theorem Tryd.methodUnwrapF (v : Value) (w : World) : (Go.method 190 49 v "Unwrap").run Tryd.prog w = .ok (95, v) w := by kernel_rfl
theorem Tryd.codeComp : (Tryd.prog.info? 43).map (·.comparable) = some true := by kernel_rfl
theorem Tryd.faultComp : (Tryd.prog.info? 49).map (·.comparable) = some true := by kernel_rfl
theorem Tryd.faultSize : (Tryd.prog.info? 60).map (·.size) = some 2 := by kernel_rfl
theorem run_neq_iface_ptr_same {P : Program} (w : World) {ti tp te : TypeId} {ms : Array (String × TypeId)} {i j : TypeInfo} (a : Addr)
    (hi : P.underlying ti = some (.interface ms)) (hp : P.underlying tp = some (.pointer te)) (hinfo : P.info? tp = some i) (hcomp : i.comparable = true) (hte : P.info? te = some j) :
    (binOp .neq ti (.iface tp (.pointer (some a))) (.iface tp (.pointer (some a)))).run P w = .ok (.bool false) w := by
  simp only [binOp]
  simp [Op.equal, Op.maxDepth, run_equalIn_iface_ptr_same w 9998 a hi hp hinfo hcomp hte]

/-- errors.Is(e, c), e a *api.Fault whose Err is the Code c. -/
theorem is_code (g : Nat) (c : Int) (w : World) (h1 : w.cell? ⟨g, 1, none⟩ = some (.iface 43 (.int .i64 c))) :
    Calls Tryd.prog 19 #[.iface 49 (At g), .iface 43 (.int .i64 c)] w fun e w' => e = .returned (.bool true) ∧ w' = w := by
  obtain ⟨i, hi, hcmp⟩ := Option.map_eq_some_iff.1 Tryd.codeComp
  have h8 := @run_callFunc_extern Tryd.prog 33 _ Extern.ReflectliteType.typeOf Tryd.func33 (by kernel_rfl) (by kernel_rfl) (by kernel_rfl) (by kernel_rfl)
  have h32 := Tryd.callComparable
  have tT := Tryd.isTypeOf
  have mR := Tryd.isMethodComparable
  have nW := Tryd.noIsF
  have uW := Tryd.hasUnwrapF
  have mU := Tryd.methodUnwrapF
  have heq := fun w => Lib.run_eql_iface_int (P := Tryd.prog) w (k := .i64) c c Tryd.underlying37 Tryd.codeComp Tryd.underlying43
  have hty := run_eql_iface_types (P := Tryd.prog) 49 43 (At g) (.int .i64 c) Tryd.underlying37 (by decide) w
  go_enter Tryd.func19, Tryd.ntmps19
  go_wp2
  refine wp_loop_rounds 2 ?_
  rw [rounds_succ]
  go_wp2
  rw [rounds_succ]
  go_wp2
  go_ret
  exact ⟨rfl, rfl⟩

/-- The type of error, as the library keeps it for errors.As. -/
abbrev ErrTy (w : World) : Prop := w.cell? ⟨0, 0, none⟩ = some (.iface 96 (.agg #[.pointer (some ⟨9, 37, none⟩)]))
theorem ErrTy.bes {X : Nat → Prop} {w w' : World} (h : Bes X w w') (hn : ¬ X 0) (he : ErrTy w) : ErrTy w' := cell_bes h hn he
theorem as_hit2 {w : World} {g gf : Nat} (hT : ErrTy w) (hI : IBox w gf 49 #[.pointer none]) :
    Calls Tryd.prog 18 #[.iface 49 (At g), .iface 57 (At gf)] w fun e w' => e = .returned (.bool true) ∧ IBox w' gf 49 #[At g] ∧ Bes (fun k => k = gf) w w' := by
  refine (as_hit ⟨g, 0, none⟩ ⟨gf, 0, none⟩ (.pointer none) w hT (hI.cell 0) (hI.frozen 0)).mono ?_
  rintro e w' ⟨rfl, rfl⟩
  have hb : Below w.heap.size w ((((w.alloc (.cells #[At gf] 57)).alloc (.cells #[.pointer (some ⟨9, 57, none⟩), .pointer (some ⟨w.heap.size, 0, none⟩), .int .u64 150] 74)).alloc (.cells #[.pointer (some ⟨9, 57, none⟩), .pointer (some ⟨w.heap.size, 0, none⟩), .int .u64 150] 74)).alloc (.cells #[At g] 49)) :=
    ((((Below.refl _ _).alloc (Nat.le_refl _) _).alloc (by simp) _).alloc (by simp; omega) _).alloc (by simp; omega) _
  have hI2 := IBox.below hI hb hI.lt
  rw [setCell_eq_setRow _ gf 0 #[.pointer none] 49 (0, 0) (At g) hI2]
  exact ⟨rfl, hI2.row _, Bes.trans (Bes.of_below hb) (Bes.row (X := fun k => k = gf) (Lib.hid rfl) rfl) (fun _ e => e) (fun _ _ e => e)⟩

set_option maxRecDepth 10000 in
set_option maxHeartbeats 4000000 in
/-- A fault with this place and this Code is one. -/
theorem fault_is {w : World} {g : Nat} {p c : Int} (hT : ErrTy w) (hT0 : 0 < w.heap.size) (hg : IBox w g 60 #[.int .i64 p, .iface 43 (.int .i64 c)]) :
    Calls Tryd.prog 10 #[.iface 49 (At g), .int .i64 p, .int .i64 c] w fun e w' => e = .returned (.bool true) ∧ Below w.heap.size w w' := by
  obtain ⟨i, hi, hcmp⟩ := Option.map_eq_some_iff.1 Tryd.faultComp
  obtain ⟨j, hj, hjs⟩ := Option.map_eq_some_iff.1 Tryd.faultSize
  have hnq := fun w => run_neq_iface_ptr_same (P := Tryd.prog) w (⟨g, 0, none⟩ : Addr) Tryd.underlying37 Tryd.underlying49 hi hcmp hj
  have heq := fun w => Lib.run_eql_iface_int (P := Tryd.prog) w (k := .i64) c c Tryd.underlying37 Tryd.codeComp Tryd.underlying43
  clear hcmp hj hjs hi
  have HB := Below.refl w.heap.size w
  go_enter Tryd.func10, Tryd.ntmps10
  go_wp2_with (first
    | ((with_reducible refine is_alloc ?_); refine wpl_alloc1 rfl 49 rfl (.pointer none) (fun _ => rfl) rfl ?_; intro wa hw; have hb := hid_grow hw; have BF := (hid_alloc hw).1; have hsa := Lib.hid (hid_alloc hw).2.1; clear hw; replace HB := HB.trans (hb.mono HB.size); replace hg := IBox.below hg hb (IBox.lt hg); have hT2 : ErrTy wa := hT.bes (Bes.of_below (X := fun _ => False) hb) (fun e => e); have hgn : g ≠ w.heap.size := IBox.ne hg BF (by simp); clear hb)
    | (go_at_call 18; (with_reducible refine (as_hit2 hT2 BF).mono ?_); rintro e w2 ⟨rfl, BF2, hbe⟩; replace hg := Bes.box hbe hg hgn; replace HB := Below.of_mv HB hbe (Nat.le_refl _) (Below.leB HB (Nat.le_refl _)); have cf := BF2.cell 0; have cg0 := hg.cell 0; have cg1 := hg.cell 1; clear hbe)
    | (go_at_call 19; (with_reducible refine (is_code g c _ cg1).mono ?_); rintro e w3 ⟨rfl, rfl⟩))
  go_ret
  exact ⟨rfl, HB⟩
end
end Go.Proofs.YtmiphbjpcbfaeaaDoor
namespace Go.Proofs.YtmiphbjpcbfaeaaDoor
section
open Go.RowKit Go.PlainAid
set_option linter.unusedVariables false

abbrev tx1 : ByteArray := ⟨#[32, 123, 34, 97, 34, 58, 91, 49, 44, 45, 48, 44, 34, 120, 92, 117, 48, 48, 101, 57, 34, 93, 125]⟩
abbrev tx2 : ByteArray := ⟨#[91, 49, 44, 93]⟩
abbrev tx3 : ByteArray := ⟨#[57, 48, 48, 55, 49, 57, 57, 50, 53, 52, 55, 52, 48, 57, 57, 50]⟩
theorem parse_tx1 : parseTo tx1 = .ok (jObj ([⟨#[97]⟩], [jList [jInt 1, jInt 0, jText ⟨#[120, 195, 169]⟩]])) 23 := by kernel_rfl
theorem parse_tx2 : parseTo tx2 = .bad 3 3 := by kernel_rfl
theorem parse_tx3 : parseTo tx3 = .bad 5 0 := by kernel_rfl
end
end Go.Proofs.YtmiphbjpcbfaeaaDoor
namespace Go.Proofs.YtmiphbjpcbfaeaaDoor
section
open Go.RowKit Go.PlainAid
set_option linter.unusedVariables false
set_option linter.unusedSimpArgs false

/-- The world of the library's variables. -/
structure Wo (w : World) : Prop where
  gl : Gl w w.heap.size
  ty : ErrTy w
  lt : 0 < w.heap.size
theorem Wo.below {w w' : World} (h : Wo w) (hb : Below w.heap.size w w') : Wo w' :=
  ⟨(Gl.up (Gl.below hb h.gl) hb.size), h.ty.bes (Bes.of_below (X := fun _ => False) hb) (fun e => e), Nat.lt_of_lt_of_le h.lt hb.size⟩
abbrev T1l : List JT := [jInt 1, jInt 0, jText ⟨#[120, 195, 169]⟩]
abbrev T1 : JT := jObj ([⟨#[97]⟩], [jList T1l])
theorem tx1_any {w : World} (h : Wo w) : Calls Tryd.prog 8 #[.string ⟨#[32, 123, 34, 97, 34, 58, 91, 49, 44, 45, 48, 44, 34, 120, 92, 117, 48, 48, 101, 57, 34, 93, 125]⟩] w fun e w' => Below w.heap.size w w' ∧ ∃ j, e = .returned (.tuple #[.agg j.cells, .nilIface]) ∧ IsJV w' j ∧ er j = T1 := by
  refine (parse_any (s := tx1) h.gl (by decide)).mono ?_
  rintro e w' ⟨hb, h2⟩
  rw [if_neg (by decide), parse_tx1] at h2
  obtain ⟨j, h3, h4, h5, _⟩ := h2
  exact ⟨hb, j, h3, h4, h5⟩
theorem tx2_any {w : World} (h : Wo w) : Calls Tryd.prog 8 #[.string ⟨#[91, 49, 44, 93]⟩] w fun e w' => Below w.heap.size w w' ∧ ∃ g, e = .returned (.tuple #[.agg JV.zero.cells, .iface 49 (At g)]) ∧ IBox w' g 60 #[.int .i64 3, .iface 43 (.int .i64 3)] := by
  refine (parse_any (s := tx2) h.gl (by decide)).mono ?_
  rintro e w' ⟨hb, h2⟩
  rw [if_neg (by decide), parse_tx2] at h2
  exact ⟨hb, h2⟩
theorem tx3_any {w : World} (h : Wo w) : Calls Tryd.prog 8 #[.string ⟨#[57, 48, 48, 55, 49, 57, 57, 50, 53, 52, 55, 52, 48, 57, 57, 50]⟩] w fun e w' => Below w.heap.size w w' ∧ ∃ g, e = .returned (.tuple #[.agg JV.zero.cells, .iface 49 (At g)]) ∧ IBox w' g 60 #[.int .i64 0, .iface 43 (.int .i64 5)] := by
  refine (parse_any (s := tx3) h.gl (by decide)).mono ?_
  rintro e w' ⟨hb, h2⟩
  rw [if_neg (by decide), parse_tx3] at h2
  exact ⟨hb, h2⟩
theorem t1_field {w : World} {j : JV} (hj : IsJV w j) (he : er j = T1) : (fieldS j ⟨#[97]⟩).isSome = true ∧ IsJV w (fieldD j ⟨#[97]⟩) ∧ er (fieldD j ⟨#[97]⟩) = jList T1l := by
  refine ⟨?_, field_is hj _, ?_⟩
  all_goals
    obtain ⟨v, l, ns, vs⟩ := j
    unfold er at he
    unfold T1 jObj at he
    injection he with e1 e2 e3 e4 e5 e6 e7
    subst e6
    cases vs with
    | nil => unfold erL at e7; cases e7
    | cons x t =>
      unfold erL at e7
      injection e7 with e7 e8
      have hk : (v.kind == 5) = true := by rw [e1]; rfl
      have hf : fieldS (.mk v l [⟨#[97]⟩] (x :: t)) ⟨#[97]⟩ = some x := by
        unfold fieldS
        show (if (v.kind == 5) = true then _ else _) = _
        rw [if_pos hk]
        show (if ((⟨#[97]⟩ : ByteArray).toList == (⟨#[97]⟩ : ByteArray).toList) = true then some x else look [] t ⟨#[97]⟩) = some x
        exact if_pos (beq_self_eq_true _)
      first
        | (rw [hf]; rfl)
        | (unfold fieldD; rw [hf]; exact e7)
theorem t1_cells {w : World} {l : JV} (hl : IsJV w l) (he : er l = jList T1l) : ∃ bl off, l.v.LA = some ⟨bl, off, none⟩ ∧ l.v.Ln = 3 ∧ w.cell? ⟨bl, off + 2, none⟩ = some (.int .i64 1) ∧ w.cell? ⟨bl, off + 15, none⟩ = some (.string ⟨#[120, 195, 169]⟩) := by
  have hL : erL l.l = T1l := by
    obtain ⟨v, l', ns, vs⟩ := l
    unfold er at he
    unfold jList at he
    injection he
  have hlen : l.l.length = 3 := by rw [← erL_len, hL]; rfl
  obtain ⟨l1, _⟩ := jv_lens hl
  obtain ⟨bl, off, x, hA, hx, RX, _⟩ := jv_elem hl (i := 0) (by omega)
  obtain ⟨bl2, off2, y, hA2, hy, RY, _⟩ := jv_elem hl (i := 2) (by omega)
  rw [hA] at hA2
  injection hA2 with e
  injection e with e1 e2 _
  subst e1 e2
  match hq : l.l, hlen with
  | [a, b, c], _ =>
    rw [hq] at hL hx hy
    injection hx with hx
    injection hy with hy
    subst hx hy
    unfold erL at hL
    injection hL with ha hL
    unfold erL at hL
    injection hL with hb hL
    unfold erL at hL
    injection hL with hc hL
    have h1 := RX 2 (.int .i64 a.v.i) (by simp [JV.cells, VM.cells])
    have h2 := RY 3 (.string c.v.t) (by simp [JV.cells, VM.cells])
    have ea : a.v.i = 1 := by
      obtain ⟨v, _, _, _⟩ := a
      unfold er jInt at ha
      injection ha
    have ec : c.v.t = ⟨#[120, 195, 169]⟩ := by
      obtain ⟨v, _, _, _⟩ := c
      unfold er jText at hc
      injection hc
    rw [ea] at h1
    rw [ec] at h2
    exact ⟨bl, off, hA, by rw [l1, hq]; rfl, by simpa using h1, by simpa [Nat.add_assoc] using h2⟩
set_option maxRecDepth 10000 in
set_option maxHeartbeats 8000000 in
theorem shown_any {w : World} (h : Wo w) : Calls Tryd.prog 4 #[] w fun e w' => e = .returned (.bool true) ∧ Below w.heap.size w w' := by
  have HB := Below.refl w.heap.size w
  have HW := h
  go_enter Tryd.func4, Tryd.ntmps4
  go_wp2_with (first
    | (go_at_call 8; (with_reducible refine (tx1_any HW).mono ?_); rintro e w1 ⟨hb, j, rfl, hj, he⟩; replace HB := HB.trans (hb.mono HB.size); replace HW := HW.below hb; clear hb)
    | (refine wpl_newbox 1 rfl rfl 25 rfl rfl (.tmp 13) rfl _ zeroV j.cells rfl rfl info_value rfl (jv_one _) ?_; intro w7 hw; have hb := hid_grow hw; have BX := (hid_alloc hw).1; clear hw; (try replace hj := IsJV.below hb hj); (try replace hl := IsJV.below hb hl); (try replace B1 := IBox.below B1 hb (IBox.lt B1)); (try replace c3_4 := cell_below hb c3_4); (try replace ca := cell_below hb ca); (try replace cb := cell_below hb cb); (try replace hg2 := IBox.below hg2 hb (IBox.lt hg2)); (try replace hg3 := IBox.below hg3 hb (IBox.lt hg3)); replace HB := HB.trans (hb.mono HB.size); replace HW := HW.below hb; clear hb; have B1 := BX; clear BX)
    | ((with_reducible refine is_load ?_); refine wpl_load_box rfl 25 (.tmp 1) rfl _ rfl _ _ _ B1 Tryd.underlying25 rfl info_value ?_)
    | (go_at_call 9; (obtain ⟨hs, hl, hle⟩ := t1_field hj he); (with_reducible refine (get_any j _ _ hj).mono ?_); rintro e w2 ⟨rfl, hb⟩; rw [hs]; (try replace hj := IsJV.below hb hj); (try replace hl := IsJV.below hb hl); (try replace B1 := IBox.below B1 hb (IBox.lt B1)); (try replace c3_4 := cell_below hb c3_4); (try replace ca := cell_below hb ca); (try replace cb := cell_below hb cb); (try replace hg2 := IBox.below hg2 hb (IBox.lt hg2)); (try replace hg3 := IBox.below hg3 hb (IBox.lt hg3)); replace HB := HB.trans (hb.mono HB.size); replace HW := HW.below hb; clear hb)
    | (refine wpl_newbox 3 rfl rfl 25 rfl rfl (.tmp 18) rfl _ zeroV (fieldD j ⟨#[97]⟩).cells rfl rfl info_value rfl (jv_one _) ?_; intro w7 hw; have hb := hid_grow hw; have BX := (hid_alloc hw).1; clear hw; (try replace hj := IsJV.below hb hj); (try replace hl := IsJV.below hb hl); (try replace B1 := IBox.below B1 hb (IBox.lt B1)); (try replace c3_4 := cell_below hb c3_4); (try replace ca := cell_below hb ca); (try replace cb := cell_below hb cb); (try replace hg2 := IBox.below hg2 hb (IBox.lt hg2)); (try replace hg3 := IBox.below hg3 hb (IBox.lt hg3)); replace HB := HB.trans (hb.mono HB.size); replace HW := HW.below hb; clear hb; have c3_4 := IBox.cell BX 4; obtain ⟨bl, off, hA, hN, ca, cb⟩ := t1_cells hl hle; replace c3_4 : w7.cell? _ = some (.slice (some ⟨bl, off, none⟩) 3 (fieldD j ⟨#[97]⟩).v.Lc) := (by rw [← hA, ← hN]; exact c3_4); clear BX hA hN hl hle)
    | (go_at_call 8; (with_reducible refine (tx2_any HW).mono ?_); rintro e w3 ⟨hb, g2, rfl, hg2⟩; (try replace hj := IsJV.below hb hj); (try replace hl := IsJV.below hb hl); (try replace B1 := IBox.below B1 hb (IBox.lt B1)); (try replace c3_4 := cell_below hb c3_4); (try replace ca := cell_below hb ca); (try replace cb := cell_below hb cb); (try replace hg2 := IBox.below hg2 hb (IBox.lt hg2)); (try replace hg3 := IBox.below hg3 hb (IBox.lt hg3)); replace HB := HB.trans (hb.mono HB.size); replace HW := HW.below hb; clear hb)
    | (refine wpl_newbox 5 rfl rfl 25 rfl rfl (.tmp 22) rfl _ zeroV JV.zero.cells rfl rfl info_value rfl (jv_one _) ?_; intro w7 hw; have hb := hid_grow hw; have BX := (hid_alloc hw).1; clear hw; (try replace hj := IsJV.below hb hj); (try replace hl := IsJV.below hb hl); (try replace B1 := IBox.below B1 hb (IBox.lt B1)); (try replace c3_4 := cell_below hb c3_4); (try replace ca := cell_below hb ca); (try replace cb := cell_below hb cb); (try replace hg2 := IBox.below hg2 hb (IBox.lt hg2)); (try replace hg3 := IBox.below hg3 hb (IBox.lt hg3)); replace HB := HB.trans (hb.mono HB.size); replace HW := HW.below hb; clear hb; clear BX)
    | (go_at_call 8; (with_reducible refine (tx3_any HW).mono ?_); rintro e w4 ⟨hb, g3, rfl, hg3⟩; (try replace hj := IsJV.below hb hj); (try replace hl := IsJV.below hb hl); (try replace B1 := IBox.below B1 hb (IBox.lt B1)); (try replace c3_4 := cell_below hb c3_4); (try replace ca := cell_below hb ca); (try replace cb := cell_below hb cb); (try replace hg2 := IBox.below hg2 hb (IBox.lt hg2)); (try replace hg3 := IBox.below hg3 hb (IBox.lt hg3)); replace HB := HB.trans (hb.mono HB.size); replace HW := HW.below hb; clear hb)
    | (refine wpl_newbox 7 rfl rfl 25 rfl rfl (.tmp 26) rfl _ zeroV JV.zero.cells rfl rfl info_value rfl (jv_one _) ?_; intro w7 hw; have hb := hid_grow hw; have BX := (hid_alloc hw).1; clear hw; (try replace hj := IsJV.below hb hj); (try replace hl := IsJV.below hb hl); (try replace B1 := IBox.below B1 hb (IBox.lt B1)); (try replace c3_4 := cell_below hb c3_4); (try replace ca := cell_below hb ca); (try replace cb := cell_below hb cb); (try replace hg2 := IBox.below hg2 hb (IBox.lt hg2)); (try replace hg3 := IBox.below hg3 hb (IBox.lt hg3)); replace HB := HB.trans (hb.mono HB.size); replace HW := HW.below hb; clear hb; clear BX)
    | (go_at_call 10; (with_reducible refine (fault_is HW.ty HW.lt hg2).mono ?_); rintro e w5 ⟨rfl, hb⟩; (try replace hj := IsJV.below hb hj); (try replace hl := IsJV.below hb hl); (try replace B1 := IBox.below B1 hb (IBox.lt B1)); (try replace c3_4 := cell_below hb c3_4); (try replace ca := cell_below hb ca); (try replace cb := cell_below hb cb); (try replace hg2 := IBox.below hg2 hb (IBox.lt hg2)); (try replace hg3 := IBox.below hg3 hb (IBox.lt hg3)); replace HB := HB.trans (hb.mono HB.size); replace HW := HW.below hb; clear hb)
    | (go_at_call 10; (with_reducible refine (fault_is HW.ty HW.lt hg3).mono ?_); rintro e w6 ⟨rfl, hb⟩; (try replace hj := IsJV.below hb hj); (try replace hl := IsJV.below hb hl); (try replace B1 := IBox.below B1 hb (IBox.lt B1)); (try replace c3_4 := cell_below hb c3_4); (try replace ca := cell_below hb ca); (try replace cb := cell_below hb cb); (try replace hg2 := IBox.below hg2 hb (IBox.lt hg2)); (try replace hg3 := IBox.below hg3 hb (IBox.lt hg3)); replace HB := HB.trans (hb.mono HB.size); replace HW := HW.below hb; clear hb))
  go_ret
  exact ⟨rfl, HB⟩
end
end Go.Proofs.YtmiphbjpcbfaeaaDoor
