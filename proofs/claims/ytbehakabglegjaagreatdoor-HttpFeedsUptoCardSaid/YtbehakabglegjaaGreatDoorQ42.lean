/- Layer 9: the document's start: a message's first line. Layer 9: the document's start: an answer's first line. An error's number. Layer 9: errors.As and errors.Is at a fault, and what the statements ask of a fault: coveylaw00.Is (after layer 2's text). -/
import Derived.Test.YtbehakabglegjaaGreatDoorQ35
import Derived.LaidEql
import Derived.Stop.Asserts
import Derived.RowKitTokens
import Derived.KernelRfl
import Derived.Test.YtbehakabglegjaaGreatDoorQ39
namespace Go.Proofs.YtbehakabglegjaaGreatDoor
open Go.RowKit Go.PlainAid
set_option linter.unusedVariables false
set_option linter.unusedSimpArgs false
end Go.Proofs.YtbehakabglegjaaGreatDoor
namespace Go.Proofs.YtbehakabglegjaaGreatDoor
open Go.RowKit Go.PlainAid
set_option linter.unusedVariables false
set_option linter.unusedSimpArgs false
end Go.Proofs.YtbehakabglegjaaGreatDoor
namespace Go.Proofs.YtbehakabglegjaaGreatDoor
open Go.RowKit
set_option linter.unusedVariables false

theorem code_info : (Tryz.prog.info? 31).map (fun i => i.comparable) = some true := by kernel_rfl
theorem eql_code (a b : Int) (w : World) : (binOp .eql 28 (.iface 31 (.int .i64 a)) (.iface 31 (.int .i64 b))).run Tryz.prog w = .ok (.bool (a == b)) w := by
  obtain ⟨i, hi, hc⟩ := Option.map_eq_some_iff.1 code_info
  exact run_eql_iface_int w a b Tryz.underlying28 Tryz.underlying31 hi hc

theorem code_nil (w : World) : Calls Tryz.prog 12 #[.nilIface] w fun e w' => e = .returned (.int .i64 0) ∧ w = w' := by
  go_enter Tryz.func12, Tryz.ntmps12
  go_wp2
  go_ret
  exact ⟨rfl, rfl⟩
end Go.Proofs.YtbehakabglegjaaGreatDoor
namespace Go.Proofs.YtbehakabglegjaaGreatDoor
section
open Go.RowKit Go.Extern.Stop Go.Stop Go.Extern
set_option linter.unusedVariables false
set_option linter.unusedSimpArgs false

theorem Tryz.valueOf27 (t : Addr) (w : World) : (ReflectliteValue.unpack (.iface 132 (.pointer (some t)))).run Tryz.prog w
    = .ok (.agg #[.pointer (some ⟨14, 132, none⟩), .pointer (some ⟨w.heap.size, 0, none⟩), .int .u64 150]) (w.alloc (.cells #[.pointer (some t)] 132)) := by kernel_rfl
theorem Tryz.type27 (a : Addr) (w : World) : (ReflectliteValue.methodAny (ReflectliteValue.valueError "reflectlite.Value.Type" 0) (fun t _ _ _ => ReflectliteType.toType t) #[.agg #[.pointer (some ⟨14, 132, none⟩), .pointer (some a), .int .u64 150]]).run Tryz.prog w
    = .ok (.iface 164 (.agg #[.pointer (some ⟨14, 132, none⟩)])) w := by kernel_rfl
theorem Tryz.methodKind (h : Value) (w : World) : (Go.method 190 164 (.agg #[h]) "Kind").run Tryz.prog w = .ok (174, h) w := by kernel_rfl
theorem Tryz.kind27 (w : World) : ((ReflectliteType.abiMethod fun t => (fun a : Nat => Value.int IntKind.u8 (a : Int)) <$> Rtype.kind t) #[.pointer (some ⟨14, 132, none⟩)]).run Tryz.prog w = .ok (.int .u8 22) w := by kernel_rfl
theorem Tryz.kind25 (w : World) : ((ReflectliteType.abiMethod fun t => (fun a : Nat => Value.int IntKind.u8 (a : Int)) <$> Rtype.kind t) #[.pointer (some ⟨14, 83, none⟩)]).run Tryz.prog w = .ok (.int .u8 22) w := by kernel_rfl

/-! ### THE ENTRIES THAT READ OR WRITE MEMORY: laws with a premise on the cell (after Derived/Lib/ReflectliteSlice.lean's manner: each unfolding a lemma of its own, by rfl) -/
theorem rlm (z : Sem Value) (f : TypeId → Addr → Nat → Nat → Sem Value) (v : Value) :
    ReflectliteValue.method z f #[v] = (do match ← ReflectliteValue.parts v with | none => z | some (t, a, fl) => f t a fl (fl % 32)) := rfl
theorem Tryz.parts27 (a : Addr) (w : World) : (ReflectliteValue.parts (.agg #[.pointer (some ⟨14, 132, none⟩), .pointer (some a), .int .u64 150])).run Tryz.prog w = .ok (some (132, a, 150)) w := by kernel_rfl
/-- (Value).IsNil at the Value of a **p.E that is not nil. -/
theorem Tryz.isNil27 (a p : Addr) (W : World) (ha : W.cell? a = some (.pointer (some p))) :
    (ReflectliteValue.method (ReflectliteValue.valueError "reflectlite.Value.IsNil" 0) ReflectliteValue.isNil #[.agg #[.pointer (some ⟨14, 132, none⟩), .pointer (some a), .int .u64 150]]).run Tryz.prog W = .ok (.bool false) W := by
  rw [rlm]
  simp only [Sem.run_bind, Tryz.parts27, Result.andThen]
  simp [ReflectliteValue.isNil, loadVar, isAgg, underlying, Tryz.underlying132, ha, Result.andThen]

theorem Tryz.methodElem (h : Value) (w : World) : (Go.method 190 164 (.agg #[h]) "Elem").run Tryz.prog w = .ok (187, .agg #[h]) w := by kernel_rfl
theorem Tryz.methodImplements (h : Value) (w : World) : (Go.method 190 164 (.agg #[h]) "Implements").run Tryz.prog w = .ok (188, .agg #[h]) w := by kernel_rfl
theorem Tryz.methodAssignableTo (h : Value) (w : World) : (Go.method 190 164 (.agg #[h]) "AssignableTo").run Tryz.prog w = .ok (185, .agg #[h]) w := by kernel_rfl
theorem Tryz.elem27 (w : World) : (ReflectliteType.method ReflectliteType.elem #[.agg #[.pointer (some ⟨14, 132, none⟩)]]).run Tryz.prog w = .ok (.iface 164 (.agg #[.pointer (some ⟨14, 83, none⟩)])) w := by kernel_rfl
theorem Tryz.implements25 (w : World) : (ReflectliteType.relation "Implements" ReflectliteType.implements_ #[.agg #[.pointer (some ⟨14, 83, none⟩)], .iface 164 (.agg #[.pointer (some ⟨14, 28, none⟩)])]).run Tryz.prog w = .ok (.bool true) w := by kernel_rfl
theorem Tryz.typeOf25 (v : Value) (w : World) : (ReflectliteType.typeOf #[.iface 83 v]).run Tryz.prog w = .ok (.iface 164 (.agg #[.pointer (some ⟨14, 83, none⟩)])) w := by kernel_rfl
theorem Tryz.assignable25 (w : World) : (ReflectliteType.relation "AssignableTo" ReflectliteType.assignableTo #[.agg #[.pointer (some ⟨14, 83, none⟩)], .iface 164 (.agg #[.pointer (some ⟨14, 83, none⟩)])]).run Tryz.prog w = .ok (.bool true) w := by kernel_rfl
theorem Tryz.valueOf25 (e : Addr) (w : World) : (ReflectliteValue.unpack (.iface 83 (.pointer (some e)))).run Tryz.prog w
    = .ok (.agg #[.pointer (some ⟨14, 83, none⟩), .pointer (some ⟨w.heap.size, 0, none⟩), .int .u64 150]) (w.alloc (.cells #[.pointer (some e)] 83)) := by kernel_rfl

theorem Tryz.elemOf27 (w : World) : (Rtype.elem? 132).run Tryz.prog w = .ok (some 83) w := by kernel_rfl
theorem Tryz.mk25 (p : Addr) (w : World) : (ReflectliteValue.mk 83 p ReflectliteValue.flagAddr).run Tryz.prog w = .ok (.agg #[.pointer (some ⟨14, 83, none⟩), .pointer (some p), .int .u64 406]) w := by kernel_rfl
/-- (Value).Elem at the Value of a **p.E that is not nil: the Value of the *p.E variable that it points to, addressable. -/
theorem Tryz.elemV27 (a p : Addr) (W : World) (ha : W.cell? a = some (.pointer (some p))) :
    (ReflectliteValue.method (ReflectliteValue.valueError "reflectlite.Value.Elem" 0) ReflectliteValue.elem #[.agg #[.pointer (some ⟨14, 132, none⟩), .pointer (some a), .int .u64 150]]).run Tryz.prog W
      = .ok (.agg #[.pointer (some ⟨14, 83, none⟩), .pointer (some p), .int .u64 406]) W := by
  rw [rlm]
  simp only [Sem.run_bind, Tryz.parts27, Result.andThen]
  simp [ReflectliteValue.elem, loadVar, isAgg, underlying, Tryz.underlying132, ha, Result.andThen, Tryz.elemOf27, Tryz.mk25]
theorem rls (v x : Value) : ReflectliteValue.set #[v, x] = (do
    let (some (dst, a, fl), some (src, b, _)) := (← ReflectliteValue.parts v, ← ReflectliteValue.parts x)
      | unsupported (.noEntry "extern/(internal/reflectlite.Value).Set.zeroValue")
    if fl / ReflectliteValue.flagAddr % 2 == 0 then unsupported (.noEntry "extern/(internal/reflectlite.Value).Set.unaddressable")
    let val ← loadVar src b
    if ← Rtype.directlyAssignable dst src then storeVar dst a val
    else if ← Rtype.implements dst src then
      if (← Rtype.kind src) == 20 then
        match val with
        | .nilIface => unsupported (.noEntry "extern/reflectlite: a nil value of one interface type handed on as a value of another")
        | _ => storeVar dst a val
      else storeVar dst a (.iface src val)
    else panicString ("reflectlite.Set: value of type " ++ (← Rtype.spelt src) ++ " is not assignable to type " ++ (← Rtype.spelt dst))
    pure (.tuple #[])) := rfl
theorem Tryz.parts25a (a : Addr) (w : World) : (ReflectliteValue.parts (.agg #[.pointer (some ⟨14, 83, none⟩), .pointer (some a), .int .u64 406])).run Tryz.prog w = .ok (some (83, a, 406)) w := by kernel_rfl
theorem Tryz.parts25 (a : Addr) (w : World) : (ReflectliteValue.parts (.agg #[.pointer (some ⟨14, 83, none⟩), .pointer (some a), .int .u64 150])).run Tryz.prog w = .ok (some (83, a, 150)) w := by kernel_rfl
theorem Tryz.direct25 (w : World) : (Rtype.directlyAssignable 83 83).run Tryz.prog w = .ok true w := by kernel_rfl
/-- (Value).Set: the *p.E variable at 'ta' gets what the Value's own variable 'b' holds. -/
theorem Tryz.set25 (ta b e : Addr) (old : Value) (W : World) (hb : W.cell? b = some (.pointer (some e))) (ht : W.cell? ta = some old) (hf : W.frozen? ta = false) :
    (ReflectliteValue.set #[.agg #[.pointer (some ⟨14, 83, none⟩), .pointer (some ta), .int .u64 406], .agg #[.pointer (some ⟨14, 83, none⟩), .pointer (some b), .int .u64 150]]).run Tryz.prog W
      = .ok (.tuple #[]) (W.setCell ta (.pointer (some e))) := by
  rw [rls]
  simp only [Sem.run_bind, Tryz.parts25a, Tryz.parts25, Result.andThen]
  simp [ReflectliteValue.flagAddr, loadVar, isAgg, underlying, Tryz.underlying83, hb, Result.andThen, Tryz.direct25, storeVar, Value.cells, storeCells, Addr.add]
  rw [run_store Tryz.prog W ta _ _ (by rfl)]
  simp [ht, hf]

set_option maxHeartbeats 4000000 in
theorem as_hit (e t : Addr) (old : Value) (w : World) (hg : w.cell? ⟨0, 0, none⟩ = some (.iface 164 (.agg #[.pointer (some ⟨14, 28, none⟩)]))) (ht0 : w.cell? t = some old) (hf0 : w.frozen? t = false) :
    Calls Tryz.prog 88 #[.iface 83 (.pointer (some e)), .iface 132 (.pointer (some t))] w fun ev w' => ev = .returned (.bool true) ∧ w' = ((((w.alloc (.cells #[.pointer (some t)] 132)).alloc (.cells #[.pointer (some ⟨14, 132, none⟩), .pointer (some ⟨w.heap.size, 0, none⟩), .int .u64 150] 144)).alloc (.cells #[.pointer (some ⟨14, 132, none⟩), .pointer (some ⟨w.heap.size, 0, none⟩), .int .u64 150] 144)).alloc (.cells #[.pointer (some e)] 83)).setCell t (.pointer (some e)) := by
  have h6 := @run_callFunc_extern Tryz.prog 109 _ (fun args => ReflectliteValue.unpack (args.getD 0 (.tuple #[]))) Tryz.func109 (by kernel_rfl) (by kernel_rfl) (by kernel_rfl) (by kernel_rfl)
  have h7 := @run_callFunc_extern Tryz.prog 110 _ (ReflectliteValue.methodAny (ReflectliteValue.valueError "reflectlite.Value.Type" 0) (fun t _ _ _ => ReflectliteType.toType t)) Tryz.func110 (by kernel_rfl) (by kernel_rfl) (by kernel_rfl) (by kernel_rfl)
  have h8 := @run_callFunc_extern Tryz.prog 111 _ (ReflectliteValue.method (ReflectliteValue.valueError "reflectlite.Value.IsNil" 0) ReflectliteValue.isNil) Tryz.func111 (by kernel_rfl) (by kernel_rfl) (by kernel_rfl) (by kernel_rfl)
  have h27 := @run_callFunc_extern Tryz.prog 174 _ (ReflectliteType.abiMethod fun t => do pure (.int .u8 (← Rtype.kind t))) Tryz.func174 (by kernel_rfl) (by kernel_rfl) (by kernel_rfl) (by kernel_rfl)
  have h37 := @run_callFunc_extern Tryz.prog 187 _ (ReflectliteType.method ReflectliteType.elem) Tryz.func187 (by kernel_rfl) (by kernel_rfl) (by kernel_rfl) (by kernel_rfl)
  have h38 := @run_callFunc_extern Tryz.prog 188 _ (ReflectliteType.relation "Implements" ReflectliteType.implements_) Tryz.func188 (by kernel_rfl) (by kernel_rfl) (by kernel_rfl) (by kernel_rfl)
  have h10 := @run_callFunc_extern Tryz.prog 113 _ ReflectliteType.typeOf Tryz.func113 (by kernel_rfl) (by kernel_rfl) (by kernel_rfl) (by kernel_rfl)
  have h35 := @run_callFunc_extern Tryz.prog 185 _ (ReflectliteType.relation "AssignableTo" ReflectliteType.assignableTo) Tryz.func185 (by kernel_rfl) (by kernel_rfl) (by kernel_rfl) (by kernel_rfl)
  have h11 := @run_callFunc_extern Tryz.prog 127 _ (ReflectliteValue.method (ReflectliteValue.valueError "reflectlite.Value.Elem" 0) ReflectliteValue.elem) Tryz.func127 (by kernel_rfl) (by kernel_rfl) (by kernel_rfl) (by kernel_rfl)
  have h12 := @run_callFunc_extern Tryz.prog 128 _ ReflectliteValue.set Tryz.func128 (by kernel_rfl) (by kernel_rfl) (by kernel_rfl) (by kernel_rfl)
  have tO := Tryz.typeOf25
  have mA := Tryz.methodAssignableTo
  have a25 := Tryz.assignable25
  have v25 := Tryz.valueOf25
  have f6 := Tryz.valueOf27
  have f7 := Tryz.type27
  have mK := Tryz.methodKind
  have mE := Tryz.methodElem
  have mI := Tryz.methodImplements
  have k27 := Tryz.kind27
  have k25 := Tryz.kind25
  have e27 := Tryz.elem27
  have i25 := Tryz.implements25
  have n8 := Tryz.isNil27 ⟨w.heap.size, 0, none⟩ t ((w.alloc (.cells #[.pointer (some t)] 132)).alloc (.cells #[.pointer (some ⟨14, 132, none⟩), .pointer (some ⟨w.heap.size, 0, none⟩), .int .u64 150] 144)) (by simp)
  have hlt : 0 < w.heap.size := by
    rcases Nat.eq_zero_or_pos w.heap.size with h0 | h
    · simp [World.cell?, h0] at hg
    · exact h
  have hg2 : ((w.alloc (.cells #[.pointer (some t)] 132)).alloc (.cells #[.pointer (some ⟨14, 132, none⟩), .pointer (some ⟨w.heap.size, 0, none⟩), .int .u64 150] 144)).cell? ⟨0, 0, none⟩ = some (.iface 164 (.agg #[.pointer (some ⟨14, 28, none⟩)])) := by
    rw [World.cell?_alloc_lt _ _ ⟨0, 0, none⟩ (by simp), World.cell?_alloc_lt _ _ ⟨0, 0, none⟩ hlt]; exact hg
  have htl : t.block < w.heap.size := by
    rcases Nat.lt_or_ge t.block w.heap.size with h | h
    · exact h
    · simp [World.cell?, Array.getElem?_eq_none h] at ht0
  have el := Tryz.elemV27 ⟨w.heap.size, 0, none⟩ t (((w.alloc (.cells #[.pointer (some t)] 132)).alloc (.cells #[.pointer (some ⟨14, 132, none⟩), .pointer (some ⟨w.heap.size, 0, none⟩), .int .u64 150] 144)).alloc (.cells #[.pointer (some ⟨14, 132, none⟩), .pointer (some ⟨w.heap.size, 0, none⟩), .int .u64 150] 144)) (by rw [World.cell?_alloc_lt _ _ ⟨w.heap.size, 0, none⟩ (by simp; omega)]; simp)
  have st := Tryz.set25 t ⟨w.heap.size + 1 + 1 + 1, 0, none⟩ e old ((((w.alloc (.cells #[.pointer (some t)] 132)).alloc (.cells #[.pointer (some ⟨14, 132, none⟩), .pointer (some ⟨w.heap.size, 0, none⟩), .int .u64 150] 144)).alloc (.cells #[.pointer (some ⟨14, 132, none⟩), .pointer (some ⟨w.heap.size, 0, none⟩), .int .u64 150] 144)).alloc (.cells #[.pointer (some e)] 83))
    (by rw [World.cell?_alloc_at _ _ _ _ (by simp)]; rfl)
    (by rw [World.cell?_alloc_lt _ _ t (by simp; omega), World.cell?_alloc_lt _ _ t (by simp; omega), World.cell?_alloc_lt _ _ t (by simp; omega), World.cell?_alloc_lt _ _ t htl]; exact ht0)
    (by rw [World.frozen?_alloc_old _ _ t (by simp; omega), World.frozen?_alloc_old _ _ t (by simp; omega), World.frozen?_alloc_old _ _ t (by simp; omega), World.frozen?_alloc_old _ _ t (Nat.ne_of_lt htl)]; exact hf0)
  go_enter Tryz.func88, Tryz.ntmps88
  go_wp2
  refine wp_loop_rounds 1 ?_
  rw [rounds_succ]
  go_wp2
  go_ret
  exact ⟨rfl, rfl⟩
end
end Go.Proofs.YtbehakabglegjaaGreatDoor
namespace Go.Proofs.YtbehakabglegjaaGreatDoor
section
open Go.RowKit Go.PlainAid Go.Extern.Stop Go.Stop Go.Extern
set_option linter.unusedVariables false
set_option linter.unusedSimpArgs false

theorem Tryz.isTypeOf (v : Value) (w : World) : (Extern.ReflectliteType.typeOf #[.iface 31 v]).run Tryz.prog w = .ok (.iface 164 (.agg #[.pointer (some ⟨14, 31, none⟩)])) w := by kernel_rfl
theorem Tryz.callComparable (w : World) : (callFunc 186 #[.agg #[.pointer (some ⟨14, 31, none⟩)]]).run Tryz.prog w = .ok (Next.value (.bool true)) w := by kernel_rfl
theorem Tryz.isMethodComparable (v : Value) (w : World) : (Go.method 190 164 v "Comparable").run Tryz.prog w = .ok (186, v) w := by kernel_rfl
theorem Tryz.noIsF (v : Value) (xT : TypeId) (w : World) : (Instr.typeAssert (.iface 83 v) xT 176 true).run Tryz.prog w = .ok (.tuple #[.nilIface, .bool false]) w := run_typeAssert_lacksB Tryz.underlying176 (by kernel_rfl) (by kernel_rfl) v xT w
theorem Tryz.hasUnwrapF (v : Value) (xT : TypeId) (w : World) : (Instr.typeAssert (.iface 83 v) xT 171 true).run Tryz.prog w = .ok (.tuple #[.iface 83 v, .bool true]) w := run_typeAssert_hasB Tryz.underlying171 (by kernel_rfl) v xT w
theorem Tryz.methodUnwrapF (v : Value) (w : World) : (Go.method 190 83 v "Unwrap").run Tryz.prog w = .ok (179, v) w := by kernel_rfl
theorem Tryz.codeComp : (Tryz.prog.info? 31).map (·.comparable) = some true := by kernel_rfl
theorem Tryz.faultComp : (Tryz.prog.info? 83).map (·.comparable) = some true := by kernel_rfl
theorem Tryz.faultSize : (Tryz.prog.info? 85).map (·.size) = some 2 := by kernel_rfl
theorem run_neq_iface_ptr_same {P : Program} (w : World) {ti tp te : TypeId} {ms : Array (String × TypeId)} {i j : TypeInfo} (a : Addr)
    (hi : P.underlying ti = some (.interface ms)) (hp : P.underlying tp = some (.pointer te)) (hinfo : P.info? tp = some i) (hcomp : i.comparable = true) (hte : P.info? te = some j) :
    (binOp .neq ti (.iface tp (.pointer (some a))) (.iface tp (.pointer (some a)))).run P w = .ok (.bool false) w := by
  simp only [binOp]
  simp [Op.equal, Op.maxDepth, run_equalIn_iface_ptr_same w 9998 a hi hp hinfo hcomp hte]

/-- errors.Is(e, c), e a *api.Fault whose Err is the Code c. -/
theorem is_code (g : Nat) (c : Int) (w : World) (h1 : w.cell? ⟨g, 1, none⟩ = some (.iface 31 (.int .i64 c))) :
    Calls Tryz.prog 89 #[.iface 83 (At g), .iface 31 (.int .i64 c)] w fun e w' => e = .returned (.bool true) ∧ w' = w := by
  obtain ⟨i, hi, hcmp⟩ := Option.map_eq_some_iff.1 Tryz.codeComp
  have h8 := @run_callFunc_extern Tryz.prog 113 _ Extern.ReflectliteType.typeOf Tryz.func113 (by kernel_rfl) (by kernel_rfl) (by kernel_rfl) (by kernel_rfl)
  have h32 := Tryz.callComparable
  have tT := Tryz.isTypeOf
  have mR := Tryz.isMethodComparable
  have nW := Tryz.noIsF
  have uW := Tryz.hasUnwrapF
  have mU := Tryz.methodUnwrapF
  have heq := fun w => Lib.run_eql_iface_int (P := Tryz.prog) w (k := .i64) c c Tryz.underlying28 Tryz.codeComp Tryz.underlying31
  have hty := run_eql_iface_types (P := Tryz.prog) 83 31 (At g) (.int .i64 c) Tryz.underlying28 (by decide) w
  go_enter Tryz.func89, Tryz.ntmps89
  go_wp2
  refine wp_loop_rounds 2 ?_
  rw [rounds_succ]
  go_wp2
  rw [rounds_succ]
  go_wp2
  go_ret
  exact ⟨rfl, rfl⟩

/-- The type of error, as the library keeps it for errors.As. -/
theorem wpl_alloc1 {P : Program} {ops : Array Oper} {rest : List Oper} {o : Oper} {a : Act} {w : World} {Q : Exit → Act → World → Prop} (hgd : o.guard = none) (ty : TypeId) (ho : o.op = .alloc ty) (z : Value) (hz : ∀ w, (zeroValue ty).run P w = .ok z w) (hz1 : z.oneCell' = true)
    (h : ∀ w', Hid (w' = w.alloc (.cells #[z] ty)) → wpList P ops Q rest (a.put o.dst (.pointer (some ⟨w.heap.size, 0, none⟩))) w') : wpList P ops Q (o :: rest) a w :=
  wpList_plain hgd fun _ hK => by
    have hzc : z.cells = #[z] := by cases z <;> first | rfl | cases hz1
    unfold Oper.wp execOp
    simp [ho, Instr.alloc, Sem.run_bind, hz, newVar, hzc]
    exact hK _ _ (h _ rfl)
abbrev ErrTy (w : World) : Prop := w.cell? ⟨0, 0, none⟩ = some (.iface 164 (.agg #[.pointer (some ⟨14, 28, none⟩)]))
theorem ErrTy.bes {X : Nat → Prop} {w w' : World} (h : Bes X w w') (hn : ¬ X 0) (he : ErrTy w) : ErrTy w' := cell_bes h he hn rfl
theorem as_hit2 {w : World} {g gf : Nat} (hT : ErrTy w) (hI : IBox w gf 83 #[.pointer none]) :
    Calls Tryz.prog 88 #[.iface 83 (At g), .iface 132 (At gf)] w fun e w' => e = .returned (.bool true) ∧ IBox w' gf 83 #[At g] ∧ Bes (fun k => k = gf) w w' := by
  refine (as_hit ⟨g, 0, none⟩ ⟨gf, 0, none⟩ (.pointer none) w hT (hI.cell 0) (hI.frozen 0)).mono ?_
  rintro e w' ⟨rfl, rfl⟩
  have hb : Below w.heap.size w ((((w.alloc (.cells #[At gf] 132)).alloc (.cells #[.pointer (some ⟨14, 132, none⟩), .pointer (some ⟨w.heap.size, 0, none⟩), .int .u64 150] 144)).alloc (.cells #[.pointer (some ⟨14, 132, none⟩), .pointer (some ⟨w.heap.size, 0, none⟩), .int .u64 150] 144)).alloc (.cells #[At g] 83)) :=
    ((((Below.refl _ _).alloc (Nat.le_refl _) _).alloc (by simp) _).alloc (by simp; omega) _).alloc (by simp; omega) _
  have hI2 := IBox.below hI hb hI.lt
  rw [setCell_eq_setRow _ gf 0 #[.pointer none] 83 (0, 0) (At g) hI2]
  exact ⟨rfl, hI2.row _, Bes.trans (Bes.of_below hb) (Bes.row (X := fun k => k = gf) (Lib.hid rfl) rfl) (fun _ e => e) (fun _ _ e => e)⟩

end
end Go.Proofs.YtbehakabglegjaaGreatDoor
