/- Layer 9: bytes in any pieces (plain): what a feed makes of the first pieces, and of the next one. Layer 9: a feed under changes elsewhere; messages put one behind the other; a fault's text. -/
import Derived.Test.YtbehakabglegjaaGreatDoorQ14
import Derived.Test.YtbehakabglegjaaGreatDoorQ25
import Derived.Test.YtbehakabglegjaaGreatDoorQ23
namespace Go.Proofs.YtbehakabglegjaaGreatDoor
set_option linter.unusedVariables false
set_option linter.unusedSimpArgs false
/-- The feed, with other messages that are whole. -/
def Fs.wh (f : Fs) (M : List Ms) : Fs := { f with whole := M }
theorem run_wh (f : Fs) (M : List Ms) (l : List UInt8) : runS (f.wh M) l = preR (feedS f l) M := by
  have : f.wh M = ({ f with whole := [] } : Fs).pre M := by unfold Fs.wh Fs.pre; simp
  rw [this]
  exact run_pre l _ M
theorem piece_ok {f G G2 : Fs} {M : List Ms} {a p : List UInt8} (h : runS f a = .inl (G.wh M)) (h2 : feedS G p = .inl G2) : runS f (a ++ p) = .inl (G2.wh (M ++ G2.whole)) := by
  rw [run_app, h]
  show runS (G.wh M) p = _
  rw [run_wh, h2]
  rfl
theorem piece_bad {f G : Fs} {M W : List Ms} {a p r : List UInt8} {k : Int} {q : Nat} (h : runS f a = .inl (G.wh M)) (h2 : feedS G p = .inr (k, q, W)) : runS f (a ++ p ++ r) = .inr (k, q, M ++ W) := by
  rw [List.append_assoc, run_app, h]
  show runS (G.wh M) (p ++ r) = _
  rw [run_app, run_wh, h2]
  rfl
theorem run_count : ∀ (l : List UInt8) (f : Fs), FI f → HZ f → (∀ g, runS f l = .inl g → FI g ∧ HZ g ∧ g.whole.length ≤ f.whole.length + l.length ∧ g.ans = f.ans ∧ g.pos = f.pos + l.length) ∧
    (∀ k p W, runS f l = .inr (k, p, W) → (k = 2 ∨ k = 3 ∨ k = 31 ∨ k = 32) ∧ W.length ≤ f.whole.length + l.length ∧ p ≤ f.pos + l.length)
  | [], f, h1, h2 => ⟨fun g e => by injection e with e; subst e; exact ⟨h1, h2, Nat.le_refl _, rfl, rfl⟩, fun k p W e => by cases e⟩
  | c :: r, f, h1, h2 => by
    rw [runS_cons]
    cases h : oneS f c with
    | bad x =>
      refine ⟨fun g e => by (simp only at e; cases e), fun k p W e => ?_⟩
      simp only at e
      injection e with e
      injection e with e1 e2
      injection e2 with e2 e3
      subst e1 e2 e3
      refine ⟨?_, by omega, by omega⟩
      unfold oneS at h
      split at h
      · injection h with h; exact .inl h.symm
      · have hk := step_k (f := { f with head := if 0 ≤ f.head then f.head + 1 else f.head }) (c := c) h1.next
        split at h
        · rename_i e hh
          rw [hh] at hk
          injection h with h
          subst h
          exact hk
        · cases h
    | ok g2 =>
      obtain ⟨k1, k2, k3, k4, k5⟩ := one_keep h1 h2 h
      obtain ⟨i1, i2⟩ := run_count r g2 k1 k2
      refine ⟨fun g e => ?_, fun k p W e => ?_⟩
      · obtain ⟨j1, j2, j3, j4, j5⟩ := i1 g e
        refine ⟨j1, j2, ?_, j4.trans k4, ?_⟩
        · rw [List.length_cons]; omega
        · rw [List.length_cons]; omega
      · obtain ⟨j1, j2, j3⟩ := i2 k p W e
        refine ⟨j1, ?_, ?_⟩
        · rw [List.length_cons]; omega
        · rw [List.length_cons]; omega
theorem newS_whole (b : Bool) : (newS b).whole = [] := rfl
theorem newS_feed (b : Bool) (l : List UInt8) : feedS (newS b) l = runS (newS b) l := by
  unfold feedS
  have : ({ newS b with whole := [] } : Fs) = newS b := by cases b <;> rfl
  rw [this]
end Go.Proofs.YtbehakabglegjaaGreatDoor
namespace Go.Proofs.YtbehakabglegjaaGreatDoor
open Go.RowKit Go.PlainAid
set_option linter.unusedVariables false
set_option linter.unusedSimpArgs false
section
variable {base : Bs} {g : Nat} {F : Fs} {nx tk hs bd wh : Value} {L : List Mm} {w w' : World}
theorem FdM.bes {X : Nat → Prop} (h : FdM base g F nx tk hs bd wh L w) (hb : Bes X w w') (hX : ∀ q, X q → ¬ Live g tk hs bd wh q) (hm : ∀ x ∈ L, MOff X x) : FdM base g F nx tk hs bd wh L w' :=
  ⟨Bes.box hb h.1 (fun x => hX g x (.inl rfl)), ⟨⟨h.2.gl.1, Nat.lt_of_lt_of_le h.2.gl.2 hb.size⟩, Bes.own hb h.2.rt (fun k e x => hX k x (.inr (.inl e))), Bes.own hb h.2.rh (fun k e x => hX k x (.inr (.inr (.inl e)))), Bes.own hb h.2.rb (fun k e x => hX k x (.inr (.inr (.inr (.inl e))))), Bes.own hb h.2.rw_ (fun k e x => hX k x (.inr (.inr (.inr (.inr e))))), h.2.wl, h.2.ap,
    fun x hx => ⟨(h.2.ms x hx).1.bes hb (hm x hx), (h.2.ms x hx).2⟩, h.2.off, fun q e => Nat.lt_of_lt_of_le (h.2.avl q e) hb.size⟩⟩
/-- With other blocks that are to be let be. -/
theorem FdM.lets {n : Nat} {P av : Nat → Prop} (h : FdM ⟨n, P⟩ g F nx tk hs bd wh L w) (hav : ∀ q, av q → q < w.heap.size ∧ ¬ Live g tk hs bd wh q) : FdM ⟨n, av⟩ g F nx tk hs bd wh L w :=
  ⟨h.1, h.2.gl, h.2.rt, h.2.rh, h.2.rb, h.2.rw_, h.2.wl, h.2.ap, h.2.ms, fun q hl ha => (hav q ha).2 hl, fun q ha => (hav q ha).1⟩
theorem Bl.as_bes {X : Nat → Prop} {n : Nat} {av : Nat → Prop} (h : Bl ⟨n, av⟩ w w') (hX : ∀ q, q < w.heap.size → ¬ X q → av q) : Bes X w w' :=
  ⟨h.b.os, h.b.tape, h.b.output, h.b.size, fun k hk hn => h.k k (hX k hk hn)⟩
theorem mmsL_get : ∀ {L : List Mm} {i : Nat} {x : Mm}, L[i]? = some x → ∀ j v, x.cells.toList[j]? = some v → (mmsL L)[i * 6 + j]? = some v
  | [], i, x, h, _, _, _ => by simp at h
  | y :: r, 0, x, h, j, v, hv => by
    obtain rfl : y = x := by simpa using h
    have e : mmsL (y :: r) = y.cells.toList ++ mmsL r := rfl
    have hj : j < y.cells.toList.length := (List.getElem?_eq_some_iff.1 hv).1
    rw [e, Nat.zero_mul, Nat.zero_add, List.getElem?_append_left hj]
    exact hv
  | y :: r, i + 1, x, h, j, v, hv => by
    have h2 : r[i]? = some x := by simpa using h
    have e : mmsL (y :: r) = y.cells.toList ++ mmsL r := rfl
    have hl : y.cells.toList.length = 6 := rfl
    rw [e, List.getElem?_append_right (by rw [hl]; omega), hl, show (i + 1) * 6 + j - 6 = i * 6 + j by omega]
    exact mmsL_get h2 j v hv
theorem mms_row {n : Nat} {v : Value} (h : w.ownsRow n 25 6 v L.length (mmsL L)) (hm : ∀ x ∈ L, MgB w x) : MmsAt w v L := by
  obtain ⟨A, c, hv, hc⟩ := own_slice h
  refine ⟨A, c, hv, fun i x hx => ?_⟩
  obtain ⟨b, hA, _⟩ := hc (i * 6 + 0) (.string x.m.meth) (mmsL_get hx 0 _ rfl)
  refine ⟨b, 0, hA, fun j u hu => ?_, hm x (List.mem_of_getElem? hx)⟩
  obtain ⟨b2, hA2, hw⟩ := hc (i * 6 + j) u (mmsL_get hx j u hu)
  obtain rfl : b = b2 := by rw [hA] at hA2; injection hA2 with e; injection e
  rw [Nat.zero_add]
  exact hw
theorem FdM.mms (h : FdM base g F nx tk hs bd wh L w) : MmsAt w wh L := mms_row h.2.rw_ (fun x hx => mm_b (h.2.ms x hx).1)
theorem ty_off {v : Value} {T T2 : TypeId} {q : Nat} {arr : Array Value} {fz : Nat × Nat} (h : TyB w v T) (hq : w.heap[q]? = some (.cells arr T2 fz)) (hne : T ≠ T2) : v.ownBlock ≠ some q := fun e => by
  obtain ⟨a2, f2, h2⟩ := h q e
  rw [h2] at hq
  injection hq with hq
  injection hq with _ hq _
  exact hne hq
/-- A message lies apart from blocks of another type. -/
theorem mm_off {X : Nat → Prop} {x : Mm} {T : TypeId} (h : IsMm w x) (hX : ∀ q, X q → ∃ arr fz, w.heap[q]? = some (.cells arr T fz)) (h1 : T ≠ 51) (h2 : T ≠ 5) : MOff X x :=
  ⟨fun q e y => by
    obtain ⟨arr, fz, hq⟩ := hX q y
    exact ty_off h.2.2.2.2.2.1 hq (Ne.symm h1) e, fun q e y => by
    obtain ⟨arr, fz, hq⟩ := hX q y
    exact ty_off h.2.2.2.2.2.2.1 hq (Ne.symm h2) e⟩
end
theorem mg_info : ∃ i, Tryz.prog.info? 25 = some i ∧ i.zero = some (.agg zeroM) ∧ i.size = 6 ∧ i.bytes = 104 := by
  have h : (Tryz.prog.info? 25).map (fun i => (i.zero, i.size, i.bytes)) = some (some (.agg zeroM), 6, 104) := by kernel_rfl
  obtain ⟨i, h1, h2⟩ := Option.map_eq_some_iff.1 h
  injection h2 with h2 h3
  injection h3 with h3 h4
  exact ⟨i, h1, h2, h3, h4⟩
theorem mmr_one : ∀ (L : List Mm), (∀ x ∈ L, (∃ A n c, x.hs = .slice A n c) ∧ ∃ A n c, x.bd = .slice A n c) → ∀ u ∈ mmsL L, u.oneCell' = true
  | [], _, u, h => by cases h
  | x :: r, hx, u, h => by
    have e : mmsL (x :: r) = x.cells.toList ++ mmsL r := rfl
    rw [e] at h
    rcases List.mem_append.1 h with h | h
    · obtain ⟨⟨A, n, c, e1⟩, ⟨A2, n2, c2, e2⟩⟩ := hx x (List.mem_cons_self ..)
      unfold Mm.cells at h
      rw [e1, e2] at h
      simp at h
      rcases h with rfl | rfl | rfl | rfl | rfl | rfl <;> rfl
    · exact mmr_one r (fun y hy => hx y (List.mem_cons_of_mem _ hy)) u h
theorem mmsL_len : ∀ (L : List Mm), (mmsL L).length = L.length * 6
  | [] => rfl
  | x :: r => by
    have e : mmsL (x :: r) = x.cells.toList ++ mmsL r := rfl
    rw [e, List.length_append, mmsL_len r, List.length_cons, show x.cells.toList.length = 6 from rfl]
    omega
section
variable {ops : Array Oper} {rest : List Oper} {o : Oper} {a : Act} {w : World} {Q : Exit → Act → World → Prop}
theorem run_app_nothing (t ty : TypeId) (ht : Tryz.prog.underlying t = some (.slice 25)) (A : Option Addr) (n cap c : Nat) (hn : n ≤ cap) : (Builtin.append_ #[t, t] ty #[.slice A n cap, .slice none 0 c]).run Tryz.prog w = .ok (.slice A n cap) w := by
  obtain ⟨ie, h1, h2, h3, h4⟩ := mg_info
  have hf := run_firstCells_none (P := Tryz.prog) w 6 0 0 c
  cases A <;> simp [Builtin.append_, run_underlying ht, sizeOf, typeInfo, h1, h3, Builtin.lenOf, hn, hf, storeCells]
theorem own_cap {w : World} {base : Nat} {E : TypeId} {size n cap : Nat} {A : Option Addr} {xs : List Value} {k : Nat} (h : w.ownsRow base E size (.slice A n cap) k xs) : n ≤ cap := by
  rcases h.2 with ⟨hv, h0⟩ | ⟨g, cp, cur, hv, _, _, hn, _⟩
  · injection hv with _ e2 e3; omega
  · injection hv with _ e2 e3; omega
/-- A row of messages put behind the call's own. -/
theorem wpl_app_mms (hgd : o.guard = none) (s x : Operand) (t : TypeId) (ho : o.op = .call { callee := .builtin .append, args := #[s, x], argTypes := #[t, t] }) (ht : Tryz.prog.underlying t = some (.slice 25)) {base : Nat} {v : Value} {M : List Mm} (hs : a.eval s = v) (hown : w.ownsRow base 25 6 v M.length (mmsL M))
    {u : Value} {n2 : Nat} {K : List Mm} (hx : a.eval x = u) (hu : w.ownsRow n2 25 6 u K.length (mmsL K)) (h1 : ∀ x ∈ K, (∃ A n c, x.hs = .slice A n c) ∧ ∃ A n c, x.bd = .slice A n c) (hl : M.length + K.length ≤ 1099511627776) (hbase : base ≤ w.heap.size)
    (hQ : ∀ v' w', w'.ownsRow base 25 6 v' (M ++ K).length (mmsL (M ++ K)) → Bes (fun q => v.ownBlock = some q) w w' → (v'.ownBlock = v.ownBlock ∨ v'.ownBlock = some w.heap.size) → wpList Tryz.prog ops Q rest (a.put o.dst v') w') : wpList Tryz.prog ops Q (o :: rest) a w := by
  obtain ⟨ie, i1, i2, i3, i4⟩ := mg_info
  obtain ⟨A, c, rfl, hc⟩ := own_slice hu
  have hlen : (M ++ K).length = M.length + K.length := List.length_append
  cases A with
  | none =>
    have hK : K = [] := by
      cases K with
      | nil => rfl
      | cons y r =>
        obtain ⟨b, e, _⟩ := hc 0 (.string y.m.meth) rfl
        cases e
    subst hK
    obtain ⟨A, cp, rfl, _⟩ := own_slice hown
    refine wpList_plain hgd fun _ hK => ?_
    have hr := run_app_nothing (w := w) t o.type ht A M.length cp c (own_cap hown)
    unfold Oper.wp execOp
    simp only [ho, resolve, invoke, builtin, Sem.run_bind, Sem.run_pure, Result.andThen_ok, List.map_toArray, List.map_cons, List.map_nil, hs, hx]
    rw [show ([] : List Mm).length = 0 from rfl, hr]
    exact hK _ _ (hQ _ _ (by rw [List.append_nil]; exact hown) (Bes.of_below (Below.refl _ _)) (.inl rfl))
  | some ad =>
    refine wpList_append_own_at w hgd s x t ho base 25 ie (.agg zeroM) 6 104 ht i1 i2 i3 i4 rfl (by decide) v M.length (mmsL M) hs hown ad K.length c (mmsL K) hx (mmsL_len K) (fun j z hz => ?_) (mmr_one K h1) (by unfold maxLen; omega) (by omega) hbase ?_
    · obtain ⟨b, e, hw⟩ := hc j z hz
      obtain rfl : ad = ⟨b, 0, none⟩ := Option.some.inj e
      have hadd : (⟨b, 0, none⟩ : Addr).add j = ⟨b, j, none⟩ := by unfold Addr.add; split <;> simp_all
      rw [hadd]
      exact hw
    · intro v' w' k1 k2 k3 k4
      exact hQ v' w' (by rw [hlen, mmsL_app]; exact k1) (Bes.grown (X := fun q => v.ownBlock = some q) k2 (fun _ e => e)) k4
/-- A method of an error's. -/
theorem op_invoke {K : Act → World → Prop} (x : Operand) (name : String) (ho : o.op = .call { callee := .invoke x name, args := #[], argTypes := #[] }) {T : TypeId} {v : Value} (hx : a.eval x = .iface T v) (f : FuncId) (hi : (invoke (.fn (.method name) #[]) #[.iface T v]).run Tryz.prog w = .ok (.enter f #[v]) w)
    {u : Value} {R : World → Prop} (hc : Calls Tryz.prog f #[v] w fun e w' => e = .returned u ∧ R w') (hK : ∀ w', R w' → K (a.put o.dst u) w') : o.wp Tryz.prog a w K Q := by
  unfold Oper.wp
  have e : (execOp a.eval o).run Tryz.prog w = .ok (.enter f #[v]) w := by
    unfold execOp
    simp only [ho, resolve, Sem.run_bind, Sem.run_pure, Result.andThen_ok, List.map_toArray, List.map_nil, hx]
    exact hi
  rw [e, Oper.upon_enter]
  refine hc.mono ?_
  rintro e w' ⟨rfl, hr⟩
  exact hK w' hr
end
theorem inv_fault (x : Value) (w : World) : (invoke (.fn (.method "Error") #[]) #[.iface 83 x]).run Tryz.prog w = .ok (.enter 178 #[x]) w := by kernel_rfl
theorem inv_code (x : Value) (w : World) : (invoke (.fn (.method "Error") #[]) #[.iface 31 x]).run Tryz.prog w = .ok (.enter 177 #[x]) w := by kernel_rfl
/-- What a fault says. -/
def codeT (k : Int) : ByteArray := (⟨#[99, 111, 118, 101, 121, 58, 32, 101, 114, 114, 111, 114, 32]⟩ : ByteArray) ++ txt (Lib.itoa k)
def faultT (k : Int) (p : Nat) : ByteArray := (txt (Lib.itoa (p : Int)) ++ (⟨#[58, 32]⟩ : ByteArray)) ++ codeT k
set_option maxRecDepth 100000 in
set_option maxHeartbeats 2000000 in
theorem code_text {k : Int} {w : World} (hk : -9223372036854775808 ≤ k ∧ k ≤ 9223372036854775807) (hw : Wh w w.heap.size) : Calls Tryz.prog 177 #[.int .i64 k] w fun e w' => e = .returned (.string (codeT k)) ∧ Below w.heap.size w w' := by
  have HL : Hid ((Lib.itoa k).length ≤ 20) := Lib.hid (itoa_len hk)
  have HW := Lib.hid hw
  have HK := Lib.hid hk
  have hn1 : ¬ 9223372036854775807 < 13 + (txt (Lib.itoa k)).size := by have := HL.out; rw [txt_size]; omega
  have HB := Below.refl w.heap.size w
  clear hw hk
  go_enter Tryz.func177, Tryz.ntmps177
  go_wp2_with (first
    | (go_at_call 37; (refine (itoa_any HK.out (HW.out.at HB)).mono ?_); rintro e w10 ⟨rfl, hb⟩; replace HB := HB.trans (hb.mono HB.size); clear hb))
  go_ret
  exact ⟨rfl, HB⟩
set_option maxRecDepth 100000 in
set_option maxHeartbeats 4000000 in
theorem fault_text {k : Int} {p N : Nat} {w : World} (hk : -9223372036854775808 ≤ k ∧ k ≤ 9223372036854775807) (hp : p ≤ 9223372036854775807) (hF : IBox w N 85 (FaultA p k)) (hw : Wh w w.heap.size) : Calls Tryz.prog 178 #[.pointer (some ⟨N, 0, none⟩)] w fun e w' => e = .returned (.string (faultT k p)) ∧ Below w.heap.size w w' := by
  have HP : Hid (-9223372036854775808 ≤ (p : Int) ∧ (p : Int) ≤ 9223372036854775807) := Lib.hid (by omega)
  have HL : Hid ((Lib.itoa (p : Int)).length ≤ 20) := Lib.hid (itoa_len HP.out)
  have HL2 : Hid ((codeT k).size ≤ 33) := Lib.hid (by have := itoa_len hk; unfold codeT; rw [ByteArray.size_append, txt_size]; show 13 + _ ≤ _; omega)
  have HW := Lib.hid hw
  have HK := Lib.hid hk
  have hn1 : ¬ 9223372036854775807 < (txt (Lib.itoa (p : Int))).size + 2 := by have := HL.out; rw [txt_size]; omega
  have hn2 : ¬ 9223372036854775807 < (txt (Lib.itoa (p : Int))).size + 2 + (codeT k).size := by have := HL.out; have := HL2.out; rw [txt_size]; omega
  have HFT : Hid ((txt (Lib.itoa (p : Int)) ++ (⟨#[58, 32]⟩ : ByteArray)) ++ codeT k = faultT k p) := Lib.hid rfl
  have HB := Below.refl w.heap.size w
  have HC : Hid (∀ w', Below w.heap.size w w' → Calls Tryz.prog 177 #[.int .i64 k] w' fun e w'' => e = .returned (.string (codeT k)) ∧ Below w'.heap.size w' w'') := Lib.hid fun w' hb => code_text HK.out ((HW.out.below hb).up hb.size)
  have c0 : w.cell? ⟨N, 0, none⟩ = some (.int .i64 p) := hF.cell 0
  have c1 : w.cell? ⟨N, 1, none⟩ = some (.iface 31 (.int .i64 k)) := hF.cell 1
  have BF := Lib.hid hF
  generalize hpt : txt (Lib.itoa (p : Int)) = pt at hn1 hn2 HFT
  have PTE := Lib.hid hpt
  clear hpt
  generalize codeT k = ct at hn2 HFT HC
  clear hw hk hp hF HL HL2
  go_enter Tryz.func178, Tryz.ntmps178
  go_wp2
  refine wp_region_S (S := fun w' => w'.cell? ⟨N, 0, none⟩ = some (.int .i64 p) ∧ w'.cell? ⟨N, 1, none⟩ = some (.iface 31 (.int .i64 k))) (by kernel_rfl) (fun w5 hh => ⟨(box_heap hh BF.out).cell 0, (box_heap hh BF.out).cell 1⟩) (fun w5 hh hbb HS0 => ?_)
  replace HB := HB.trans ((hbb _ (Nat.le_refl _)).mono HB.size)
  replace BF := Lib.hid (box_heap hh BF.out)
  clear hh hbb c0 c1
  refine TKC 0 3 rfl ?_
  try simp only [Act.put, zA, zB, zC]
  refine TKC 1 4 rfl ?_
  try simp only [Act.put, zA, zB, zC]
  refine TKC 2 5 rfl ?_
  try simp only [Act.put, zA, zB, zC]
  refine TKC 3 6 rfl ?_ (by (intro w hSw; (try dsimp only at hSw); have q1 := hSw.1; go_simp; try with_reducible rfl))
  try simp only [Act.put, zA, zB, zC]
  refine TKC 6 9 rfl ?_
  try simp only [Act.put, zA, zB, zC]
  refine TKC 7 10 rfl ?_
  try simp only [Act.put, zA, zB, zC]
  refine TKC 8 11 rfl ?_
  try simp only [Act.put, zA, zB, zC]
  refine TKC 9 12 rfl ?_ (by (intro w hSw; (try dsimp only at hSw); have q1 := hSw.2; go_simp; try with_reducible rfl))
  try simp only [Act.put, zA, zB, zC]
  refine wpAnyH_ready (rs := [4]) (by kernel_rfl) (by simp) ?_
  refine AllReadyH.cons (o := ⟨some 7, _, _, _, _, _⟩) rfl (fun K hK => ?_) AllReadyH.nil
  go_simp
  (go_at_call 37; (refine (itoa_any HP.out (HW.out.at HB)).mono ?_); rintro e w6 ⟨rfl, hb⟩)
  replace BF := Lib.hid (IBox.below BF.out hb (IBox.lt BF.out))
  replace HB := HB.trans (hb.mono HB.size)
  clear hb
  replace HS0 : w6.cell? ⟨N, 0, none⟩ = some (.int .i64 p) ∧ w6.cell? ⟨N, 1, none⟩ = some (.iface 31 (.int .i64 k)) := ⟨BF.out.cell 0, BF.out.cell 1⟩
  rw [PTE.out]
  refine hK.out _ _ HS0 (fun hS2 => ?_)
  clear hK K hS2
  try simp only [Act.put, zA, zB, zC]
  refine TKC 5 8 rfl ?_
  try simp only [Act.put, zA, zB, zC]
  refine wpAnyH_ready (rs := [10]) (by kernel_rfl) (by simp) ?_
  refine AllReadyH.cons (o := ⟨some 13, _, _, _, _, _⟩) rfl (fun K hK => ?_) AllReadyH.nil
  simp only [Region.wanted, if_true]
  refine op_invoke _ "Error" rfl (T := 31) (v := .int .i64 k) rfl _ (inv_code _ _) (HC.out _ HB) (fun w7 hb => ?_)
  replace BF := Lib.hid (IBox.below BF.out hb (IBox.lt BF.out))
  replace HB := HB.trans (hb.mono HB.size)
  clear hb
  replace HS0 : w7.cell? ⟨N, 0, none⟩ = some (.int .i64 p) ∧ w7.cell? ⟨N, 1, none⟩ = some (.iface 31 (.int .i64 k)) := ⟨BF.out.cell 0, BF.out.cell 1⟩
  refine hK.out _ _ HS0 (fun hS2 => ?_)
  clear hK K hS2
  try simp only [Act.put, zA, zB, zC]
  refine TKC 11 14 rfl ?_
  try simp only [Act.put, zA, zB, zC]
  refine TKC 12 2 rfl ?_
  try simp only [Act.put, zA, zB, zC]
  refine wpAnyH_done (by kernel_rfl) ?_ _
  clear HS0
  go_wp2
  go_ret
  exact ⟨congrArg (fun s => Ending.returned (.string s)) HFT.out, HB⟩
end Go.Proofs.YtbehakabglegjaaGreatDoor
