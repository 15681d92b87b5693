/- Layer 9: what the statements ask of a fault: coveylaw00.Is. Layer 9: what the statements ask of an error: a fault at its place, a feed that is shut. The frame of a law's statement: a row's post, where the call only laid new blocks. From a row's reading of its arguments to what the walks take, with the bulk of the reading above their sizes. -/
import Derived.Test.YtbehakabglegjaaGreatDoorQ42
import Derived.OpenShut
import Derived.ShutString
import Derived.HandedShaped
import Derived.Test.YtbehakabglegjaaGreatDoorQ00
import Derived.ChangeArms
import Derived.WideKeyArgs
import Derived.Test.YtbehakabglegjaaGreatDoorQ25
import Derived.Test.YtbehakabglegjaaGreatDoorQ24
import Derived.Test.YtbehakabglegjaaGreatDoorQ02
import Derived.Test.YtbehakabglegjaaGreatDoorQZip
namespace Go.Proofs.YtbehakabglegjaaGreatDoor
section
open Go.RowKit Go.PlainAid Go.Extern.Stop Go.Stop Go.Extern
set_option linter.unusedVariables false
set_option linter.unusedSimpArgs false
set_option maxRecDepth 10000 in
set_option maxHeartbeats 4000000 in
/-- A fault with this place and this Code is one. -/
theorem fault_is {w : World} {g : Nat} {p c : Int} (hT : ErrTy w) (hT0 : 0 < w.heap.size) (hg : IBox w g 85 #[.int .i64 p, .iface 31 (.int .i64 c)]) :
    Calls Tryz.prog 51 #[.iface 83 (At g), .int .i64 p, .int .i64 c] w fun e w' => e = .returned (.bool true) ∧ Below w.heap.size w w' := by
  obtain ⟨i, hi, hcmp⟩ := Option.map_eq_some_iff.1 Tryz.faultComp
  obtain ⟨j, hj, hjs⟩ := Option.map_eq_some_iff.1 Tryz.faultSize
  have hnq := fun w => run_neq_iface_ptr_same (P := Tryz.prog) w (⟨g, 0, none⟩ : Addr) Tryz.underlying28 Tryz.underlying83 hi hcmp hj
  have heq := fun w => Lib.run_eql_iface_int (P := Tryz.prog) w (k := .i64) c c Tryz.underlying28 Tryz.codeComp Tryz.underlying31
  clear hcmp hj hjs hi
  have HB := Below.refl w.heap.size w
  go_enter Tryz.func51, Tryz.ntmps51
  go_wp2_with (first
    | ((with_reducible refine is_alloc ?_); refine wpl_alloc1 rfl 83 rfl (.pointer none) (fun _ => rfl) rfl ?_; intro wa hw; have hb := hid_grow hw; have BF := (hid_alloc hw).1; have hsa := Lib.hid (hid_alloc hw).2.1; clear hw; have HB0 := Lib.hid hb.size; replace HB := zT HB hb; replace hg := zI hg hb; have hT2 : ErrTy wa := hT.bes (Bes.of_below (X := fun _ => False) hb) (fun e => e); have hgn : g ≠ w.heap.size := box_ne hg BF (by decide); clear hb)
    | (go_at_call 88; go_must ((with_reducible refine (as_hit2 hT2 BF).mono ?_); rintro e w2 ⟨rfl, BF2, hbe⟩; replace hg := Bes.box hbe hg hgn; replace HB := HB.trans (hbe.below (fun q e => Nat.le_of_eq e.symm) HB0.out); have cf := BF2.cell 0; have cg0 := hg.cell 0; have cg1 := hg.cell 1; clear hbe))
    | (go_at_call 89; (with_reducible refine (is_code g c _ cg1).mono ?_); rintro e w3 ⟨rfl, rfl⟩))
  go_ret
  exact ⟨rfl, HB⟩
end
end Go.Proofs.YtbehakabglegjaaGreatDoor
namespace Go.Proofs.YtbehakabglegjaaGreatDoor
open Go.RowKit Go.PlainAid
set_option linter.unusedVariables false
set_option linter.unusedSimpArgs false
theorem refused_none (w : World) : Calls Tryz.prog 27 #[.nilIface, .int .i64 0, .int .i64 0] w fun e w' => e = .returned (.bool true) ∧ Below w.heap.size w w' := by
  go_enter Tryz.func27, Tryz.ntmps27
  go_wp2_with (go_at_call 12; (with_reducible refine (code_nil _).mono ?_); rintro e w1 ⟨rfl, rfl⟩)
  go_ret
  exact ⟨rfl, Below.refl _ _⟩
theorem refused_fault {w : World} {N : Nat} {p : Nat} {c : Int} (hc : c ≠ 0) (hT : ErrTy w) (hT0 : 0 < w.heap.size) (hg : IBox w N 85 (FaultA p c)) :
    Calls Tryz.prog 27 #[.iface 83 (.pointer (some ⟨N, 0, none⟩)), .int .i64 c, .int .i64 (p : Int)] w fun e w' => e = .returned (.bool true) ∧ Below w.heap.size w w' := by
  have hq : (c == 0) = false := by simpa using hc
  have hp : ¬ (p : Int) < 0 := by omega
  have HI := Lib.hid (fault_is hT hT0 hg)
  clear hT hT0 hg
  go_enter Tryz.func27, Tryz.ntmps27
  go_wp2_with (go_at_call 51; (with_reducible refine HI.out.mono ?_); rintro e w1 ⟨rfl, hb⟩)
  go_ret
  exact ⟨rfl, hb⟩
theorem code_30 (w : World) : Calls Tryz.prog 12 #[.iface 31 (.int .i64 30)] w fun e w' => e = .returned (.int .i64 30) ∧ w = w' := by
  have he := eql_code
  go_enter Tryz.func12, Tryz.ntmps12
  go_wp2
  go_ret
  exact ⟨rfl, rfl⟩
theorem refused_shut (w : World) : Calls Tryz.prog 27 #[.iface 31 (.int .i64 30), .int .i64 30, .int .i64 (-1)] w fun e w' => e = .returned (.bool true) ∧ Below w.heap.size w w' := by
  go_enter Tryz.func27, Tryz.ntmps27
  go_wp2_with (go_at_call 12; (with_reducible refine (code_30 _).mono ?_); rintro e w1 ⟨rfl, rfl⟩)
  go_ret
  exact ⟨rfl, Below.refl _ _⟩
end Go.Proofs.YtbehakabglegjaaGreatDoor
namespace Go.Proofs.YtbehakabglegjaaGreatDoor
open Go.RowKit
variable {H : Type} {enc : TypeId × Value → H} {P : Program}

theorem post_of_below {f : Func} {s : ChangeSpec} {apart fresh handsOn : Bool} {W W' : World} {args : Array Value} {v : Value} {ds gs : List (DataW H)} {before pa pv : List MemPlace}
    (hW : DataW.Whole enc P f.params.toList s.vars apart W args.toList ds gs before)
    (hres : ∀ (b : Nat) (sp : Nat → Bool) (hd : Bool), DataW.TrodAll enc P W' b sp hd f.resultTypes.toList (v.resultList f.resultTypes.size) (s.fn H (ds ++ gs)).results [])
    (hargs : ∀ sp : Nat → Bool, (∀ p ∈ before, sp p.block = true) → DataW.TrodAll enc P W' 0 sp true f.params.toList args.toList (s.fn H (ds ++ gs)).args pa)
    (hvars : ∀ sp : Nat → Bool, (∀ p ∈ before, sp p.block = true) → DataW.TrodVars enc P W' sp s.vars (s.fn H (ds ++ gs)).vars pv)
    (hps : before = pa ++ pv) (hb : Below W.heap.size W W') : s.post enc P f apart fresh handsOn false W args v W' := by
  have hold : ∀ p ∈ before, (fun b => decide (b < W.heap.size)) p.block = true := fun p hp => by simpa using hW.lt p hp
  refine ⟨ds, gs, before, [], pa, pv, hW, hres _ _ _, hargs _ hold, hvars _ hold, World.keptBut_mono (fun p hp => ⟨hp, ?_⟩) (hb.frame (· ∈ before)), fun h => by cases h⟩
  rw [hps, List.mem_append] at hp
  exact Or.inr hp

theorem own : ownKnob Tryz.prog.godebug = none := by kernel_rfl
end Go.Proofs.YtbehakabglegjaaGreatDoor
namespace Go.Proofs.YtbehakabglegjaaGreatDoor
open Go.RowKit
set_option linter.unusedVariables false
set_option linter.unusedSimpArgs false
/-- Sizes, as the bulk counts them. -/
def hdSz (l : List (ByteArray × ByteArray)) : Nat := (l.map fun p => p.1.size + p.2.size + 3).sum
def msSz (m : Ms) : Nat := m.meth.size + m.targ.size + m.reas.size + hdSz m.heads + m.body.length
def txSz (l : List ByteArray) : Nat := (l.map fun s => s.size + 1).sum
/-- Numbers, rows of bytes that can be read. -/
def InAt (w : World) (v : Value) (l : List Int) : Prop := ∃ A c, v = .slice A l.length c ∧ ∀ i n, l[i]? = some n → ∃ b off, A = some ⟨b, off, none⟩ ∧ w.cell? ⟨b, off + i, none⟩ = some (.int .i64 n)
def RwAt (w : World) (v : Value) (l : List (List UInt8)) : Prop := ∃ A c, v = .slice A l.length c ∧ ∀ i r, l[i]? = some r → ∃ b off u, A = some ⟨b, off, none⟩ ∧ w.cell? ⟨b, off + i, none⟩ = some u ∧ BtAt w u r ∧ CapOk u
/-- Messages among the arguments. -/
def MgsAt (w : World) (v : Value) (L : List Mm) : Prop := ∃ A c, v = .slice A L.length c ∧ ∀ (i : Nat) (x : Mm), L[i]? = some x → ∃ b off, A = some ⟨b, off, none⟩ ∧ w.rangeAt b (off + i * 6) x.cells.toList ∧ MgAt w x
theorem MgsAt.below {w w' : World} {v : Value} {L : List Mm} (h : MgsAt w v L) (hb : Below w.heap.size w w') : MgsAt w' v L := by
  obtain ⟨A, c, hv, hc⟩ := h
  refine ⟨A, c, hv, fun i x hx => ?_⟩
  obtain ⟨b, off, hA, h1, h2⟩ := hc i x hx
  exact ⟨b, off, hA, range_later hb h1, h2.below hb⟩
theorem bt_below {w w' : World} {v : Value} {l : List UInt8} (h : BtAt w v l) (hb : Below w.heap.size w w') : BtAt w' v l := h.bes (X := fun _ => False) (Bes.of_below hb) (fun _ _ z => z)
theorem RwAt.below {w w' : World} {v : Value} {l : List (List UInt8)} (h : RwAt w v l) (hb : Below w.heap.size w w') : RwAt w' v l := by
  obtain ⟨A, c, hv, hc⟩ := h
  refine ⟨A, c, hv, fun i r hr => ?_⟩
  obtain ⟨b, off, u, hA, h1, h2⟩ := hc i r hr
  exact ⟨b, off, u, hA, cell_later hb h1, bt_below h2.1 hb, h2.2⟩
theorem InAt.below {w w' : World} {v : Value} {l : List Int} (h : InAt w v l) (hb : Below w.heap.size w w') : InAt w' v l := by
  obtain ⟨A, c, hv, hc⟩ := h
  refine ⟨A, c, hv, fun i r hr => ?_⟩
  obtain ⟨b, off, hA, h1⟩ := hc i r hr
  exact ⟨b, off, hA, cell_later hb h1⟩
theorem sum_one {α : Type} : ∀ (l : List α), (l.map fun _ => 1).sum = l.length
  | [] => rfl
  | _ :: r => by rw [List.map_cons, List.sum_cons, sum_one r, List.length_cons]; omega
theorem bulk_sum {H : Type} {α : Type} (sz : α → Nat) : ∀ (l : List α) (D : List (DataW H)), l.length = D.length → (∀ (i : Nat) (a : α), l[i]? = some a → ∃ d, D[i]? = some d ∧ sz a ≤ Rows.uptoBulk d) → (l.map sz).sum ≤ Rows.uptoBulkAll D
  | [], _, _, _ => Nat.zero_le _
  | a :: r, [], h, _ => by cases h
  | a :: r, d :: D, h, hp => by
    have h0 : sz a ≤ Rows.uptoBulk d := by
      obtain ⟨d', e, h⟩ := hp 0 a rfl
      cases e
      exact h
    have := bulk_sum sz r D (by simpa using h) (fun i a ha => by have := hp (i + 1) a (by simpa using ha); simpa using this)
    rw [List.map_cons, List.sum_cons]
    simp only [Rows.uptoBulkAll]
    omega
theorem rd_exists_rows {α : Type} {p : Nat → α → Prop} : ∀ (n : Nat), (∀ i, i < n → ∃ j, p i j) → ∃ l : List α, l.length = n ∧ ∀ i j, l[i]? = some j → p i j
  | 0, _ => ⟨[], rfl, fun i j h => by simp at h⟩
  | n + 1, h => by
    obtain ⟨l, hl, hp⟩ := rd_exists_rows n (fun i hi => h i (by omega))
    obtain ⟨j, hj⟩ := h n (by omega)
    refine ⟨l ++ [j], by simp [hl], fun i x hx => ?_⟩
    rcases Nat.lt_or_ge i n with hlt | hge
    · rw [List.getElem?_append_left (by omega)] at hx
      exact hp i x hx
    · have hi : i < (l ++ [j]).length := (List.getElem?_eq_some_iff.1 hx).1
      rw [List.length_append, hl, List.length_singleton] at hi
      obtain rfl : i = n := by omega
      rw [List.getElem?_append_right (by omega), hl, Nat.sub_self] at hx
      have : j = x := by simpa using hx
      exact this ▸ hj
section
variable {w : World}
theorem range_cells {a : Addr} {k n : Nat} {cs : List Value} (hs : a.spot = none) (h : w.cells? 0 (a.add k) n = some cs) : cs.length = n ∧ w.rangeAt a.block (a.off + k) cs := by
  obtain ⟨_, hl, hc⟩ := World.cells?_some h
  refine ⟨hl, fun j v hv => ?_⟩
  have hj : j < n := by rw [← hl]; exact (List.getElem?_eq_some_iff.1 hv).1
  have e : (a.add k).add j = ⟨a.block, a.off + k + j, none⟩ := by
    obtain ⟨b, o, s⟩ := a
    simp only at hs
    subst hs
    unfold Addr.add
    split <;> split <;> simp_all
  have := hc j hj
  rw [e, hv] at this
  exact this
theorem spot_none {a : Addr} {n : Nat} {cs : List Value} (hn : 0 < n) (h : w.cells? 0 a n = some cs) : a.spot = none := by
  obtain ⟨_, hl, hc⟩ := World.cells?_some h
  have h0 := hc 0 hn
  have hcs : ∃ v, cs[0]? = some v := ⟨cs[0]'(by omega), List.getElem?_eq_getElem (by omega)⟩
  obtain ⟨v, hv⟩ := hcs
  rw [hv] at h0
  unfold Addr.add at h0
  simp only [if_true] at h0
  unfold World.cell? at h0
  split at h0
  · split at h0
    · cases h0
    · rename_i hsp
      cases hs : a.spot with
      | none => rfl
      | some s => rw [hs] at hsp; simp at hsp
  · cases h0
end

section
variable {H : Type} {enc : TypeId × Value → H} {w : World} {sp : Nat → Bool} {hd : Bool}
def Sized (t : TypeId) (d : DataW H) : Prop := ∀ k ∈ d.weights Tryz.prog t, k ≤ reachBytes
theorem weights_all_mem {e : TypeId} : ∀ {l : List (DataW H)} {d : DataW H}, d ∈ l → ∀ n ∈ d.weights Tryz.prog e, n ∈ DataW.weightsAll Tryz.prog e l
  | d' :: r, d, hd, n, hn => by
    simp only [DataW.weightsAll, List.mem_append]
    rcases List.mem_cons.1 hd with rfl | h
    · exact Or.inl hn
    · exact Or.inr (weights_all_mem h n hn)
theorem slice_read {t e : TypeId} (ht : Tryz.prog.underlying t = some (.slice e)) (hc : 0 < Tryz.prog.cellsOf e) {fuel : Nat} {cs : List Value} {x : DataW H × List MemPlace} (h : DataW.trod enc Tryz.prog w 0 sp hd fuel t cs = some x) (hz : Sized t x.1) :
    ∃ (A : Option Addr) (len cap : Nat) (D : List (DataW H)), cs = [.slice A len cap] ∧ D.length = len ∧ len ≤ cap ∧ Rows.uptoBulkAll D + 1 ≤ Rows.uptoBulk x.1 ∧ len * Tryz.prog.bytesOf e ≤ reachBytes ∧
      ∀ i, i < len → ∃ n cs' y b off, fuel = n + 1 ∧ A = some ⟨b, off, none⟩ ∧ cs'.length = Tryz.prog.cellsOf e ∧ w.rangeAt b (off + i * Tryz.prog.cellsOf e) cs' ∧ DataW.trod enc Tryz.prog w 0 sp hd n e cs' = some y ∧ D[i]? = some y.1 ∧ Sized e y.1 := by
  rcases DataW.trod_slice ht h with ⟨rfl, rfl⟩ | ⟨a, len, cap, elems, rest, n, rfl, rfl, rfl, _, hlc, _, hlen, hel, _, _⟩
  · exact ⟨none, 0, 0, [], rfl, rfl, Nat.le_refl _, by simp [Rows.uptoBulk, Rows.uptoBulkAll], by simp, fun i hi => absurd hi (by omega)⟩
  refine ⟨some a, len, cap, elems.map (·.1), rfl, by rw [List.length_map]; omega, hlc, by simp only [Rows.uptoBulk]; omega, ?_, fun i hi => ?_⟩
  · have := hz ((elems.length + rest.length) * Tryz.prog.bytesOf e) (by unfold DataW.weights; rw [ht]; simp)
    refine Nat.le_trans (Nat.mul_le_mul_right _ ?_) this
    omega
  · have key : ∀ i, i < len → ∃ cs' y, w.cells? 0 (a.add (i * Tryz.prog.cellsOf e)) (Tryz.prog.cellsOf e) = some cs' ∧ DataW.trod enc Tryz.prog w 0 sp hd n e cs' = some y ∧ elems[i]? = some y := fun i hi => by
      have h1 := hel i hi
      have h2 : elems[i]? = some (elems[i]'(by omega)) := List.getElem?_eq_getElem (by omega)
      rw [h2] at h1
      obtain ⟨cs', h3, h4⟩ := Option.bind_eq_some_iff.1 h1
      exact ⟨cs', _, h3, h4, h2⟩
    obtain ⟨cs0, y0, k0, _, _⟩ := key 0 (by omega)
    have hs : a.spot = none := by
      have := spot_none hc k0
      rwa [Nat.zero_mul, show a.add 0 = a from by unfold Addr.add; simp] at this
    obtain ⟨cs', y, k1, k2, k3⟩ := key i hi
    obtain ⟨hl, hr⟩ := range_cells hs k1
    refine ⟨n, cs', y, a.block, a.off, rfl, ?_, hl, hr, k2, by rw [List.getElem?_map, k3]; rfl, fun k hk => ?_⟩
    · obtain ⟨b, o, s⟩ := a
      simp only at hs
      rw [hs]
    · refine hz k ?_
      unfold DataW.weights
      rw [ht]
      refine List.mem_cons_of_mem _ (List.mem_append.2 (Or.inl (weights_all_mem ?_ k hk)))
      exact List.mem_map.2 ⟨y, List.mem_of_getElem? k3, rfl⟩
theorem cellsU : Tryz.prog.cellsOf 5 = 1 := by kernel_rfl
theorem cellsBs : Tryz.prog.cellsOf 23 = 1 := by kernel_rfl
theorem bytesU : 1 ≤ Tryz.prog.bytesOf 5 := of_decide_eq_true (by kernel_rfl)
theorem bytes_read {fuel : Nat} {cs : List Value} {x : DataW H × List MemPlace} (h : DataW.trod enc Tryz.prog w 0 sp hd fuel 23 cs = some x) (hz : Sized 23 x.1) :
    ∃ (v : Value) (L : List UInt8), cs = [v] ∧ (BtAt w v L ∧ CapOk v) ∧ L.length ≤ reachBytes ∧ L.length + 1 ≤ Rows.uptoBulk x.1 := by
  obtain ⟨A, n, c, D, rfl, hDl, hLC, hDb, hb, hel⟩ := slice_read Tryz.underlying23 (by rw [cellsU]; decide) h hz
  obtain ⟨L, hL, hp⟩ := rd_exists_rows (p := fun i (u : UInt8) => (∃ b off, A = some ⟨b, off, none⟩ ∧ w.cell? ⟨b, off + i, none⟩ = some (.int .u8 (u.toNat : Int))) ∧ ∃ d, D[i]? = some d ∧ 1 ≤ Rows.uptoBulk d) n (fun i hi => by
    obtain ⟨m, cs', y, b, off, _, rfl, _, hr, hy, hyd, hyz⟩ := hel i hi
    obtain ⟨k, rfl, hx, hw⟩ := DataW.trod_int Tryz.underlying5 hy
    have hk : 0 ≤ k ∧ k ≤ 255 := by
      simp only [Lit.wf, Bool.and_eq_true, decide_eq_true_eq] at hw
      exact hw
    rw [cellsU] at hr
    refine ⟨UInt8.ofNat k.toNat, ⟨b, off, rfl, ?_⟩, _, hyd, by rw [hx]; simp [Rows.uptoBulk]⟩
    have h0 := hr 0 _ rfl
    rw [Nat.mul_one, Nat.add_zero] at h0
    rw [h0, UInt8.toNat_ofNat']
    have : ((k.toNat % 2 ^ 8 : Nat) : Int) = k := by omega
    rw [this])
  subst hL
  have hbk := bulk_sum (fun _ : UInt8 => 1) L D hDl.symm (fun i a ha => (hp i a ha).2)
  rw [sum_one] at hbk
  exact ⟨_, L, rfl, ⟨⟨A, c, rfl, fun i u hi => (hp i u hi).1⟩, A, _, c, rfl, hLC⟩, Nat.le_trans (by have := Nat.mul_le_mul_left L.length bytesU; omega) hb, by omega⟩
theorem rows_read {fuel : Nat} {cs : List Value} {x : DataW H × List MemPlace} (h : DataW.trod enc Tryz.prog w 0 sp hd fuel 61 cs = some x) (hz : Sized 61 x.1) :
    ∃ (v : Value) (L : List (List UInt8)), cs = [v] ∧ RwAt w v L ∧ (L.map fun r => r.length + 1).sum + 1 ≤ Rows.uptoBulk x.1 := by
  obtain ⟨A, n, c, D, rfl, hDl, hLC, hDb, hb, hel⟩ := slice_read Tryz.underlying61 (by rw [cellsBs]; decide) h hz
  obtain ⟨L, hL, hp⟩ := rd_exists_rows (p := fun i (r : List UInt8) => (∃ b off u, A = some ⟨b, off, none⟩ ∧ w.cell? ⟨b, off + i, none⟩ = some u ∧ BtAt w u r ∧ CapOk u) ∧ ∃ d, D[i]? = some d ∧ r.length + 1 ≤ Rows.uptoBulk d) n (fun i hi => by
    obtain ⟨m, cs', y, b, off, _, rfl, _, hr, hy, hyd, hyz⟩ := hel i hi
    obtain ⟨u, r, rfl, hs, _, hu⟩ := bytes_read hy hyz
    rw [cellsBs] at hr
    exact ⟨r, ⟨b, off, u, rfl, by simpa using hr 0 _ rfl, hs⟩, _, hyd, hu⟩)
  subst hL
  have hbk := bulk_sum (fun r : List UInt8 => r.length + 1) L D hDl.symm (fun i a ha => (hp i a ha).2)
  exact ⟨_, L, rfl, ⟨A, c, rfl, fun i p hi => (hp i p hi).1⟩, by omega⟩
end
section
variable {H : Type} {enc : TypeId × Value → H} {w : World}
def BtC (w : World) (v : Value) (l : List UInt8) : Prop := BtAt w v l ∧ CapOk v
set_option maxRecDepth 10000 in
theorem open_rows {v : Value} {d : DataW H} {ps : List MemPlace} {b0 : Nat} (hval : Value.okWide Tryz.prog w .any b0 61 v) (h : DataW.Trod enc Tryz.prog w 0 (fun _ => true) true 61 v d ps) (hz : Sized 61 d) : ∃ L : List (List UInt8), RwAt w v L ∧ (L.map fun r => r.length + 1).sum + 1 ≤ Rows.uptoBulk d := by
  obtain ⟨fuel, hf⟩ := h
  obtain ⟨u, L, he, hb, hl⟩ := rows_read hf hz
  refine ⟨L, ?_, hl⟩
  obtain ⟨A, c, rfl, _⟩ := id hb
  cases v with
  | agg cs => simp [Value.okWide, Tryz.underlying61, Cell.okWide, Cell.ok] at hval
  | slice a b cc =>
    have : Value.slice a b cc = .slice A L.length c := by simpa [Value.cells] using he
    rw [this]
    exact hb
  | _ => simp [Value.cells] at he
theorem laidT : laidOutB Tryz.prog = true := by kernel_rfl
/-- An argument reads behind the call as it read before: nothing below the old heap's end has changed. -/
theorem again {t : TypeId} (hr : Tryz.prog.readableRec t = true) (hrow : t < Tryz.prog.types.size) {W W' : World} {v : Value} {d : DataW H} {p before : List MemPlace} (h : DataW.Trod enc Tryz.prog W 0 (fun _ => true) true t v d p)
    (hb : Below W.heap.size W W') (hlt : ∀ q ∈ before, q.block < W.heap.size) (hin : ∀ q ∈ p, q ∈ before) {sp : Nat → Bool} (hs : ∀ q ∈ before, sp q.block = true) : DataW.Trod enc Tryz.prog W' 0 sp true t v d p :=
  WideElems.Trod_stays laidT hr hrow h (fun q hq => hb.same (hlt q (hin q hq))) (fun q hq => hs q (hin q hq))
end
end Go.Proofs.YtbehakabglegjaaGreatDoor
