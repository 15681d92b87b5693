/- strings.Builder at this translation: a byte, a text is written; what else lies stays. Layer 9: a target is cut: does a byte stand here? -/
import Derived.Lib.Builder
import Derived.Lib.FrozenHead
import Derived.Lib.FrozenHead2
import Derived.Lib.OthersKept
import Derived.Laws.Externs
import Derived.Test.YtbehakabglegjaaGreatDoorQ09
import Derived.Test.YtbehakabglegjaaGreatDoorQ07
import Derived.Test.YtbehakabglegjaaGreatDoorQ05
import Derived.Test.YtbehakabglegjaaGreatDoorQZip
namespace Go.Proofs.YtbehakabglegjaaGreatDoor
open Go.RowKit Go.PlainAid
set_option linter.unusedVariables false
set_option linter.unusedSimpArgs false
abbrev At (r : Nat) : Value := .pointer (some ⟨r, 0, none⟩)
theorem info_builder : (Tryz.prog.info? 96).map (·.size) = some 2 := by kernel_rfl
theorem lies_builder : liesAt Tryz.prog Tryz.prog.depth 96 (2 / Tryz.prog.cellsOf 96) 0 96 1 = true := by kernel_rfl
set_option maxRecDepth 100000 in
theorem bcheck_used {b : Nat} {w : World} (h0 : w.cell? ⟨b, 0, none⟩ = some (.pointer (some ⟨b, 0, none⟩))) :
    Calls Tryz.prog 75 #[At b] w fun e w' => e = .returned (.tuple #[]) ∧ w' = w := by
  obtain ⟨j, hj, _⟩ := Option.map_eq_some_iff.1 info_builder
  go_enter Tryz.func75, Tryz.ntmps75
  go_wp2
  rw [Lib.run_neq_ptr_same w _ Tryz.underlying94 hj]
  go_wp2
  go_end0
  exact ⟨rfl, rfl⟩
set_option maxRecDepth 100000 in
theorem bcheck_fresh {b : Nat} {w : World} (h0 : w.cell? ⟨b, 0, none⟩ = some (.pointer none)) (hsh : w.shape? b = some (96, 2)) (hf : w.frozen? ⟨b, 0, none⟩ = false) :
    Calls Tryz.prog 75 #[At b] w fun e w' => e = .returned (.tuple #[]) ∧ w' = w.setCell ⟨b, 0, none⟩ (.pointer (some ⟨b, 0, none⟩)) := by
  obtain ⟨j, hj, hjs⟩ := Option.map_eq_some_iff.1 info_builder
  go_enter Tryz.func75, Tryz.ntmps75
  go_wp2
  rw [Lib.run_to_unsafe w ⟨b, 0, none⟩ Tryz.underlying94 Tryz.underlying140 hj (by rw [hjs]; decide) hsh (Nat.zero_lt_succ 1)]
  simp only [Result.andThen]
  rw [Oper.upon_value]
  go_wp2
  rw [run_callFunc_extern Tryz.func108 (by kernel_rfl) (by kernel_rfl) (by kernel_rfl) (e := Extern.AbiNoEscape.same) (by kernel_rfl)]
  rw [Lib.run_noEscape]
  simp only [Result.andThen]
  rw [Oper.upon_value]
  go_wp2
  rw [Lib.run_from_unsafe w ⟨b, 0, none⟩ Tryz.underlying140 Tryz.underlying94 hj hsh lies_builder]
  simp only [Result.andThen]
  rw [Oper.upon_value]
  go_wp2
  go_end0
  exact ⟨rfl, rfl⟩
abbrev BAt (B b : Nat) (bs : List Value) (w : World) : Prop := Lib.BuilderAtF 96 5 B b (At b) bs w
abbrev IsB (B b : Nat) (bs : List Value) (w : World) : Prop := Lib.IsBuilderF 96 5 B b bs w
/-- What lay below B is as it was, and so is every block but b that holds no bytes. -/
def KW (B b : Nat) (w w' : World) : Prop := Below B w w' ∧ ∀ (g : Nat) (T : TypeId) (arr : Array Value), T ≠ 5 → g ≠ b → IBox w g T arr → IBox w' g T arr
theorem KW.trans {B b : Nat} {x y z : World} (h : KW B b x y) (k : KW B b y z) : KW B b x z := ⟨h.1.trans k.1, fun g T arr hT hg hI => k.2 g T arr hT hg (h.2 g T arr hT hg hI)⟩
theorem KW.of {B b : Nat} {w w' : World} (h : Below w.heap.size w w') (hB : B ≤ w.heap.size) : KW B b w w' := ⟨h.mono hB, fun g T arr _ _ hI => IBox.below hI h hI.lt⟩
theorem KW.refl {B b : Nat} {w : World} (hB : B ≤ w.heap.size) : KW B b w w := KW.of (Below.refl _ _) hB
theorem KW.up {B b : Nat} {w w' : World} (h : KW B b w w') {n : Nat} (hn : n ≤ w.heap.size) : n ≤ w'.heap.size := Nat.le_trans hn h.1.size
theorem KW.set {B b : Nat} (w : World) (hb : B ≤ b) (j : Nat) (v : Value) : KW B b w (w.setCell ⟨b, j, none⟩ v) :=
  ⟨(Below.refl B w).setCell (p := ⟨b, j, none⟩) hb v, fun g T arr _ hg hI => (Below.heap_setCell w ⟨b, j, none⟩ v g (fun e => hg e)).trans hI⟩
theorem KW.grown {B b : Nat} {w w' : World} {v : Value} {n : Nat} {xs : List Value} (hO : w.ownsRowF B 5 1 v n xs) (h : w.grownBy w' v.ownBlock) (hB : B ≤ w.heap.size) : KW B b w w' := by
  refine ⟨(Below.refl B w).grown h hB fun k hk => (hO.lt k hk).1, fun g T arr hT _ hI => ?_⟩
  refine (h.block g hI.lt fun e => ?_).trans hI
  rcases hO.2 with ⟨rfl, _⟩ | ⟨g2, cap, cur, fz, rfl, _, hg, _⟩
  · cases e
  · have e2 : g = g2 := Option.some.inj e
    subst e2
    have h4 : w.heap[g]? = some (.cells arr T (0, 0)) := hI
    rw [h4] at hg
    cases hg
    exact hT rfl
theorem bcheckK {B b : Nat} {bs : List Value} {w : World} (h : IsB B b bs w) (hB : B ≤ w.heap.size) : Calls Tryz.prog 75 #[At b] w fun e w' => e = .returned (.tuple #[]) ∧ BAt B b bs w' ∧ KW B b w w' := by
  rcases h with h | h
  · refine (bcheck_fresh h.cell0 h.shape h.frozen0).mono ?_
    rintro e w' ⟨rfl, rfl⟩
    exact ⟨rfl, h.used _, KW.set w h.1 0 _⟩
  · refine (bcheck_used h.cell0).mono ?_
    rintro e w' ⟨rfl, rfl⟩
    exact ⟨rfl, h, KW.refl hB⟩
/-- A builder that is used, as the walk sees it. -/
theorem bat_parts {B b : Nat} {bs : List Value} {w : World} (h : BAt B b bs w) : ∃ ao cap, B ≤ b ∧ w.heap[b]? = some (.cells #[At b, .slice ao bs.length cap] 96 (0, 0)) ∧ w.ownsRowF B 5 1 (.slice ao bs.length cap) bs.length bs ∧ (Value.slice ao bs.length cap).ownBlock ≠ some b := by
  obtain ⟨hBb, v, hbk, hown, hne⟩ := h
  rcases hown.2 with ⟨hv, h0⟩ | ⟨g, cap, cur, fz, hv, _⟩
  · subst hv
    rw [h0] at *
    exact ⟨none, 0, hBb, hbk, hown, hne⟩
  · subst hv
    exact ⟨_, _, hBb, hbk, hown, hne⟩
theorem row_shape {w : World} {B : Nat} {v : Value} {n : Nat} {xs : List Value} (h : w.ownsRowF B 5 1 v n xs) : ∃ g cap, v = .slice g n cap := by
  rcases h.2 with ⟨hv, h0⟩ | ⟨g, cap, cur, fz, hv, _⟩
  · exact ⟨none, 0, by rw [hv, h0]⟩
  · exact ⟨_, _, hv⟩
theorem cell_of_one {w : World} {g : Nat} {t : TypeId} {v : Value} (h : IBox w g t #[v]) {j : Nat} {u : Value} (hu : [v][j]? = some u) : w.cell? ((⟨g, 0, none⟩ : Addr).add j) = some u := by
  have hadd : (⟨g, 0, none⟩ : Addr).add j = ⟨g, j, none⟩ := by unfold Addr.add; split <;> simp_all
  rw [hadd, IBox.cell h]
  simpa using hu
theorem wplF_one {ops : Array Oper} {rest : List Oper} {o : Oper} {a : Act} {w : World} {Q : Exit → Act → World → Prop} (hgd : o.guard = none) (s x : Operand) (t : TypeId) (ho : o.op = .call { callee := .builtin .append, args := #[s, x], argTypes := #[t, t] }) (ht : Tryz.prog.underlying t = some (.slice 5))
    (B : Nat) (v : Value) (n : Nat) (xs : List Value) (hs : a.eval s = v) (hown : w.ownsRowF B 5 1 v n xs) (g c : Nat) (p : Value) (ty : TypeId) (hx : a.eval x = .slice (some ⟨g, 0, none⟩) 1 c) (IB : IBox w g ty #[p]) (h1 : p.oneCell' = true) (hn : n + 1 ≤ 140737488355328) (hB : B ≤ w.heap.size)
    (h : ∀ v' w', w'.ownsRowF B 5 1 v' (n + 1) (xs ++ [p]) → w.grownBy w' v.ownBlock → wpList Tryz.prog ops Q rest (a.put o.dst v') w') : wpList Tryz.prog ops Q (o :: rest) a w := by
  obtain ⟨ie, hie1, hie2, hie3, hie4⟩ := u8_info
  refine Go.wpList_append_ownF w hgd s x t ho B 5 ie _ 1 1 ht hie1 hie2 hie3 hie4 rfl (by decide) v n xs hs hown ⟨g, 0, none⟩ 1 c [p] hx rfl (fun j u hu => cell_of_one IB hu) (fun u hu => by rw [List.mem_singleton.1 hu]; exact h1) (by unfold maxLen; omega) (by omega) hB ?_
  intro v' w' h2 h3 _
  exact h v' w' h2 h3
def wTop : Nat := 70368744177664
theorem u8Info : ∃ ie, Tryz.prog.info? 5 = some ie ∧ ie.zero = some (.int .u8 0) ∧ ie.size = 1 ∧ ie.bytes = 1 := u8_info
set_option maxRecDepth 100000 in
set_option maxHeartbeats 2000000 in
theorem wbyte_any {B b : Nat} {acc : List UInt8} {c : UInt8} {n : Int} {w : World} (hn : n = (c.toNat : Int)) (h : IsB B b (Lib.byteCells acc) w) (hlen : acc.length + 1 ≤ wTop) (hB : B ≤ w.heap.size) :
    Calls Tryz.prog 47 #[At b, .int .u8 n] w fun e w' => e = .returned .nilIface ∧ IsB B b (Lib.byteCells (acc ++ [c])) w' ∧ KW B b w w' := by
  obtain ⟨ie, hie1, hie2, hie3, hie4⟩ := u8Info
  have hL : (Lib.byteCells acc).length = acc.length := Lib.byteCells_length acc
  unfold wTop at hlen
  have HN := Lib.hid hn
  clear hn
  go_enter Tryz.func47, Tryz.ntmps47
  go_wp2_with (first
    | (go_at_call 75; (with_reducible refine (bcheckK h hB).mono ?_); rintro e w1 ⟨rfl, h1, hb1⟩; obtain ⟨ao, cap, hBb, hbk, hown, hne⟩ := bat_parts h1; rw [hL] at hbk hown hne; have hB1 := hb1.up hB; have c1 : w1.cell? ⟨b, 1, none⟩ = some (.slice ao acc.length cap) := (by rw [Lib.cell_of_heap hbk]; rfl))
    | ((with_reducible refine is_slice ?_); refine wpl_slice_at 1 [(0, .int .u8 n)] #[.int .u8 n] ie _ (by rw [hie3]; exact bfill1 _) rfl 23 5 _ rfl rfl Tryz.underlying23 hie1 hie2 (by rw [hie3]; decide) (by rw [hie3]; decide) ?_; intro w2 hw; have B9 := (hid_alloc hw).1; have hb2 := hid_grow hw; have hk2 := KW.of (b := b) hb2 hB1; have hB2 := hk2.up hB1; have hlt : b < w1.heap.size := (Array.getElem?_eq_some_iff.1 hbk).1; have hbk2 : w2.heap[b]? = some (.cells #[At b, .slice ao acc.length cap] 96 (0, 0)) := (hb2.block b hlt).trans hbk; have hown2 : w2.ownsRowF B 5 1 (.slice ao acc.length cap) acc.length (Lib.byteCells acc) := hown.kept (row := none) ⟨hb2.os, hb2.tape, hb2.output, hb2.size, fun k hk _ => hb2.block k hk⟩ (by cases hv : (Value.slice ao acc.length cap).ownBlock <;> simp); clear hw hb2 c1)
    | (refine wplF_one rfl (.tmp 11) (.tmp 13) 23 rfl Tryz.underlying23 B _ acc.length _ rfl hown2 _ _ (.int .u8 n) _ rfl B9 rfl (by omega) hB2 ?_; intro v3 w3 hown3 hgrow3; have hk3 := KW.grown (b := b) hown2 hgrow3 hB2; have hbk3 : w3.heap[b]? = some (.cells #[At b, .slice ao acc.length cap] 96 (0, 0)) := (hgrow3.block b (Array.getElem?_eq_some_iff.1 hbk2).1 (fun e => hne e.symm)).trans hbk2; obtain ⟨g3, cap3, rfl⟩ := row_shape hown3; have HO3 := Lib.hid hown3; have HG := Lib.hid hgrow3; clear hown3 hgrow3 B9; have d1 : w3.cell? ⟨b, 1, none⟩ = some (.slice ao acc.length cap) := (by rw [Lib.cell_of_heap hbk3]; rfl); have f1 : w3.frozen? ⟨b, 1, none⟩ = false := Lib.frozen_of_heap hbk3 1))
  go_ret
  refine ⟨rfl, Or.inr ?_, ((hb1.trans hk2).trans hk3).trans (KW.set w3 hBb 1 _)⟩
  refine Lib.BuilderAtF.put (T := 96) (e := 5) hBb hbk3 (bs' := Lib.byteCells (acc ++ [c])) ?_ (by decide)
  have h3 := HO3.out
  rw [HN.out] at h3
  rw [Lib.byteCells_length, List.length_append, Lib.byteCells_append]
  exact h3
end Go.Proofs.YtbehakabglegjaaGreatDoor
namespace Go.Proofs.YtbehakabglegjaaGreatDoor
open Go.RowKit Go.PlainAid
set_option linter.unusedVariables false
set_option linter.unusedSimpArgs false
def CtA (s : ByteArray) (k : Nat) : Array Value := #[.string s, .int .i64 (k : Int)]
abbrev CtM (w : World) (g : Nat) (s : ByteArray) (k : Nat) : Prop := IBox w g 91 (CtA s k)
theorem CtM.c0 {w : World} {g : Nat} {s : ByteArray} {k : Nat} (h : CtM w g s k) : w.cell? ⟨g, 0, none⟩ = some (.string s) := h.cell 0
theorem CtM.c1 {w : World} {g : Nat} {s : ByteArray} {k : Nat} (h : CtM w g s k) : w.cell? ⟨g, 1, none⟩ = some (.int .i64 (k : Int)) := h.cell 1
theorem bt_in {s : ByteArray} {i : Nat} {c : UInt8} (h : s.data.toList[i]? = some c) : bt s i = (c.toNat : Int) := by
  obtain ⟨h1, h2⟩ := List.getElem?_eq_some_iff.1 h
  unfold bt
  rw [dif_pos (show i < s.size from h1), ← h2]
  rfl
set_option maxRecDepth 100000 in
set_option maxHeartbeats 4000000 in
theorem end_no {g : Nat} {s : ByteArray} {k : Nat} {x : UInt8} {w : World} (B : CtM w g s k) (hk : s.size ≤ k) (hs : k ≤ 1099511627776) :
    Calls Tryz.prog 45 #[.pointer (some ⟨g, 0, none⟩), .int .u8 (x.toNat : Int)] w fun e w' => e = .returned (.bool false) ∧ Bes (· = g) w w' ∧ CtM w' g s k := by
  have hn : ¬ (k : Int) < (s.size : Int) := by omega
  go_enter Tryz.func45, Tryz.ntmps45
  go_wp2
  refine wp_region_S (S := fun w' => w'.cell? ⟨g, 0, none⟩ = some (.string s) ∧ w'.cell? ⟨g, 1, none⟩ = some (.int .i64 (k : Int))) (by kernel_rfl) (fun w2 hh => ⟨CtM.c0 (box_heap hh B), CtM.c1 (box_heap hh B)⟩) (fun w2 hh hbb HS0 => ?_)
  have HB : Bes (· = g) w w2 := Bes.of_below (hbb _ (Nat.le_refl _))
  replace B := box_heap hh B
  clear hh hbb
  refine TKC 0 5 rfl ?_
  try simp only [Act.put, zA, zB, zC]
  refine TKC 1 6 rfl ?_
  try simp only [Act.put, zA, zB, zC]
  refine TKC 2 7 rfl ?_
  try simp only [Act.put, zA, zB, zC]
  refine TKC 3 8 rfl ?_ (by (intro w hSw; (try dsimp only at hSw); have q1 := hSw.2; go_simp; try with_reducible rfl))
  try simp only [Act.put, zA, zB, zC]
  refine TKC 4 9 rfl ?_
  try simp only [Act.put, zA, zB, zC]
  refine TKC 5 10 rfl ?_
  try simp only [Act.put, zA, zB, zC]
  refine TKC 6 11 rfl ?_
  try simp only [Act.put, zA, zB, zC]
  refine TKC 7 12 rfl ?_ (by (intro w hSw; (try dsimp only at hSw); have q1 := hSw.1; go_simp; try with_reducible rfl))
  try simp only [Act.put, zA, zB, zC]
  refine TKC 8 13 rfl ?_
  try simp only [Act.put, zA, zB, zC]
  refine TKC 9 14 (v := .bool false) rfl ?_
  try simp only [Act.put, zA, zB, zC]
  refine TKC 10 15 rfl ?_
  try simp only [Act.put, zA, zB, zC]
  refine TKN 11 16 rfl ?_
  try simp only [Act.put, zA, zB, zC]
  refine TKN 12 17 rfl ?_
  try simp only [Act.put, zA, zB, zC]
  refine TKN 13 18 rfl ?_
  try simp only [Act.put, zA, zB, zC]
  refine TKN 14 19 rfl ?_
  try simp only [Act.put, zA, zB, zC]
  refine TKN 15 20 rfl ?_
  try simp only [Act.put, zA, zB, zC]
  refine TKN 16 21 rfl ?_
  try simp only [Act.put, zA, zB, zC]
  refine TKN 17 22 rfl ?_
  try simp only [Act.put, zA, zB, zC]
  refine TKN 18 23 rfl ?_
  try simp only [Act.put, zA, zB, zC]
  refine TKN 19 24 rfl ?_
  try simp only [Act.put, zA, zB, zC]
  refine TKN 20 25 rfl ?_
  try simp only [Act.put, zA, zB, zC]
  refine TKN 21 26 rfl ?_
  try simp only [Act.put, zA, zB, zC]
  refine TKC 22 27 rfl ?_
  try simp only [Act.put, zA, zB, zC]
  refine wpAnyH_done (by kernel_rfl) ?_ _
  have c0 := HS0.1
  have c1 := HS0.2
  clear HS0
  go_wp2
  go_ret
  exact ⟨rfl, HB, B⟩
set_option maxRecDepth 100000 in
set_option maxHeartbeats 4000000 in
theorem end_other {g : Nat} {s : ByteArray} {k : Nat} {x c : UInt8} {w : World} (B : CtM w g s k) (hc : (bl s)[k]? = some c) (hne : c ≠ x) (hs : s.size ≤ 1099511627776) :
    Calls Tryz.prog 45 #[.pointer (some ⟨g, 0, none⟩), .int .u8 (x.toNat : Int)] w fun e w' => e = .returned (.bool false) ∧ Bes (· = g) w w' ∧ CtM w' g s k := by
  have hxi : ((c.toNat : Int) == (x.toNat : Int)) = false := by
    rw [beq_eq_false_iff_ne]
    intro e
    exact hne (UInt8.toNat_inj.1 (by omega))
  have hlt : k < s.size := (List.getElem?_eq_some_iff.1 hc).1
  have hbs := get_bt s
  have hcb := bt_in hc
  have hi : (k : Int) < (s.size : Int) := by omega
  clear hc
  clear hne
  go_enter Tryz.func45, Tryz.ntmps45
  go_wp2
  refine wp_region_S (S := fun w' => w'.cell? ⟨g, 0, none⟩ = some (.string s) ∧ w'.cell? ⟨g, 1, none⟩ = some (.int .i64 (k : Int))) (by kernel_rfl) (fun w2 hh => ⟨CtM.c0 (box_heap hh B), CtM.c1 (box_heap hh B)⟩) (fun w2 hh hbb HS0 => ?_)
  have HB : Bes (· = g) w w2 := Bes.of_below (hbb _ (Nat.le_refl _))
  replace B := box_heap hh B
  clear hh hbb
  refine TKC 0 5 rfl ?_
  try simp only [Act.put, zA, zB, zC]
  refine TKC 1 6 rfl ?_
  try simp only [Act.put, zA, zB, zC]
  refine TKC 2 7 rfl ?_
  try simp only [Act.put, zA, zB, zC]
  refine TKC 3 8 rfl ?_ (by (intro w hSw; (try dsimp only at hSw); have q1 := hSw.2; go_simp; try with_reducible rfl))
  try simp only [Act.put, zA, zB, zC]
  refine TKC 4 9 rfl ?_
  try simp only [Act.put, zA, zB, zC]
  refine TKC 5 10 rfl ?_
  try simp only [Act.put, zA, zB, zC]
  refine TKC 6 11 rfl ?_
  try simp only [Act.put, zA, zB, zC]
  refine TKC 7 12 rfl ?_ (by (intro w hSw; (try dsimp only at hSw); have q1 := hSw.1; go_simp; try with_reducible rfl))
  try simp only [Act.put, zA, zB, zC]
  refine TKC 8 13 rfl ?_
  try simp only [Act.put, zA, zB, zC]
  refine TKC 9 14 (v := .bool true) rfl ?_
  try simp only [Act.put, zA, zB, zC]
  refine TKC 10 15 rfl ?_
  try simp only [Act.put, zA, zB, zC]
  refine TKC 11 16 rfl ?_
  try simp only [Act.put, zA, zB, zC]
  refine TKC 12 17 rfl ?_
  try simp only [Act.put, zA, zB, zC]
  refine TKC 13 18 rfl ?_
  try simp only [Act.put, zA, zB, zC]
  refine TKC 14 19 rfl ?_ (by (intro w hSw; (try dsimp only at hSw); have q1 := hSw.1; go_simp; try with_reducible rfl))
  try simp only [Act.put, zA, zB, zC]
  refine TKC 15 20 rfl ?_
  try simp only [Act.put, zA, zB, zC]
  refine TKC 16 21 rfl ?_
  try simp only [Act.put, zA, zB, zC]
  refine TKC 17 22 rfl ?_
  try simp only [Act.put, zA, zB, zC]
  refine TKC 18 23 rfl ?_ (by (intro w hSw; (try dsimp only at hSw); have q1 := hSw.2; go_simp; try with_reducible rfl))
  try simp only [Act.put, zA, zB, zC]
  refine TKC 19 24 rfl ?_
  try simp only [Act.put, zA, zB, zC]
  refine TKC 20 25 rfl ?_
  try simp only [Act.put, zA, zB, zC]
  refine TKC 21 26 rfl ?_
  try simp only [Act.put, zA, zB, zC]
  refine TKC 22 27 rfl ?_
  try simp only [Act.put, zA, zB, zC]
  refine wpAnyH_done (by kernel_rfl) ?_ _
  have c0 := HS0.1
  have c1 := HS0.2
  clear HS0
  go_wp2
  go_ret
  exact ⟨rfl, HB, B⟩
set_option maxRecDepth 100000 in
set_option maxHeartbeats 4000000 in
theorem end_yes {g : Nat} {s : ByteArray} {k : Nat} {c : UInt8} {w : World} (B : CtM w g s k) (hc : (bl s)[k]? = some c) (hs : s.size ≤ 1099511627776) :
    Calls Tryz.prog 45 #[.pointer (some ⟨g, 0, none⟩), .int .u8 (c.toNat : Int)] w fun e w' => e = .returned (.bool true) ∧ Bes (· = g) w w' ∧ CtM w' g s (k + 1) := by
  have hlt : k < s.size := (List.getElem?_eq_some_iff.1 hc).1
  have hbs := get_bt s
  have hcb := bt_in hc
  have hi : (k : Int) < (s.size : Int) := by omega
  clear hc
  go_enter Tryz.func45, Tryz.ntmps45
  go_wp2
  refine wp_region_S (S := fun w' => w'.cell? ⟨g, 0, none⟩ = some (.string s) ∧ w'.cell? ⟨g, 1, none⟩ = some (.int .i64 (k : Int))) (by kernel_rfl) (fun w2 hh => ⟨CtM.c0 (box_heap hh B), CtM.c1 (box_heap hh B)⟩) (fun w2 hh hbb HS0 => ?_)
  have HB : Bes (· = g) w w2 := Bes.of_below (hbb _ (Nat.le_refl _))
  replace B := box_heap hh B
  clear hh hbb
  refine TKC 0 5 rfl ?_
  try simp only [Act.put, zA, zB, zC]
  refine TKC 1 6 rfl ?_
  try simp only [Act.put, zA, zB, zC]
  refine TKC 2 7 rfl ?_
  try simp only [Act.put, zA, zB, zC]
  refine TKC 3 8 rfl ?_ (by (intro w hSw; (try dsimp only at hSw); have q1 := hSw.2; go_simp; try with_reducible rfl))
  try simp only [Act.put, zA, zB, zC]
  refine TKC 4 9 rfl ?_
  try simp only [Act.put, zA, zB, zC]
  refine TKC 5 10 rfl ?_
  try simp only [Act.put, zA, zB, zC]
  refine TKC 6 11 rfl ?_
  try simp only [Act.put, zA, zB, zC]
  refine TKC 7 12 rfl ?_ (by (intro w hSw; (try dsimp only at hSw); have q1 := hSw.1; go_simp; try with_reducible rfl))
  try simp only [Act.put, zA, zB, zC]
  refine TKC 8 13 rfl ?_
  try simp only [Act.put, zA, zB, zC]
  refine TKC 9 14 (v := .bool true) rfl ?_
  try simp only [Act.put, zA, zB, zC]
  refine TKC 10 15 rfl ?_
  try simp only [Act.put, zA, zB, zC]
  refine TKC 11 16 rfl ?_
  try simp only [Act.put, zA, zB, zC]
  refine TKC 12 17 rfl ?_
  try simp only [Act.put, zA, zB, zC]
  refine TKC 13 18 rfl ?_
  try simp only [Act.put, zA, zB, zC]
  refine TKC 14 19 rfl ?_ (by (intro w hSw; (try dsimp only at hSw); have q1 := hSw.1; go_simp; try with_reducible rfl))
  try simp only [Act.put, zA, zB, zC]
  refine TKC 15 20 rfl ?_
  try simp only [Act.put, zA, zB, zC]
  refine TKC 16 21 rfl ?_
  try simp only [Act.put, zA, zB, zC]
  refine TKC 17 22 rfl ?_
  try simp only [Act.put, zA, zB, zC]
  refine TKC 18 23 rfl ?_ (by (intro w hSw; (try dsimp only at hSw); have q1 := hSw.2; go_simp; try with_reducible rfl))
  try simp only [Act.put, zA, zB, zC]
  refine TKC 19 24 rfl ?_
  try simp only [Act.put, zA, zB, zC]
  refine TKC 20 25 rfl ?_
  try simp only [Act.put, zA, zB, zC]
  refine TKC 21 26 rfl ?_
  try simp only [Act.put, zA, zB, zC]
  refine TKC 22 27 rfl ?_
  try simp only [Act.put, zA, zB, zC]
  refine wpAnyH_done (by kernel_rfl) ?_ _
  have c0 := HS0.1
  have c1 := HS0.2
  clear HS0
  go_wp2_with (first
    | ((with_reducible refine is_store ?_); refine wpl_store_cell rfl 3 (.tmp 34) (.tmp 32) rfl g 1 rfl (.int .i64 ((k : Int) + 1)) rfl _ _ B (show 1 < 2 by decide) one_i rfl ?_; intro w3 hw; replace HB := HB.trans (Bes.row (X := fun q => q = g) hw rfl) (fun _ e => e) (fun _ _ e => e); replace B := hid_row hw B; clear hw c0 c1))
  go_ret
  exact ⟨rfl, HB, B⟩
end Go.Proofs.YtbehakabglegjaaGreatDoor
