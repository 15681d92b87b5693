/- strings.Builder at this translation: a byte, a text is written; what else lies stays. Layer 9: a feed's token is taken; a feed begins anew. Words for drawn regions: an operation taken first, in one short line. Words for drawn regions: an operation that is not wanted is passed over. -/
import Derived.Lib.Builder
import Derived.Lib.FrozenHead
import Derived.Lib.FrozenHead2
import Derived.Lib.OthersKept
import Derived.Laws.Externs
import Derived.Test.YtbehakabglegjaaGreatDoorQ06
import Derived.PlainAid
import Derived.Test.YtbehakabglegjaaGreatDoorQ05
import Derived.Test.YtbehakabglegjaaGreatDoorQ00
import Derived.Deep.RegionHeld3
import Derived.Deep.QuietTactic
namespace Go.Proofs.YtbehakabglegjaaGreatDoor
open Go.RowKit Go.PlainAid
set_option linter.unusedVariables false
set_option linter.unusedSimpArgs false
abbrev At (r : Nat) : Value := .pointer (some ⟨r, 0, none⟩)
theorem info_builder : (Tryz.prog.info? 96).map (·.size) = some 2 := by kernel_rfl
theorem lies_builder : liesAt Tryz.prog Tryz.prog.depth 96 (2 / Tryz.prog.cellsOf 96) 0 96 1 = true := by kernel_rfl
set_option maxRecDepth 100000 in
theorem bcheck_used {b : Nat} {w : World} (h0 : w.cell? ⟨b, 0, none⟩ = some (.pointer (some ⟨b, 0, none⟩))) :
    Calls Tryz.prog 75 #[At b] w fun e w' => e = .returned (.tuple #[]) ∧ w' = w := by
  obtain ⟨j, hj, _⟩ := Option.map_eq_some_iff.1 info_builder
  go_enter Tryz.func75, Tryz.ntmps75
  go_wp2
  rw [Lib.run_neq_ptr_same w _ Tryz.underlying94 hj]
  go_wp2
  go_end0
  exact ⟨rfl, rfl⟩
set_option maxRecDepth 100000 in
theorem bcheck_fresh {b : Nat} {w : World} (h0 : w.cell? ⟨b, 0, none⟩ = some (.pointer none)) (hsh : w.shape? b = some (96, 2)) (hf : w.frozen? ⟨b, 0, none⟩ = false) :
    Calls Tryz.prog 75 #[At b] w fun e w' => e = .returned (.tuple #[]) ∧ w' = w.setCell ⟨b, 0, none⟩ (.pointer (some ⟨b, 0, none⟩)) := by
  obtain ⟨j, hj, hjs⟩ := Option.map_eq_some_iff.1 info_builder
  go_enter Tryz.func75, Tryz.ntmps75
  go_wp2
  rw [Lib.run_to_unsafe w ⟨b, 0, none⟩ Tryz.underlying94 Tryz.underlying140 hj (by rw [hjs]; decide) hsh (Nat.zero_lt_succ 1)]
  simp only [Result.andThen]
  rw [Oper.upon_value]
  go_wp2
  rw [run_callFunc_extern Tryz.func108 (by kernel_rfl) (by kernel_rfl) (by kernel_rfl) (e := Extern.AbiNoEscape.same) (by kernel_rfl)]
  rw [Lib.run_noEscape]
  simp only [Result.andThen]
  rw [Oper.upon_value]
  go_wp2
  rw [Lib.run_from_unsafe w ⟨b, 0, none⟩ Tryz.underlying140 Tryz.underlying94 hj hsh lies_builder]
  simp only [Result.andThen]
  rw [Oper.upon_value]
  go_wp2
  go_end0
  exact ⟨rfl, rfl⟩
abbrev BAt (B b : Nat) (bs : List Value) (w : World) : Prop := Lib.BuilderAtF 96 5 B b (At b) bs w
abbrev IsB (B b : Nat) (bs : List Value) (w : World) : Prop := Lib.IsBuilderF 96 5 B b bs w
/-- What lay below B is as it was, and so is every block but b that holds no bytes. -/
def KW (B b : Nat) (w w' : World) : Prop := Below B w w' ∧ ∀ (g : Nat) (T : TypeId) (arr : Array Value), T ≠ 5 → g ≠ b → IBox w g T arr → IBox w' g T arr
theorem KW.trans {B b : Nat} {x y z : World} (h : KW B b x y) (k : KW B b y z) : KW B b x z := ⟨h.1.trans k.1, fun g T arr hT hg hI => k.2 g T arr hT hg (h.2 g T arr hT hg hI)⟩
theorem KW.of {B b : Nat} {w w' : World} (h : Below w.heap.size w w') (hB : B ≤ w.heap.size) : KW B b w w' := ⟨h.mono hB, fun g T arr _ _ hI => IBox.below hI h hI.lt⟩
theorem KW.refl {B b : Nat} {w : World} (hB : B ≤ w.heap.size) : KW B b w w := KW.of (Below.refl _ _) hB
theorem KW.up {B b : Nat} {w w' : World} (h : KW B b w w') {n : Nat} (hn : n ≤ w.heap.size) : n ≤ w'.heap.size := Nat.le_trans hn h.1.size
theorem KW.set {B b : Nat} (w : World) (hb : B ≤ b) (j : Nat) (v : Value) : KW B b w (w.setCell ⟨b, j, none⟩ v) :=
  ⟨(Below.refl B w).setCell (p := ⟨b, j, none⟩) hb v, fun g T arr _ hg hI => (Below.heap_setCell w ⟨b, j, none⟩ v g (fun e => hg e)).trans hI⟩
theorem KW.grown {B b : Nat} {w w' : World} {v : Value} {n : Nat} {xs : List Value} (hO : w.ownsRowF B 5 1 v n xs) (h : w.grownBy w' v.ownBlock) (hB : B ≤ w.heap.size) : KW B b w w' := by
  refine ⟨(Below.refl B w).grown h hB fun k hk => (hO.lt k hk).1, fun g T arr hT _ hI => ?_⟩
  refine (h.block g hI.lt fun e => ?_).trans hI
  rcases hO.2 with ⟨rfl, _⟩ | ⟨g2, cap, cur, fz, rfl, _, hg, _⟩
  · cases e
  · have e2 : g = g2 := Option.some.inj e
    subst e2
    have h4 : w.heap[g]? = some (.cells arr T (0, 0)) := hI
    rw [h4] at hg
    cases hg
    exact hT rfl
theorem bcheckK {B b : Nat} {bs : List Value} {w : World} (h : IsB B b bs w) (hB : B ≤ w.heap.size) : Calls Tryz.prog 75 #[At b] w fun e w' => e = .returned (.tuple #[]) ∧ BAt B b bs w' ∧ KW B b w w' := by
  rcases h with h | h
  · refine (bcheck_fresh h.cell0 h.shape h.frozen0).mono ?_
    rintro e w' ⟨rfl, rfl⟩
    exact ⟨rfl, h.used _, KW.set w h.1 0 _⟩
  · refine (bcheck_used h.cell0).mono ?_
    rintro e w' ⟨rfl, rfl⟩
    exact ⟨rfl, h, KW.refl hB⟩
/-- A builder that is used, as the walk sees it. -/
theorem bat_parts {B b : Nat} {bs : List Value} {w : World} (h : BAt B b bs w) : ∃ ao cap, B ≤ b ∧ w.heap[b]? = some (.cells #[At b, .slice ao bs.length cap] 96 (0, 0)) ∧ w.ownsRowF B 5 1 (.slice ao bs.length cap) bs.length bs ∧ (Value.slice ao bs.length cap).ownBlock ≠ some b := by
  obtain ⟨hBb, v, hbk, hown, hne⟩ := h
  rcases hown.2 with ⟨hv, h0⟩ | ⟨g, cap, cur, fz, hv, _⟩
  · subst hv
    rw [h0] at *
    exact ⟨none, 0, hBb, hbk, hown, hne⟩
  · subst hv
    exact ⟨_, _, hBb, hbk, hown, hne⟩
theorem row_shape {w : World} {B : Nat} {v : Value} {n : Nat} {xs : List Value} (h : w.ownsRowF B 5 1 v n xs) : ∃ g cap, v = .slice g n cap := by
  rcases h.2 with ⟨hv, h0⟩ | ⟨g, cap, cur, fz, hv, _⟩
  · exact ⟨none, 0, by rw [hv, h0]⟩
  · exact ⟨_, _, hv⟩
theorem cell_of_one {w : World} {g : Nat} {t : TypeId} {v : Value} (h : IBox w g t #[v]) {j : Nat} {u : Value} (hu : [v][j]? = some u) : w.cell? ((⟨g, 0, none⟩ : Addr).add j) = some u := by
  have hadd : (⟨g, 0, none⟩ : Addr).add j = ⟨g, j, none⟩ := by unfold Addr.add; split <;> simp_all
  rw [hadd, IBox.cell h]
  simpa using hu
theorem wplF_one {ops : Array Oper} {rest : List Oper} {o : Oper} {a : Act} {w : World} {Q : Exit → Act → World → Prop} (hgd : o.guard = none) (s x : Operand) (t : TypeId) (ho : o.op = .call { callee := .builtin .append, args := #[s, x], argTypes := #[t, t] }) (ht : Tryz.prog.underlying t = some (.slice 5))
    (B : Nat) (v : Value) (n : Nat) (xs : List Value) (hs : a.eval s = v) (hown : w.ownsRowF B 5 1 v n xs) (g c : Nat) (p : Value) (ty : TypeId) (hx : a.eval x = .slice (some ⟨g, 0, none⟩) 1 c) (IB : IBox w g ty #[p]) (h1 : p.oneCell' = true) (hn : n + 1 ≤ 140737488355328) (hB : B ≤ w.heap.size)
    (h : ∀ v' w', w'.ownsRowF B 5 1 v' (n + 1) (xs ++ [p]) → w.grownBy w' v.ownBlock → wpList Tryz.prog ops Q rest (a.put o.dst v') w') : wpList Tryz.prog ops Q (o :: rest) a w := by
  obtain ⟨ie, hie1, hie2, hie3, hie4⟩ := u8_info
  refine Go.wpList_append_ownF w hgd s x t ho B 5 ie _ 1 1 ht hie1 hie2 hie3 hie4 rfl (by decide) v n xs hs hown ⟨g, 0, none⟩ 1 c [p] hx rfl (fun j u hu => cell_of_one IB hu) (fun u hu => by rw [List.mem_singleton.1 hu]; exact h1) (by unfold maxLen; omega) (by omega) hB ?_
  intro v' w' h2 h3 _
  exact h v' w' h2 h3
def wTop : Nat := 70368744177664
theorem u8Info : ∃ ie, Tryz.prog.info? 5 = some ie ∧ ie.zero = some (.int .u8 0) ∧ ie.size = 1 ∧ ie.bytes = 1 := u8_info
set_option maxRecDepth 100000 in
set_option maxHeartbeats 2000000 in
theorem wbyte_any {B b : Nat} {acc : List UInt8} {c : UInt8} {n : Int} {w : World} (hn : n = (c.toNat : Int)) (h : IsB B b (Lib.byteCells acc) w) (hlen : acc.length + 1 ≤ wTop) (hB : B ≤ w.heap.size) :
    Calls Tryz.prog 47 #[At b, .int .u8 n] w fun e w' => e = .returned .nilIface ∧ IsB B b (Lib.byteCells (acc ++ [c])) w' ∧ KW B b w w' := by
  obtain ⟨ie, hie1, hie2, hie3, hie4⟩ := u8Info
  have hL : (Lib.byteCells acc).length = acc.length := Lib.byteCells_length acc
  unfold wTop at hlen
  have HN := Lib.hid hn
  clear hn
  go_enter Tryz.func47, Tryz.ntmps47
  go_wp2_with (first
    | (go_at_call 75; (with_reducible refine (bcheckK h hB).mono ?_); rintro e w1 ⟨rfl, h1, hb1⟩; obtain ⟨ao, cap, hBb, hbk, hown, hne⟩ := bat_parts h1; rw [hL] at hbk hown hne; have hB1 := hb1.up hB; have c1 : w1.cell? ⟨b, 1, none⟩ = some (.slice ao acc.length cap) := (by rw [Lib.cell_of_heap hbk]; rfl))
    | ((with_reducible refine is_slice ?_); refine wpl_slice_at 1 [(0, .int .u8 n)] #[.int .u8 n] ie _ (by rw [hie3]; exact bfill1 _) rfl 23 5 _ rfl rfl Tryz.underlying23 hie1 hie2 (by rw [hie3]; decide) (by rw [hie3]; decide) ?_; intro w2 hw; have B9 := (hid_alloc hw).1; have hb2 := hid_grow hw; have hk2 := KW.of (b := b) hb2 hB1; have hB2 := hk2.up hB1; have hlt : b < w1.heap.size := (Array.getElem?_eq_some_iff.1 hbk).1; have hbk2 : w2.heap[b]? = some (.cells #[At b, .slice ao acc.length cap] 96 (0, 0)) := (hb2.block b hlt).trans hbk; have hown2 : w2.ownsRowF B 5 1 (.slice ao acc.length cap) acc.length (Lib.byteCells acc) := hown.kept (row := none) ⟨hb2.os, hb2.tape, hb2.output, hb2.size, fun k hk _ => hb2.block k hk⟩ (by cases hv : (Value.slice ao acc.length cap).ownBlock <;> simp); clear hw hb2 c1)
    | (refine wplF_one rfl (.tmp 11) (.tmp 13) 23 rfl Tryz.underlying23 B _ acc.length _ rfl hown2 _ _ (.int .u8 n) _ rfl B9 rfl (by omega) hB2 ?_; intro v3 w3 hown3 hgrow3; have hk3 := KW.grown (b := b) hown2 hgrow3 hB2; have hbk3 : w3.heap[b]? = some (.cells #[At b, .slice ao acc.length cap] 96 (0, 0)) := (hgrow3.block b (Array.getElem?_eq_some_iff.1 hbk2).1 (fun e => hne e.symm)).trans hbk2; obtain ⟨g3, cap3, rfl⟩ := row_shape hown3; have HO3 := Lib.hid hown3; have HG := Lib.hid hgrow3; clear hown3 hgrow3 B9; have d1 : w3.cell? ⟨b, 1, none⟩ = some (.slice ao acc.length cap) := (by rw [Lib.cell_of_heap hbk3]; rfl); have f1 : w3.frozen? ⟨b, 1, none⟩ = false := Lib.frozen_of_heap hbk3 1))
  go_ret
  refine ⟨rfl, Or.inr ?_, ((hb1.trans hk2).trans hk3).trans (KW.set w3 hBb 1 _)⟩
  refine Lib.BuilderAtF.put (T := 96) (e := 5) hBb hbk3 (bs' := Lib.byteCells (acc ++ [c])) ?_ (by decide)
  have h3 := HO3.out
  rw [HN.out] at h3
  rw [Lib.byteCells_length, List.length_append, Lib.byteCells_append]
  exact h3
set_option maxRecDepth 100000 in
set_option maxHeartbeats 2000000 in
theorem wtext_any {B b : Nat} {acc : List UInt8} {s : ByteArray} {w : World} (h : IsB B b (Lib.byteCells acc) w) (hlen : acc.length + s.size ≤ wTop) (hB : B ≤ w.heap.size) :
    Calls Tryz.prog 76 #[At b, .string s] w fun e w' => e = .returned (.tuple #[.int .i64 s.size, .nilIface]) ∧ IsB B b (Lib.byteCells (acc ++ s.data.toList)) w' ∧ KW B b w w' := by
  obtain ⟨ie, hie1, hie2, hie3, hie4⟩ := u8Info
  have hL : (Lib.byteCells acc).length = acc.length := Lib.byteCells_length acc
  unfold wTop at hlen
  go_enter Tryz.func76, Tryz.ntmps76
  go_wp2_with (first
    | (go_at_call 75; (with_reducible refine (bcheckK h hB).mono ?_); rintro e w1 ⟨rfl, h1, hb1⟩; obtain ⟨ao, cap, hBb, hbk, hown, hne⟩ := bat_parts h1; rw [hL] at hbk hown hne; have hB1 := hb1.up hB; have c1 : w1.cell? ⟨b, 1, none⟩ = some (.slice ao acc.length cap) := (by rw [Lib.cell_of_heap hbk]; rfl))
    | (refine Go.Lib.wpList_append_own_stringF _ rfl (.tmp 12) (.tmp 13) 23 9 rfl B 5 ie Tryz.underlying23 Tryz.underlying9 hie1 hie2 hie3 hie4 _ acc.length _ rfl hown s rfl (by unfold maxLen; omega) (by omega) hB1 ?_; intro v3 w3 hown3 hgrow3 _; have hk3 := KW.grown (b := b) hown hgrow3 hB1; have hbk3 : w3.heap[b]? = some (.cells #[At b, .slice ao acc.length cap] 96 (0, 0)) := (hgrow3.block b (Array.getElem?_eq_some_iff.1 hbk).1 (fun e => hne e.symm)).trans hbk; obtain ⟨g3, cap3, rfl⟩ := row_shape hown3; have HO3 := Lib.hid hown3; have HG := Lib.hid hgrow3; clear hown3 hgrow3 c1; have d1 : w3.cell? ⟨b, 1, none⟩ = some (.slice ao acc.length cap) := (by rw [Lib.cell_of_heap hbk3]; rfl); have f1 : w3.frozen? ⟨b, 1, none⟩ = false := Lib.frozen_of_heap hbk3 1))
  go_ret2
  refine ⟨rfl, Or.inr ?_, (hb1.trans hk3).trans (KW.set w3 hBb 1 _)⟩
  refine Lib.BuilderAtF.put (T := 96) (e := 5) hBb hbk3 (bs' := Lib.byteCells (acc ++ s.data.toList)) ?_ (by decide)
  have h3 := HO3.out
  rw [Lib.byteCells_length, List.length_append, Lib.byteCells_append, show s.data.toList.length = s.size by simp]
  exact h3
end Go.Proofs.YtbehakabglegjaaGreatDoor
namespace Go.Proofs.YtbehakabglegjaaGreatDoor
open Go.RowKit Go.PlainAid
set_option linter.unusedVariables false
set_option linter.unusedSimpArgs false
theorem one_sb : (Tryz.prog.info? 23).map (·.size) = some 1 := by kernel_rfl
theorem one_sm : (Tryz.prog.info? 39).map (·.size) = some 1 := by kernel_rfl
theorem one_sh : (Tryz.prog.info? 22).map (·.size) = some 1 := by kernel_rfl
theorem one_i : (Tryz.prog.info? 3).map (·.size) = some 1 := by kernel_rfl
theorem one_b : (Tryz.prog.info? 4).map (·.size) = some 1 := by kernel_rfl
theorem one_s : (Tryz.prog.info? 9).map (·.size) = some 1 := by kernel_rfl
theorem one_st : (Tryz.prog.info? 79).map (·.size) = some 1 := by kernel_rfl
/-- A cell of the feed's box. -/
theorem FdM.cell {base : Bs} {g : Nat} {F : Fs} {nx tk hs bd wh : Value} {L : List Mm} {w : World} (h : FdM base g F nx tk hs bd wh L w) (k : Nat) : w.cell? ⟨g, k, none⟩ = (FdC F nx tk hs bd wh)[k]? := h.1.cell k
/-- Another value in one cell. -/
theorem FdM.put {base : Bs} {g : Nat} {F G : Fs} {nx tk hs bd wh nx' tk' hs' bd' wh' : Value} {L : List Mm} {w w' : World} {k : Nat} {v : Value} (h : FdM base g F nx tk hs bd wh L w) (hw : Hid (w' = w.setRow g ((FdC F nx tk hs bd wh).setIfInBounds k v)))
    (e : (FdC F nx tk hs bd wh).setIfInBounds k v = FdC G nx' tk' hs' bd' wh') (hr : FdR base g G tk' hs' bd' wh' L w') : FdM base g G nx' tk' hs' bd' wh' L w' :=
  ⟨e ▸ hid_row hw h.1, hr⟩
theorem own_cut {w : World} {base : Nat} {A : Option Addr} {n c : Nat} {l : List UInt8} (h : w.ownsRow base 5 1 (.slice A n c) l.length (Lib.byteCells l)) : OwnB w base (.slice A 0 c) [] := by
  refine ⟨rfl, ?_⟩
  rcases h.2 with ⟨hv, h0⟩ | ⟨g, cap, cur, hv, hb, hg, hn, hc, hs, ht⟩
  · injection hv with e1 e2 e3
    subst e1 e3
    exact .inl ⟨rfl, rfl⟩
  · injection hv with e1 e2 e3
    subst e1 e3
    exact .inr ⟨g, c, cur, rfl, hb, hg, Nat.zero_le _, hc, hs, by simp [Lib.byteCells]⟩
theorem bt_slice {w : World} {base : Nat} {v : Value} {l : List UInt8} (h : OwnB w base v l) : ∃ A c, v = .slice A l.length c := by
  obtain ⟨A, c, hv, _⟩ := own_slice h
  exact ⟨A, c, hv⟩
theorem FdR.bl {base : Bs} {g : Nat} {F : Fs} {tk hs bd wh : Value} {L : List Mm} {w : World} (h : FdR base g F tk hs bd wh L w) : base.n ≤ w.heap.size := Nat.le_of_lt (Nat.lt_of_le_of_lt h.gl.1 h.gl.2)
theorem FdR.store {base : Bs} {g : Nat} {F : Fs} {tk hs bd wh : Value} {L : List Mm} {w w' : World} {arr : Array Value} (h : FdR base g F tk hs bd wh L w) (hw : Hid (w' = w.setRow g arr)) : Bl base w w' :=
  Bl.bes (X := fun q => q = g) (Bes.row hw rfl) (fun q e => by rw [show q = g from e]; exact ⟨h.gl.1, h.off g (.inl rfl)⟩) h.bl h.avl
section
variable {F : Fs} {nx tk hs bd wh : Value}
theorem FdC_1 (b : Bool) : (FdC F nx tk hs bd wh).setIfInBounds 1 (.bool b) = FdC { F with shut := b } nx tk hs bd wh := rfl
theorem FdC_2 (n : Nat) : (FdC F nx tk hs bd wh).setIfInBounds 2 (.int .i64 (n : Int)) = FdC { F with pos := n } nx tk hs bd wh := rfl
theorem FdC_3 (n : Int) : (FdC F nx tk hs bd wh).setIfInBounds 3 (.int .i64 n) = FdC { F with head := n } nx tk hs bd wh := rfl
theorem FdC_4 (v : Value) : (FdC F nx tk hs bd wh).setIfInBounds 4 v = FdC F v tk hs bd wh := rfl
theorem FdC_5 (v : Value) : (FdC F nx tk hs bd wh).setIfInBounds 5 v = FdC F nx v hs bd wh := rfl
theorem FdC_6 (t : ByteArray) : (FdC F nx tk hs bd wh).setIfInBounds 6 (.string t) = FdC { F with m := { F.m with meth := t } } nx tk hs bd wh := rfl
theorem FdC_7 (t : ByteArray) : (FdC F nx tk hs bd wh).setIfInBounds 7 (.string t) = FdC { F with m := { F.m with targ := t } } nx tk hs bd wh := rfl
theorem FdC_8 (n : Int) : (FdC F nx tk hs bd wh).setIfInBounds 8 (.int .i64 n) = FdC { F with m := { F.m with stat := n } } nx tk hs bd wh := rfl
theorem FdC_9 (t : ByteArray) : (FdC F nx tk hs bd wh).setIfInBounds 9 (.string t) = FdC { F with m := { F.m with reas := t } } nx tk hs bd wh := rfl
theorem FdC_10 (v : Value) : (FdC F nx tk hs bd wh).setIfInBounds 10 v = FdC F nx tk v bd wh := rfl
theorem FdC_11 (v : Value) : (FdC F nx tk hs bd wh).setIfInBounds 11 v = FdC F nx tk hs v wh := rfl
theorem FdC_12 (v : Value) : (FdC F nx tk hs bd wh).setIfInBounds 12 v = FdC F nx tk hs bd v := rfl
theorem FdC_13 (n : Int) : (FdC F nx tk hs bd wh).setIfInBounds 13 (.int .i64 n) = FdC { F with left := n } nx tk hs bd wh := rfl
theorem FdC_14 (n : Int) : (FdC F nx tk hs bd wh).setIfInBounds 14 (.int .i64 n) = FdC { F with size := n } nx tk hs bd wh := rfl
theorem FdC_15 (n : Int) : (FdC F nx tk hs bd wh).setIfInBounds 15 (.int .i64 n) = FdC { F with about := n } nx tk hs bd wh := rfl
end
theorem own_blk (A : Option Addr) (n m c : Nat) : (Value.slice A n c).ownBlock = (Value.slice A m c).ownBlock := by cases A <;> rfl
theorem Bes.self {X : Nat → Prop} {a b c : World} (h : Bes X a b) (k : Bes X b c) : Bes X a c := h.trans k (fun _ x => x) (fun _ _ x => x)
section
variable {ops : Array Oper} {rest : List Oper} {o : Oper} {a : Act} {w : World} {Q : Exit → Act → World → Prop}
/-- A struct is stored into some cells of a box. -/
theorem wpl_store_part (hgd : o.guard = none) (ty : TypeId) (x y : Operand) (ho : o.op = .store ty x y) (g off : Nat) (cells : Array Value) (hx : a.eval x = .pointer (some ⟨g, off, none⟩)) (hy : a.eval y = .agg cells)
    (t : TypeId) (cur : Array Value) (hI : IBox w g t cur) (hoff : off + cells.size ≤ cur.size) (hi : (Tryz.prog.info? ty).map (·.size) = some cells.size) (h1 : cells.all (·.oneCell') = true)
    (h : ∀ w', IBox w' g t (over cur off cells.toList) → Bes (fun q => q = g) w w' → wpList Tryz.prog ops Q rest (a.put o.dst undef) w') : wpList Tryz.prog ops Q (o :: rest) a w :=
  wpList_plain hgd fun _ hK => by
    have ht : w.there g off cells.size := fun j hj => by
      refine ⟨?_, hI.frozen _⟩
      rw [hI.cell, Array.getElem?_eq_getElem (by omega)]
      rfl
    exact wp_store_mid ty x y ho g off cells hx hy ht hi h1 (hK _ _ (h _ (setCells_box _ _ _ _ hI) (setCells_bes (X := fun q => q = g) rfl _ _ _ _ hI)))
end
/-- A feed's text so far, which is taken. -/
def TkV (base : Bs) (g : Nat) (F : Fs) (nx hs bd wh : Value) (L : List Mm) (w : World) (e : Ending) (w' : World) : Prop := e = .returned (.string (txt F.tok)) ∧ (∃ tk, FdM base g { F with tok := [] } nx tk hs bd wh L w') ∧ Bl base w w'
set_option maxRecDepth 10000 in
set_option maxHeartbeats 4000000 in
theorem taken_any {base : Bs} {g : Nat} {F : Fs} {nx tk hs bd wh : Value} {L : List Mm} {w : World} (h : FdM base g F nx tk hs bd wh L w) : Calls Tryz.prog 101 #[.pointer (some ⟨g, 0, none⟩)] w (TkV base g F nx hs bd wh L w) := by
  have HR := Lib.hid h.2
  obtain ⟨A, c, htk⟩ := bt_slice h.2.rt
  subst htk
  have c5 : w.cell? ⟨g, 5, none⟩ = some (.slice A F.tok.length c) := h.cell 5
  have H := Lib.hid h
  clear h
  go_enter Tryz.func101, Tryz.ntmps101
  go_wp2_with (first
    | (refine wpl_own_text rfl (.tmp 7) 23 9 rfl Tryz.underlying23 Tryz.underlying9 _ _ _ rfl HR.out.rt ?_)
    | ((with_reducible refine is_store ?_); refine wpl_store_cell rfl 23 (.tmp 16) (.tmp 14) rfl g 5 rfl (.slice A 0 c) rfl _ _ H.out.1 (show 5 < 16 by decide) one_sb rfl ?_; intro w1 hw))
  go_ret
  have hr1 := HR.out.row (Bes.row (X := fun q => q = g) hw rfl)
  exact ⟨rfl, ⟨_, H.out.put hw rfl (hr1.tok (own_cut hr1.rt) (Bes.of_below (Below.refl _ _)) (.inl (own_blk _ _ _ _)))⟩, HR.out.store hw⟩
def zeroM : Array Value := #[.string ⟨#[]⟩, .string ⟨#[]⟩, .int .i64 0, .string ⟨#[]⟩, .slice none 0 0, .slice none 0 0]
theorem FdC_m {F : Fs} {nx tk hs bd wh : Value} : over (FdC F nx tk hs bd wh) 6 zeroM.toList = FdC { F with m := Ms.zero } nx tk (.slice none 0 0) (.slice none 0 0) wh := rfl
theorem zero_msg (w : World) : (Instr.build 25 #[]).run Tryz.prog w = .ok (.agg zeroM) w := by kernel_rfl
theorem zero_one : zeroM.all (·.oneCell') = true := by simp [zeroM, Value.oneCell']
theorem info_msg : (Tryz.prog.info? 25).map (·.size) = some 6 := by kernel_rfl
def BgV (base : Bs) (g : Nat) (F : Fs) (wh : Value) (L : List Mm) (w : World) (e : Ending) (w' : World) : Prop := e = .returned (.tuple #[]) ∧ FdM base g F.begin (stepV F.begin.next) (.slice none 0 0) (.slice none 0 0) (.slice none 0 0) wh L w' ∧ Bl base w w'
set_option maxRecDepth 10000 in
set_option maxHeartbeats 1000000 in
theorem begin_at {base : Bs} {g : Nat} {F : Fs} {M : Ms} {nx tk hs bd wh tk0 hs0 bd0 : Value} {L : List Mm} {w : World} (B : IBox w g 81 (FdC { F with m := M } nx tk0 hs0 bd0 wh)) (h : FdR base g F tk hs bd wh L w) : Calls Tryz.prog 42 #[.pointer (some ⟨g, 0, none⟩)] w (BgV base g F wh L w) := by
  have HR := Lib.hid h
  have HBE := Bes.of_below (X := fun q => q = g) (Below.refl w.heap.size w)
  clear h
  cases ha : F.ans
  all_goals
    have c0 : w.cell? ⟨g, 0, none⟩ = some (.bool F.ans) := B.cell 0
    rw [ha] at c0
    have HA := Lib.hid ha
    clear ha
    go_enter Tryz.func42, Tryz.ntmps42
    go_wp2_with (first
      | ((with_reducible refine is_build ?_); refine wpl_build_at zero_msg rfl _ rfl rfl ?_)
      | ((with_reducible refine is_store ?_); refine wpl_store_part rfl 25 (.tmp 10) (.tmp 8) rfl g 6 zeroM rfl rfl _ _ B (show 6 + 6 ≤ 16 by decide) info_msg zero_one ?_; intro w1 B1 hb; replace HBE := HBE.self hb; replace B := B1; simp only [FdC_m] at B; clear B1 hb c0; have c0 : w1.cell? ⟨g, 0, none⟩ = some (.bool F.ans) := B.cell 0; rw [HA.out] at c0)
      | ((with_reducible refine is_store ?_); refine wpl_store_cell rfl 23 (.tmp 12) _ rfl g 5 rfl (.slice none 0 0) rfl _ _ B (show 5 < 16 by decide) one_sb rfl ?_; intro w2 hw; replace HBE := HBE.self (Bes.row hw rfl); replace B := hid_row hw B; simp only [FdC_5] at B; clear hw c0; have c0 : w2.cell? ⟨g, 0, none⟩ = some (.bool F.ans) := B.cell 0; rw [HA.out] at c0)
      | ((with_reducible refine is_store ?_); refine wpl_store_cell rfl 3 (.tmp 14) _ rfl g 3 rfl (.int .i64 0) rfl _ _ B (show 3 < 16 by decide) one_i rfl ?_; intro w2 hw; replace HBE := HBE.self (Bes.row hw rfl); replace B := hid_row hw B; simp only [FdC_3] at B; clear hw c0; have c0 : w2.cell? ⟨g, 0, none⟩ = some (.bool F.ans) := B.cell 0; rw [HA.out] at c0)
      | ((with_reducible refine is_store ?_); refine wpl_store_cell rfl 3 (.tmp 16) _ rfl g 13 rfl (.int .i64 0) rfl _ _ B (show 13 < 16 by decide) one_i rfl ?_; intro w2 hw; replace HBE := HBE.self (Bes.row hw rfl); replace B := hid_row hw B; simp only [FdC_13] at B; clear hw c0; have c0 : w2.cell? ⟨g, 0, none⟩ = some (.bool F.ans) := B.cell 0; rw [HA.out] at c0)
      | ((with_reducible refine is_store ?_); refine wpl_store_cell rfl 3 (.tmp 18) _ rfl g 14 rfl (.int .i64 0) rfl _ _ B (show 14 < 16 by decide) one_i rfl ?_; intro w2 hw; replace HBE := HBE.self (Bes.row hw rfl); replace B := hid_row hw B; simp only [FdC_14] at B; clear hw c0; have c0 : w2.cell? ⟨g, 0, none⟩ = some (.bool F.ans) := B.cell 0; rw [HA.out] at c0)
      | ((with_reducible refine is_store ?_); refine wpl_store_cell rfl 3 (.tmp 20) _ rfl g 15 rfl (.int .i64 0) rfl _ _ B (show 15 < 16 by decide) one_i rfl ?_; intro w2 hw; replace HBE := HBE.self (Bes.row hw rfl); replace B := hid_row hw B; simp only [FdC_15] at B; clear hw c0; have c0 : w2.cell? ⟨g, 0, none⟩ = some (.bool F.ans) := B.cell 0; rw [HA.out] at c0)
      | ((with_reducible refine is_store ?_); refine wpl_store_cell rfl 79 (.tmp 23) _ rfl g 4 rfl (stepV 0) rfl _ _ B (show 4 < 16 by decide) one_st rfl ?_; intro w2 hw; replace HBE := HBE.self (Bes.row hw rfl); replace B := hid_row hw B; simp only [FdC_4] at B; clear hw c0; have c0 : w2.cell? ⟨g, 0, none⟩ = some (.bool F.ans) := B.cell 0; rw [HA.out] at c0)
      | ((with_reducible refine is_store ?_); refine wpl_store_cell rfl 79 (.tmp 30) _ rfl g 4 rfl (stepV 2) rfl _ _ B (show 4 < 16 by decide) one_st rfl ?_; intro w2 hw; replace HBE := HBE.self (Bes.row hw rfl); replace B := hid_row hw B; simp only [FdC_4] at B; clear hw c0; have c0 : w2.cell? ⟨g, 0, none⟩ = some (.bool F.ans) := B.cell 0; rw [HA.out] at c0))
    first | go_end0 | (refine bodyPost_ret (results_none rfl _ _ _) rfl ?_)
    have hgz := HR.out.gl
    have hr1 := ((((HR.out.row HBE).tok (l := []) (v := .slice none 0 0) (OwnB.nil _ _) (Bes.of_below (Below.refl _ _)) (.inr (.inr rfl))).heads (l := []) (v := .slice none 0 0) ⟨rfl, .inl ⟨rfl, rfl⟩⟩ (Bes.of_below (Below.refl _ _)) (.inr (.inr rfl))).body (l := []) (v := .slice none 0 0) (OwnB.nil _ _) (Bes.of_below (Below.refl _ _)) (.inr (.inr rfl))).same (G := F.begin) rfl rfl rfl rfl
    refine ⟨rfl, ⟨?_, hr1⟩, Bl.bes HBE (fun k e => by rw [show k = g from e]; exact ⟨hgz.1, HR.out.off g (.inl rfl)⟩) HR.out.bl HR.out.avl⟩
    first
      | (rw [show F.begin.next = 2 by (show (if F.ans = true then 2 else 0) = 2; rw [HA.out]; rfl)]; exact B)
      | (rw [show F.begin.next = 0 by (show (if F.ans = true then 2 else 0) = 0; rw [HA.out]; rfl)]; exact B)
theorem begin_any {base : Bs} {g : Nat} {F : Fs} {nx tk hs bd wh : Value} {L : List Mm} {w : World} (h : FdM base g F nx tk hs bd wh L w) : Calls Tryz.prog 42 #[.pointer (some ⟨g, 0, none⟩)] w (BgV base g F wh L w) := begin_at (M := F.m) h.1 h.2
end Go.Proofs.YtbehakabglegjaaGreatDoor
namespace Go.Proofs.YtbehakabglegjaaGreatDoor
open Go.RowKit
set_option linter.unusedVariables false
section
variable {P : Program} {md : Region.Mode} {ops : Array Oper} {Q : Exit → Act → World → Prop} {S : World → Prop} {op : Op} {tt : TypeId} {ps : String} {af : Array Edge} {gd : Option (Nat × Bool)} {fuel : Nat} {listed : Array Bool} {a : Act} {w : World}
theorem TKC (i d : Nat) {v : Value} (hi : ops[i]? = some ⟨some d, op, tt, ps, af, gd⟩)
    (h : wpAnyH P md ops Q S fuel (listed.setIfInBounds i true) (a.put (some d) v) w) (hy : ∀ w, S w → (execOp a.eval ⟨some d, op, tt, ps, af, gd⟩).run P w = .ok (.value v) w := by (intro w hSw; (try dsimp only at hSw); go_simp; try with_reducible rfl))
    (hs : Region.noSelect ops = true := by kernel_rfl) (hf : Region.free md ops listed i = true := by kernel_rfl)
    (hr : (Region.ready md ops listed).contains i = true := by kernel_rfl) (hQ : ∀ c a w, Q (.panic c) (a.put (some d) v) w → Q (.panic c) a w := by exact fun _ _ _ h => h)
    (hw : Region.wanted ⟨some d, op, tt, ps, af, gd⟩ (yielded ops a.tmps) = true := by kernel_rfl) (hS : S w := by assumption) : wpAnyH P md ops Q S (fuel + 1) listed a w :=
  wpAnyH_take (v := v) hi hs hf hr hQ (Or.inl ⟨hw, hy⟩) hS h
/-- As TKC, by a law of the operation's own. -/
theorem TKY (i d : Nat) {v : Value} (hi : ops[i]? = some ⟨some d, op, tt, ps, af, gd⟩) (hy : YieldsIf P ops S ⟨some d, op, tt, ps, af, gd⟩ v a)
    (h : wpAnyH P md ops Q S fuel (listed.setIfInBounds i true) (a.put (some d) v) w)
    (hs : Region.noSelect ops = true := by kernel_rfl) (hf : Region.free md ops listed i = true := by kernel_rfl)
    (hr : (Region.ready md ops listed).contains i = true := by kernel_rfl) (hQ : ∀ c a w, Q (.panic c) (a.put (some d) v) w → Q (.panic c) a w := by exact fun _ _ _ h => h)
    (hS : S w := by assumption) : wpAnyH P md ops Q S (fuel + 1) listed a w :=
  wpAnyH_take (v := v) hi hs hf hr hQ hy hS h
end
theorem zA {α : Type _} {xs : List α} {i : Nat} {a : α} : xs.toArray.setIfInBounds i a = (xs.set i a).toArray := by simp
theorem zB {α : Type _} {x : α} {xs : List α} {a : α} : (x :: xs).set 0 a = a :: xs := List.set_cons_zero
theorem zC {α : Type _} {x : α} {xs : List α} {i : Nat} {a : α} : (x :: xs).set (i + 1) a = x :: xs.set i a := List.set_cons_succ
/-- What lies behind a region that goes in several orders, said once. -/
theorem ashare {X : Type} {P : Program} {md : Region.Mode} {ops : Array Oper} {Q : Exit → Act → World → Prop} {S : World → Prop} {n : Nat} {l : Array Bool} {a : Act} {w : World} (act : X → Act → Act) (F : X → World → Prop)
    (h1 : Hid (∀ x a' w', F x w' → a' = act x a → Q .normal a' w') → wpAnyH P md ops Q S n l a w)
    (h2 : ∀ x w', F x w' → Q .normal (act x a) w') : wpAnyH P md ops Q S n l a w := h1 (Lib.hid fun x a' w' hf e => e ▸ h2 x w' hf)
theorem yields_rowS {P : Program} {ops : Array Oper} {S : World → Prop} {o : Oper} {a : Act} (hw : Region.wanted o (yielded ops a.tmps) = true) (ty : TypeId) (x : Operand) (ho : o.op = .load ty x) (b off : Nat)
    (hx : a.eval x = .pointer (some ⟨b, off, none⟩)) (arr : Array Value) (d : TypeDesc)
    (hc : ∀ w', S w' → w'.rangeAt b off arr.toList) (hu : P.underlying ty = some d) (hd : d.isRow = true) (hi : (P.info? ty).map (·.size) = some arr.size) :
    YieldsIf P ops S o (.agg arr) a := by
  have := yieldsIf_load_mid (P := P) (S := S) hw ty x ho b off hx arr.toList d hc hu hd (by simpa using hi)
  rwa [Array.toArray_toList] at this
end Go.Proofs.YtbehakabglegjaaGreatDoor
namespace Go.Proofs.YtbehakabglegjaaGreatDoor
open Go.RowKit
set_option linter.unusedVariables false
section
variable {P : Program} {md : Region.Mode} {ops : Array Oper} {Q : Exit → Act → World → Prop} {S : World → Prop} {op : Op} {tt : TypeId} {ps : String} {af : Array Edge} {gd : Option (Nat × Bool)} {fuel : Nat} {listed : Array Bool} {a : Act} {w : World}
theorem TKN (i d : Nat) (hi : ops[i]? = some ⟨some d, op, tt, ps, af, gd⟩)
    (h : wpAnyH P md ops Q S fuel (listed.setIfInBounds i true) (a.put (some d) undef) w)
    (hs : Region.noSelect ops = true := by kernel_rfl) (hf : Region.free md ops listed i = true := by kernel_rfl)
    (hr : (Region.ready md ops listed).contains i = true := by kernel_rfl) (hQ : ∀ c a w, Q (.panic c) (a.put (some d) undef) w → Q (.panic c) a w := by exact fun _ _ _ h => h)
    (hw : Region.wanted ⟨some d, op, tt, ps, af, gd⟩ (yielded ops a.tmps) = false := by kernel_rfl) (hS : S w := by assumption) : wpAnyH P md ops Q S (fuel + 1) listed a w :=
  wpAnyH_take (v := undef) hi hs hf hr hQ (Or.inr ⟨hw, rfl⟩) hS h
end
end Go.Proofs.YtbehakabglegjaaGreatDoor
