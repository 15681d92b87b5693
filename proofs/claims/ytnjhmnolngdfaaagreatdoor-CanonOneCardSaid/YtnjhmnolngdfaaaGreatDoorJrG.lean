/- Layer 2: strings.Builder at this translation: a rune is written. -/
import Derived.Test.YtnjhmnolngdfaaaGreatDoorJrF
import Derived.Lib.Builder
import Derived.Lib.FrozenHead
import Derived.Lib.OthersKept
import Derived.Laws.Externs
namespace Go.Proofs.YtnjhmnolngdfaaaGreatDoor
open Go.RowKit Go.PlainAid
set_option linter.unusedVariables false
set_option linter.unusedSimpArgs false

theorem info_builder : (Tryz.prog.info? 76).map (·.size) = some 2 := by kernel_rfl
theorem lies_builder : liesAt Tryz.prog Tryz.prog.depth 76 (2 / Tryz.prog.cellsOf 76) 0 76 1 = true := by kernel_rfl
set_option maxRecDepth 100000 in
theorem bcheck_used {b : Nat} {w : World} (h0 : w.cell? ⟨b, 0, none⟩ = some (.pointer (some ⟨b, 0, none⟩))) :
    Calls Tryz.prog 87 #[At b] w fun e w' => e = .returned (.tuple #[]) ∧ w' = w := by
  obtain ⟨j, hj, _⟩ := Option.map_eq_some_iff.1 info_builder
  go_enter Tryz.func87, Tryz.ntmps87
  go_wp2
  rw [Lib.run_neq_ptr_same w _ Tryz.underlying74 hj]
  go_wp2
  go_end0
  exact ⟨rfl, rfl⟩
set_option maxRecDepth 100000 in
theorem bcheck_fresh {b : Nat} {w : World} (h0 : w.cell? ⟨b, 0, none⟩ = some (.pointer none)) (hsh : w.shape? b = some (76, 2)) (hf : w.frozen? ⟨b, 0, none⟩ = false) :
    Calls Tryz.prog 87 #[At b] w fun e w' => e = .returned (.tuple #[]) ∧ w' = w.setCell ⟨b, 0, none⟩ (.pointer (some ⟨b, 0, none⟩)) := by
  obtain ⟨j, hj, hjs⟩ := Option.map_eq_some_iff.1 info_builder
  go_enter Tryz.func87, Tryz.ntmps87
  go_wp2
  rw [Lib.run_to_unsafe w ⟨b, 0, none⟩ Tryz.underlying74 Tryz.underlying136 hj (by rw [hjs]; decide) hsh (Nat.zero_lt_succ 1)]
  simp only [Result.andThen]
  rw [Oper.upon_value]
  go_wp2
  rw [run_callFunc_extern Tryz.func106 (by kernel_rfl) (by kernel_rfl) (by kernel_rfl) (e := Extern.AbiNoEscape.same) (by kernel_rfl)]
  rw [Lib.run_noEscape]
  simp only [Result.andThen]
  rw [Oper.upon_value]
  go_wp2
  rw [Lib.run_from_unsafe w ⟨b, 0, none⟩ Tryz.underlying136 Tryz.underlying74 hj hsh lies_builder]
  simp only [Result.andThen]
  rw [Oper.upon_value]
  go_wp2
  go_end0
  exact ⟨rfl, rfl⟩
abbrev BAt (B b : Nat) (bs : List Value) (w : World) : Prop := Lib.BuilderAtF 76 5 B b (At b) bs w
abbrev IsB (B b : Nat) (bs : List Value) (w : World) : Prop := Lib.IsBuilderF 76 5 B b bs w
theorem bcheck_any {B b : Nat} {bs : List Value} {w : World} (h : IsB B b bs w) : Calls Tryz.prog 87 #[At b] w fun e w' => e = .returned (.tuple #[]) ∧ BAt B b bs w' ∧ Below B w w' := by
  rcases h with h | h
  · refine (bcheck_fresh h.cell0 h.shape h.frozen0).mono ?_
    rintro e w' ⟨rfl, rfl⟩
    exact ⟨rfl, h.used _, (Below.refl B w).setCell (p := ⟨b, 0, none⟩) h.1 _⟩
  · refine (bcheck_used h.cell0).mono ?_
    rintro e w' ⟨rfl, rfl⟩
    exact ⟨rfl, h, Below.refl B _⟩
theorem ownF_lo {w : World} {B : Nat} {e : TypeId} {size : Nat} {v : Value} {n : Nat} {xs : List Value} (h : w.ownsRowF B e size v n xs) {k : Nat} (hk : v.ownBlock = some k) : B ≤ k := by
  rcases h.2 with ⟨hv, _⟩ | ⟨g, cap, cur, fz, hv, hb, _⟩
  · subst hv; cases hk
  · subst hv
    have : g = k := Option.some.inj hk
    omega
set_option maxRecDepth 100000 in
set_option maxHeartbeats 2000000 in
theorem wrune_any {B b : Nat} {bs : List Value} {x : Int} {w : World} (h : IsB B b bs w) (hx0 : -2147483648 ≤ x) (hx1 : x ≤ 2147483647) (hlen : bs.length + 4 ≤ 140737488355328) (hB : B ≤ w.heap.size) :
    Calls Tryz.prog 81 #[At b, .int .i32 x] w fun e w' => (∃ n, e = .returned (.tuple #[.int .i64 n, .nilIface])) ∧ IsB B b (bs ++ Lib.runeCells x) w' ∧ Below B w w' := by
  have hk4 := Lib.runeCells_le x
  go_enter Tryz.func81, Tryz.ntmps81
  go_wp2_with (go_at_call 87; (with_reducible refine (bcheck_any h).mono ?_); rintro e w1 ⟨rfl, h1, hb1⟩; obtain ⟨hBb, v, hbk, hown, hne⟩ := h1; obtain ⟨ao, cap, rfl⟩ : ∃ ao cap, v = .slice ao bs.length cap := (by
    rcases hown.2 with ⟨hv, h0⟩ | ⟨g, cap, cur, fz, hv, _⟩
    · exact ⟨none, 0, by rw [hv, h0]⟩
    · exact ⟨_, _, hv⟩); have c0 : w1.cell? ⟨b, 0, none⟩ = some (At b) := (by rw [Lib.cell_of_heap hbk]; rfl); have c1 : w1.cell? ⟨b, 1, none⟩ = some (.slice ao bs.length cap) := (by rw [Lib.cell_of_heap hbk]; rfl))
  go_at_call 98
  refine (Tryz.utf8_AppendRune_row B _ bs.length bs x hx0 hx1 _ hown hlen (Nat.le_trans hB hb1.size)).mono ?_
  rintro e w2 ⟨v', rfl, hown', o, hgrow⟩
  have hlt : b < w1.heap.size := IBox.lt hbk
  have hb2 : w2.heap[b]? = some (.cells #[At b, .slice ao bs.length cap] 76 (0, 0)) := by
    rw [hgrow.block b (by simp; omega) (fun e => hne e.symm), Lib.alloc_old w1 _ b hlt]
    exact hbk
  have d0 : w2.cell? ⟨b, 0, none⟩ = some (At b) := by rw [Lib.cell_of_heap hb2]; rfl
  have d1 : w2.cell? ⟨b, 1, none⟩ = some (.slice ao bs.length cap) := by rw [Lib.cell_of_heap hb2]; rfl
  have f1 : w2.frozen? ⟨b, 1, none⟩ = false := Lib.frozen_of_heap hb2 1
  obtain ⟨g, cap', rfl⟩ : ∃ g cap', v' = .slice (some ⟨g, 0, none⟩) (bs.length + (Lib.runeCells x).length) cap' := by
    rcases hown'.2 with ⟨_, h0⟩ | ⟨g, cap', cur, fz, hv, _⟩
    · omega
    · exact ⟨g, cap', hv⟩
  have hb12 : Below B w1 w2 := by
    have h0 := (Below.refl B w1).alloc (Nat.le_trans hB hb1.size) o
    exact h0.grown hgrow (by have := hb1.size; simp; omega) (fun k hk => ownF_lo hown hk)
  go_wp2
  go_ret2
  refine ⟨⟨_, rfl⟩, Or.inr ?_, (hb1.trans hb12).setCell (p := ⟨b, 1, none⟩) hBb _⟩
  exact Lib.BuilderAtF.put (T := 76) (e := 5) hBb hb2 (bs' := bs ++ Lib.runeCells x) (by simpa using hown') (by decide)
end Go.Proofs.YtnjhmnolngdfaaaGreatDoor
