/- Layer 2: json.Walk: the function that it hands back gives a value and all within it, for every loop body that keeps its word. -/
import Derived.Test.YtmiphbjpcbfaeaaDoorWkD
import Derived.RangeFuncKeeps
namespace Go.Proofs.YtmiphbjpcbfaeaaDoor
open Go.RowKit Go.PlainAid
set_option linter.unusedVariables false
set_option linter.unusedSimpArgs false
attribute [local go_sem] Oper.semAt_some
set_option maxHeartbeats 2000000 in
/-- json.Walk boxes its argument; the function value captures the box. -/
theorem walkfn_any (j : JV) (w : World) : Calls Tryd.prog 6 #[.agg j.cells] w fun e w' => ∃ g, e = .returned (.func (.func 12) #[] #[.pointer (some ⟨g, 0, none⟩)]) ∧ IBox w' g 25 j.cells ∧ w.heap.size ≤ g ∧ Below w.heap.size w w' := by
  go_enter Tryd.func6, Tryd.ntmps6
  go_wp2_with (first
    | (refine wpl_box_at rfl 25 (.tmp 0) rfl _ rfl ?_; intro w1 hw; have hb := hid_grow hw; have B1 := (hid_alloc hw).1; clear hw))
  go_ret
  exact ⟨_, rfl, B1, Nat.le_refl _, hb⟩
set_option maxHeartbeats 2000000 in
/-- The function itself. -/
theorem walk1_any {l Bs nb : Nat} {J Jx : List Pl → World → Prop} {w0 : World} (hnB : w0.heap.size ≤ Bs) (hnn : w0.heap.size ≤ nb) (hT : ∀ W, Below w0.heap.size w0 W → Tab10 W) (hJ : ∀ s W W', J s W → Below W.heap.size W W' → J s W') {j : JV}
    (hY : ∀ (m : Nat) pre x W, J pre W → pre.length < (walkT j ⟨#[]⟩).length → YieldAt Fence.wide m Tryd.prog l #[.string x.1, .agg x.2.cells] W (YR Bs nb J Jx pre x W))
    (HJ : IsJV w0 j) (hs : SzT (er j) ≤ 1048576) {W : World} {g : Nat} (hB : Below w0.heap.size w0 W) (hnb : nb < W.heap.size) (hBs : Bs ≤ W.heap.size) (hg : IBox W g 25 j.cells) (h0 : J [] W) :
    Calls Tryd.prog 12 #[.func (.yield l) #[] #[], .pointer (some ⟨g, 0, none⟩)] W fun e W' => (∃ v, e = .returned v) ∧
      ((∃ xs, xs = walkT j ⟨#[]⟩ ∧ J xs W') ∨ (∃ pre, pre <+: walkT j ⟨#[]⟩ ∧ Jx pre W')) := by
  have hc := jw_to hnB hnn hT hJ hY (SizeOf.sizeOf j + 1) j ⟨#[]⟩ [] W (Nat.lt_succ_self _) HJ hB hnb hBs h0 (by simp) (by unfold pathMost; simp [ByteArray.size]; omega)
  have HC := Lib.hid hc
  clear hc hY
  go_enter Tryd.func12, Tryd.ntmps12
  go_wp2_with (first
    | ((with_reducible refine is_load ?_); refine wpl_load_box rfl 25 (.tmp 1) rfl _ rfl _ _ _ hg Tryd.underlying25 rfl info_value ?_)
    | (go_at_call 13; (refine HC.out.mono ?_); rintro e w7 (⟨rfl, hj7, hk7⟩ | ⟨rfl, q7, hq7, hx7⟩)))
  · go_end0
    exact ⟨⟨_, rfl⟩, .inl ⟨_, rfl, by simpa using hj7⟩⟩
  · go_end0
    exact ⟨⟨_, rfl⟩, .inr ⟨q7, hq7, by simpa using hx7⟩⟩
theorem abides_below {B : Nat} {J : List Pl → World → Prop} (h : AbidesFrom B J) : ∀ s W W', J s W → Below W.heap.size W W' → J s W' :=
  fun s W W' hs hb => h s W W' none hs (grown_of_below hb) (fun r e => by cases e)
theorem YieldAt.any {m : Nat} (m' : Nat) {P : Program} {l : Nat} {args : Array Value} {W : World} {R : Ending → World → Prop} (h : YieldAt Fence.wide m P l args W R) : YieldAt Fence.wide m' P l args W R := by
  obtain ⟨fn, tmps, assign, body, hy, hR⟩ := h
  exact ⟨fn, tmps, assign, body, hy, hR.1, fun c cs _ => hR.2 c cs (fun d hd => by cases hd)⟩
/-- What json.Walk hands back gives the places, all or as far as the rounds want. -/
theorem walk_stops (n : Nat) {nb g : Nat} {w0 w : World} {j : JV} (hT : Tab10 w0) (HJ : IsJV w0 j) (hs : SzT (er j) ≤ 1048576) (hB : Below w0.heap.size w0 w) (hnn : w0.heap.size ≤ nb) (hnb : nb < w.heap.size) (hg : IBox w g 25 j.cells) (hT : ∀ W, Below w0.heap.size w0 W → Tab10 W) :
    SeqStopsK Fence.wide n Tryd.prog 12 #[.pointer (some ⟨g, 0, none⟩)] (fun x : Pl => #[.string x.1, .agg x.2.cells]) (KK w.heap.size nb) (fun xs => xs = walkT j ⟨#[]⟩) (fun pre => pre <+: walkT j ⟨#[]⟩) (walkT j ⟨#[]⟩).length w := by
  intro l J Jx W hW hJ hJx hY h0
  exact callsIn_wide.2 (walk1_any hB.size hnn hT (abides_below hJ) (fun m pre x W1 h1 h2 => YieldAt.any m (hY pre x W1 h1 h2)) HJ hs (hB.trans (hW.mono hB.size)) (Nat.lt_of_lt_of_le hnb hW.size) hW.size (IBox.below hg hW hg.lt) h0)
end Go.Proofs.YtmiphbjpcbfaeaaDoor
