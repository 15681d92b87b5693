/- A region that draws its order inside the round of a loop over a function: its operations only read, or call what only reads: one walk of the text's order serves every order. -/
import Derived.Test.YtmiphbjpcbfaeaaDoorBase
import Derived.Deep.QuietTactic
import Derived.OrdersIn
import Derived.OwnWalkIn
import Derived.RangeFuncNested
namespace Go.Proofs.YtmiphbjpcbfaeaaDoor
open Go.RowKit
set_option linter.unusedVariables false
def noDefer : Op → Bool
  | .defer _ => false
  | _ => true
section
variable {P : Program} {C : World → Prop} {l n : Nat} {ops : Array Oper} {md : Region.Mode}
theorem quiet_wpIn {o : Oper} {a : Act} {K : Act → Prop} {K' : Act → World → Prop} {Q' : Exit → Act → World → Prop} {w : World} (hnd : noDefer o.op = true) (hw : C w) (h : ∀ a w', C w' → K a → K' a w') (hh : o.quiet P a C K) : o.wpIn (Fence.wide.inRound l) n P a w K' Q' := by
  have hd : ∀ c, o.op ≠ .defer c := fun c e => by rw [e] at hnd; cases hnd
  unfold Oper.wpIn
  refine ⟨fun _ _ => trivial, ?_⟩
  rw [Oper.semAt_plain _ _ _ hd]
  obtain ⟨v, h1, h2⟩ := hh
  have h3 := h1 w hw
  unfold Oper.quietAt at h3
  generalize (execOp a.eval o).run P w = r at *
  cases r with
  | halt x w' => simp only [Oper.quietUpon] at h3
  | ok nx w' =>
    cases nx <;> simp only [Oper.quietUpon] at h3
    case value u =>
      obtain ⟨rfl, rfl⟩ := h3
      rw [Oper.uponIn_value]
      exact h _ _ hw h2
    case skip =>
      obtain ⟨rfl, rfl⟩ := h3
      rw [Oper.uponIn_skip]
      exact h _ _ hw h2
    case enter f args =>
      obtain ⟨rfl, hc⟩ := h3
      rw [Oper.uponIn_enter]
      refine ⟨fun hs => (by cases hs), (CallsIn.inRound l (callsIn_wide.2 hc)).mono fun e w'' he => ?_⟩
      obtain ⟨rfl, hC⟩ := he
      exact h _ _ hC h2
theorem qOp_wpOpIn {i : Nat} {a : Act} {K : Act → Prop} {K' : Act → World → Prop} {Q' : Exit → Act → World → Prop} {w : World} (hnd : ∀ (i : Nat) (o : Oper), ops[i]? = some o → noDefer o.op = true) (hC : C w) (h : ∀ a w', C w' → K a → K' a w') (hh : qOp P ops C i K a) : wpOpIn (Fence.wide.inRound l) n P ops Q' i K' a w := by
  unfold qOp at hh
  unfold wpOpIn
  cases ho : ops[i]? with
  | none => rw [ho] at hh; exact h _ _ hC hh
  | some o =>
    rw [ho] at hh
    dsimp only at hh ⊢
    cases hw : Region.wanted o (yielded ops a.tmps) with
    | true => rw [hw] at hh; rw [if_pos rfl] at hh ⊢; exact quiet_wpIn (hnd i o ho) hC h hh
    | false => rw [hw] at hh; rw [if_neg (by simp)] at hh ⊢; exact ⟨fun _ _ => trivial, h _ _ hC hh⟩
theorem wpAnyIn_round {Q : Act → Prop} {Q' : Exit → Act → World → Prop} (hnd : ∀ (i : Nat) (o : Oper), ops[i]? = some o → noDefer o.op = true) (hQ : ∀ a w, C w → Q a → Q' .normal a w) : ∀ (fuel : Nat) (listed : Array Bool) (a : Act) (w : World), C w →
    wpAnyQ P md ops C Q fuel listed a → wpAnyIn (Fence.wide.inRound l) n P md ops Q' fuel listed a w
  | 0, _, _, _, hw, h => ⟨h.1, hQ _ _ hw h.2⟩
  | fuel + 1, _, _, _, hw, h => ⟨fun h0 => hQ _ _ hw (h.1 h0), fun i hi => qOp_wpOpIn hnd hw (fun a' w' hw' => wpAnyIn_round hnd hQ fuel _ a' w' hw') (h.2 i hi)⟩
end
/-- The walk of the text's order, in a case that whnf does not look into. -/
structure WQ (P : Program) (ops : Array Oper) (C : World → Prop) (Q : Act → Prop) (l : List Oper) (a : Act) : Prop where
  out : wpQuiet P ops C Q l a
theorem WQ.step {P : Program} {ops : Array Oper} {C : World → Prop} {Q : Act → Prop} {o : Oper} {rest : List Oper} {a : Act}
    (h : ∀ K : Act → Prop, (∀ a, WQ P ops C Q rest a → K a) → if Region.wanted o (yielded ops a.tmps) then o.quiet P a C K else K (a.put o.dst undef)) : WQ P ops C Q (o :: rest) a :=
  ⟨wpQuiet_step fun K hK => h K (fun a hh => hK a hh.out)⟩
theorem WQ.nil {P : Program} {ops : Array Oper} {C : World → Prop} {Q : Act → Prop} {a : Act} (h : Q a) : WQ P ops C Q [] a := ⟨wpQuiet_nil h⟩
theorem wpIn_region_round {P : Program} {l n id : Nat} {Q : Exit → Act → World → Prop} {a : Act} {w : World} {L : List Oper} (hnd : L.all (fun o => noDefer o.op) = true) (hm : P.follows .mixedOrders = true) (hB : Region.lexB .any L.toArray = true)
    (h0 : WQ P L.toArray (fun w' => ∃ n, w' = w.drewN n) (fun a' => ∀ w', (∃ n, w' = w.drewN n) → Q .normal a' w') L a) : (Code.region id L.toArray true).wpIn (Fence.wide.inRound l) n P Q a w := by
  have h := h0.out
  simp only [Region.lexB, Bool.and_eq_true] at hB
  refine wpIn_region_any hm (wpAnyIn_round (C := fun w' => ∃ n, w' = w.drewN n) (Q := fun a' => ∀ w', (∃ n, w' = w.drewN n) → Q .normal a' w') (fun i o ho => ?_) (fun _ w' hw' h => h w' hw') _ _ _ _ ⟨1, rfl⟩ ?_)
  · have := List.all_eq_true.1 hnd o (by
      have h2 : L[i]? = some o := by simpa using ho
      exact List.mem_of_getElem? h2)
    exact this
  · have := wpAnyQ_lex (P := P) (C := fun w' => ∃ n, w' = w.drewN n) (md := .any) hB.1 L 0 (Array.replicate L.toArray.size false) a (by simp) (by simpa using hB.2) h
    simpa using this
/-- A loop over a function within a round of another: one loop variable that is no box. -/
theorem rangeN_one {F : Fence} {n : Nat} {P : Program} {α : Type} {g : Operand} {ps : Array Tmp} {assign body : Code} {Q : Exit → Act → World → Prop} {a : Act} {w : World}
    {l₀ : Nat} {r₀ : Loop} (hro : F.round = some l₀) (hl₀ : w.heap[l₀]? = some (.loop r₀)) (h1 : 1 ≤ n) {gf : Nat} {lb : Array Value} (hg : a.eval g = .func (.func gf) #[] lb) (hFg : F.fn gf) (eg : ∀ args w, (callFunc gf args).run P w = .ok (.enter gf args) w)
    {encs : α → Array Value} {Kp : World → World → Prop} {S Sp : List α → Prop} {N : Nat} {w0 : World} (hseq : SeqStopsK F (n - 1) P gf lb encs Kp S Sp N w0)
    (hKt : ∀ {A B C : World}, Kp A B → Kp B C → Kp A C) (hKb : ∀ (W : World) (l : Nat) (o o' : Obj), w.heap.size ≤ l → W.heap[l]? = some o → o.isCells = false → o.isWalk = false → Kp W (W.putObj l o')) (hb0 : Below w0.heap.size w0 w) (hps : ∀ x, (encs x).size = ps.size)
    (I : List α → World → Prop) (Ix : Code → List α → World → Prop) (hI : OwnFrom w.heap.size I) (hIx : ∀ c, OwnFrom w.heap.size (Ix c)) (h0 : I [] w) (hKr : ∀ pre W, I pre W → Kp W W) (q : Tmp)
    (hassign : ∀ (l : Nat) (x : α) (W : World) (K : Act → World → Prop), Hid (K { tmps := ((ps.zip (encs x)).foldl (fun t (p, v) => t.setIfInBounds p v) a.tmps).setIfInBounds q ((encs x).getD 0 undef), defers := [] } W) →
      assign.wpIn (F.inRound l) (n - 1 - 1) P (Exit.then K (fun _ _ _ => False)) { tmps := (ps.zip (encs x)).foldl (fun t (p, v) => t.setIfInBounds p v) a.tmps, defers := [] } W)
    (hbody : ∀ (l : Nat) (pre : List α) (x : α) (W : World), I pre W → body.wpIn (F.inRound l) (n - 1 - 1) P (ownPostG w.heap.size Kp I Ix (pre ++ [x]) W) { tmps := ((ps.zip (encs x)).foldl (fun t (p, v) => t.setIfInBounds p v) a.tmps).setIfInBounds q ((encs x).getD 0 undef), defers := [] } W)
    (hdone : ∀ (xs : List α) (W : World), S xs → I xs W → Q .normal a W)
    (hstop : ∀ (c : Code) (pre : List α) (W : World), Sp pre → Ix c pre W → c.wpIn F n P Q a W) :
    (Code.rangeFunc g ps assign body).wpIn F n P Q a w :=
  wpIn_rangeFunc_ownN hro hl₀ h1 hg hFg eg hseq hKt hKb hb0 hps I Ix hI hIx h0 (fun x a' _ => a' = { tmps := ((ps.zip (encs x)).foldl (fun t (p, v) => t.setIfInBounds p v) a.tmps).setIfInBounds q ((encs x).getD 0 undef), defers := [] }) (fun _ _ _ _ _ _ hs _ _ => hs)
    (fun l pre x W K hi hK => hassign l x W K (Lib.hid (hK _ _ (KeepsFrom.refl _ _) (hKr pre W hi) hi rfl)))
    (fun l pre x a' W _ _ hi ha _ => by subst ha; exact hbody l pre x W hi) hdone hstop
end Go.Proofs.YtmiphbjpcbfaeaaDoor
