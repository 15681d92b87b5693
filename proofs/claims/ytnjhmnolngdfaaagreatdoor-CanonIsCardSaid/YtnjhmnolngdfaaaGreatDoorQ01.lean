/- Stores into a row of the call's own; what else is kept (Bes); operations of a drawn region that write. Rows of values and of fields that the call itself lays: from ownsRow to a value of JSON; what -/
import Derived.Deep.AppendLies
import Derived.Test.YtnjhmnolngdfaaaGreatDoorQ00
set_option linter.unusedVariables false
set_option linter.unusedSimpArgs false
set_option maxHeartbeats 16000000
set_option maxRecDepth 100000
namespace Go.Proofs.YtnjhmnolngdfaaaGreatDoor
open Go.RowKit
structure Bes (X : Nat → Prop) (w w' : World) : Prop where
  os : w'.os = w.os
  tape : w'.tape = w.tape
  output : w'.output = w.output
  size : w.heap.size ≤ w'.heap.size
  block : ∀ k, k < w.heap.size → ¬ X k → w'.heap[k]? = w.heap[k]?
theorem Bes.trans {X Y Z : Nat → Prop} {a b c : World} (h : Bes X a b) (k : Bes Y b c) (hX : ∀ i, X i → Z i) (hY : ∀ i, i < a.heap.size → Y i → Z i) : Bes Z a c :=
  ⟨k.os.trans h.os, k.tape.trans h.tape, k.output.trans h.output, Nat.le_trans h.size k.size, fun i hi hn => (k.block i (Nat.lt_of_lt_of_le hi h.size) (fun y => hn (hY i hi y))).trans (h.block i hi (fun x => hn (hX i x)))⟩
theorem Bes.below {X : Nat → Prop} {w w' : World} (h : Bes X w w') {B : Nat} (hX : ∀ k, X k → B ≤ k) (hB : B ≤ w.heap.size) : Below B w w' :=
  ⟨h.os, h.tape, h.output, h.size, fun k hk => h.block k (Nat.lt_of_lt_of_le hk hB) (fun x => by have := hX k x; omega)⟩
theorem Bes.of_below {X : Nat → Prop} {w w' : World} (h : Below w.heap.size w w') : Bes X w w' := ⟨h.os, h.tape, h.output, h.size, fun k hk _ => h.block k hk⟩
theorem Bes.of_heap {X : Nat → Prop} {w w' : World} (h : Below w.heap.size w w') : Bes X w w' := Bes.of_below h
theorem Bes.row {X : Nat → Prop} {w w' : World} {g : Nat} {arr : Array Value} (h : Hid (w' = w.setRow g arr)) (hg : X g) : Bes X w w' := by
  have e := h.out; subst e; have hb := qEk (Below.refl g w) (Nat.le_refl g) arr; exact ⟨hb.os, hb.tape, hb.output, by rw [size_setRow]; exact Nat.le_refl _, fun k hk hn => setRow_other w g k arr (fun e => hn (e ▸ hg))⟩
theorem Bes.grown {X : Nat → Prop} {w w' : World} {r : Option Nat} (h : w.grownBy w' r) (hr : ∀ k, r = some k → X k) : Bes X w w' :=
  ⟨h.os, h.tape, h.output, h.size, fun k hk hn => h.block k hk (fun e => hn (hr k e.symm))⟩
theorem Bes.box {X : Nat → Prop} {w w' : World} (h : Bes X w w') {g : Nat} {t : TypeId} {arr : Array Value} (hI : qAW w g t arr) (hn : ¬ X g) : qAW w' g t arr := (h.block g hI.lt hn).trans hI
theorem Bes.own {X : Nat → Prop} {w w' : World} (h : Bes X w w') {base : Nat} {e : TypeId} {size : Nat} {v : Value} {n : Nat} {xs : List Value} (hO : w.ownsRow base e size v n xs) (hn : ∀ k, v.ownBlock = some k → ¬ X k) : w'.ownsRow base e size v n xs := by
  refine ⟨hO.1, ?_⟩; rcases hO.2 with h0 | ⟨g, cap, cur, rfl, hb, hg, rest⟩
  · exact .inl h0
  · exact .inr ⟨g, cap, cur, rfl, hb, (h.block g (Array.getElem?_eq_some_iff.1 hg).1 (hn g rfl)).trans hg, rest⟩
theorem qAh {w : World} {base : Nat} {e : TypeId} {size : Nat} {v : Value} {n : Nat} {xs : List Value} (hO : w.ownsRow base e size v n xs) {k : Nat} (hk : v.ownBlock = some k) : base ≤ k ∧ k < w.heap.size := by
  rcases hO.2 with ⟨rfl, _⟩ | ⟨g, cap, cur, rfl, hb, hg, _⟩
  · simp [Value.ownBlock] at hk
  · (have : g = k := by simpa [Value.ownBlock] using hk); subst this; exact ⟨hb, (Array.getElem?_eq_some_iff.1 hg).1⟩
theorem qCC {w w' : World} (e : w'.heap = w.heap) {g : Nat} {t : TypeId} {arr : Array Value} (h : qAW w g t arr) : qAW w' g t arr := by unfold qAW at *; rw [e]; exact h
def qKE (cur : Array Value) : Nat → List Value → Array Value
  | _, [] => cur
  | o, v :: r => qKE (cur.setIfInBounds o v) (o + 1) r
theorem qD3 : ∀ (vs : List Value) (o : Nat) (cur : Array Value), (qKE cur o vs).size = cur.size
  | [], _, _ => rfl
  | v :: r, o, cur => by unfold qKE; rw [qD3 r]; simp
theorem qE0 : ∀ (vs : List Value) (o : Nat) (cur : Array Value) (k : Nat), o + vs.length ≤ cur.size → (qKE cur o vs)[k]? = if o ≤ k ∧ k < o + vs.length then vs[k - o]? else cur[k]?
  | [], o, cur, k, _ => by
    unfold qKE; rw [if_neg (by simp only [List.length_nil]; omega)]
  | v :: r, o, cur, k, h => by
    unfold qKE; have h' : o + (r.length + 1) ≤ cur.size := h; rw [qE0 r (o + 1) _ k (by rw [Array.size_setIfInBounds]; omega)]; simp only [List.length_cons]
    by_cases h1 : o + 1 ≤ k ∧ k < o + 1 + r.length
    · rw [if_pos h1, if_pos (by omega), show k - o = (k - (o + 1)) + 1 from by omega, List.getElem?_cons_succ]
    · rw [if_neg h1]
      by_cases h2 : k = o
      · subst h2; rw [if_pos (by omega), Nat.sub_self, List.getElem?_cons_zero, Array.getElem?_setIfInBounds_self_of_lt (by omega)]
      · rw [if_neg (by omega), Array.getElem?_setIfInBounds_ne (Ne.symm h2)]
theorem qCf {g : Nat} {t : TypeId} : ∀ (vs : List Value) (o : Nat) (cur : Array Value) (w : World), qAW w g t cur → qAW (w.setCells g o vs) g t (qKE cur o vs)
  | [], _, _, _, h => h
  | v :: r, o, cur, w, h => by
    unfold World.setCells qKE; refine qCf r (o + 1) _ _ ?_; rw [setCell_eq_setRow w g o cur t (0, 0) v h]; exact h.row _
theorem qCb {X : Nat → Prop} {g : Nat} {t : TypeId} (hX : X g) : ∀ (vs : List Value) (o : Nat) (cur : Array Value) (w : World), qAW w g t cur → Bes X w (w.setCells g o vs)
  | [], _, _, w, h => Bes.of_below (Below.refl _ _)
  | v :: r, o, cur, w, h => by
    unfold World.setCells; have e := setCell_eq_setRow w g o cur t (0, 0) v h; (have hI : qAW (w.setCell ⟨g, o, none⟩ v) g t (cur.setIfInBounds o v) := by rw [e]; exact h.row _); exact (Bes.row (X := X) (rfl : Hid _) hX).trans (by rw [← e]; exact qCb hX r (o + 1) _ _ hI) (fun _ x => x) (fun _ _ x => x)
theorem qMz {w : World} {base : Nat} {e : TypeId} {size : Nat} {g n cap : Nat} {xs zs vs : List Value} (h : w.ownsRow base e size (.slice (some ⟨g, 0, none⟩) (n + 1) cap) (n + 1) (xs ++ zs)) (hx : xs.length = n * size) (hv : vs.length = size) :
    (w.setCells g (n * size) vs).ownsRow base e size (.slice (some ⟨g, 0, none⟩) (n + 1) cap) (n + 1) (xs ++ vs) ∧ (∀ X : Nat → Prop, X g → Bes X w (w.setCells g (n * size) vs)) ∧ w.there g (n * size) size := by
  rcases h.2 with ⟨hh, _⟩ | ⟨g', cap', cur, hh, hb, hg, hn, hc, hs, ht⟩
  · cases hh
  · (have e1 : g = g' := by injection hh with a; injection a with a; injection a); (have e2 : cap = cap' := by injection hh); subst e1; subst e2; have hI : qAW w g e cur := hg; have hsz : n * size + vs.length ≤ cur.size := by rw [hs, hv, show n * size + size = (n + 1) * size from by rw [Nat.add_mul, Nat.one_mul]]; exact Nat.mul_le_mul_right _ hn
    have hxz : zs.length = size := by
      have := h.1; rw [List.length_append, hx, Nat.add_mul, Nat.one_mul] at this; omega
    refine ⟨⟨by rw [List.length_append, hx, hv, Nat.add_mul, Nat.one_mul], .inr ⟨g, cap, qKE cur (n * size) vs, rfl, hb, qCf vs _ _ _ hI, hn, hc, by rw [qD3, hs], ?_⟩⟩, fun X hX => qCb hX vs _ _ _ hI, ?_⟩
    · apply List.ext_getElem?; intro k; have hk := congrArg (fun l => l[k]?) ht; simp only [List.getElem?_take] at hk ⊢; rw [Array.getElem?_toList, qE0 _ _ _ _ hsz]; rw [Array.getElem?_toList] at hk; (have hm : (n + 1) * size = n * size + size := by rw [Nat.add_mul, Nat.one_mul]); rw [hm] at hk ⊢
      by_cases h1 : k < n * size
      · rw [if_pos (by omega), if_neg (by omega)]; rw [if_pos (by omega)] at hk; rw [hk, List.getElem?_append_left (by omega), List.getElem?_append_left (by omega)]
      · by_cases h2 : k < n * size + size
        · rw [if_pos h2, if_pos (by omega), List.getElem?_append_right (by omega), hx]
        · rw [if_neg h2, List.getElem?_eq_none (by rw [List.length_append]; omega)]
    · intro j hj; refine ⟨?_, hI.frozen _⟩; rw [hI.cell, Array.getElem?_eq_getElem (by omega)]; rfl
variable {P : Program} {o : Oper} {a : Act} {w : World} {Q : Exit → Act → World → Prop} {K : Act → World → Prop} {ops : Array Oper}
theorem qBV {S : World → Prop} {id : Nat} (hm : P.follows .mixedOrders = true) (hS : ∀ w2 : World, w2.heap = w.heap → S w2)
    (h : ∀ w2 : World, w2.heap = w.heap → (∀ B, B ≤ w.heap.size → Below B w w2) → S w2 → wpAnyH P .any ops Q S ops.size (Array.replicate ops.size false) a w2) : (Code.region id ops true).wp P Q a w :=
  wp_region_held_drew hm (hS _ rfl) fun h1 => h _ rfl (fun B hB => ⟨rfl, rfl, rfl, Nat.le_refl _, fun _ _ => rfl⟩) h1
theorem qH2 {S : World → Prop} (hw : Region.wanted o (yielded ops a.tmps) = true) (ty : TypeId) (x : Operand) (ho : o.op = .load ty x) (g : Nat)
    (hx : a.eval x = .pointer (some ⟨g, 0, none⟩)) (t : TypeId) (arr : Array Value) (d : TypeDesc)
    (hc : ∀ w', S w' → qAW w' g t arr) (hu : P.underlying ty = some d) (hd : d.isRow = true) (hi : (P.info? ty).map (·.size) = some arr.size) :
    YieldsIf P ops S o (.agg arr) a := by
  have := yieldsIf_load_mid (P := P) (S := S) hw ty x ho g 0 hx arr.toList d (fun w' hS j v hv => by rw [Nat.zero_add, (hc w' hS).cell j]; simpa using hv) hu hd (by simpa using hi)
  rwa [Array.toArray_toList] at this
theorem qAe (ty : TypeId) (x y : Operand) (ho : o.op = .store ty x y) (g off : Nat) (hx : a.eval x = .pointer (some ⟨g, off, none⟩)) (v : Value) (hy : a.eval y = v)
    (t : TypeId) (old : Array Value) (hg : qAW w g t old) (hoff : off < old.size) (hi : (P.info? ty).map (·.size) = some 1) (h1 : v.oneCell' = true)
    (h : ∀ w', Hid (w' = w.setRow g (old.setIfInBounds off v)) → K (a.put o.dst undef) w') : o.wp P a w K Q := by
  have hc : v.cells = #[v] := by cases v <;> first | rfl | cases h1
  have ht : w.there g off 1 := fun j hj => by
    (obtain rfl : j = 0 := by omega); refine ⟨?_, hg.frozen off⟩; rw [Nat.add_zero, hg.cell off, Array.getElem?_eq_getElem hoff]; rfl
  have hrun : (storeVar ty ⟨g, off, none⟩ v).run P w = .ok () (w.setCells g off [v]) := by
    have := run_storeVar_mid (P := P) w g off ty #[v] ht hi (by simp [h1]); unfold storeVar at this ⊢; rw [hc]; exact this
  have hset : w.setCells g off [v] = w.setRow g (old.setIfInBounds off v) := by
    rw [← setCell_eq_setRow w g off old t (0, 0) v hg]; simp [World.setCells]
  unfold Oper.wp execOp; simp only [ho, hx, hy, Instr.storeAt, Instr.sureAddr, Sem.run_bind, Sem.run_pure, Result.andThen_ok, hrun]; rw [hset]; exact h _ rfl
theorem qA7 (len : Nat) (vals : List (Nat × Value)) (cells : Array Value) (ie : TypeInfo) (z : Value)
    (hf : Instr.fill (fun i => some (i * ie.size, ie.size)) ((Array.range (len * ie.size)).map (z.cells[· % z.cells.size]!)) vals = some cells)
    (t e : TypeId) (parts : Array (Nat × Operand)) (ho : o.op = .buildSlice t len parts) (hv : parts.toList.map (fun x => (x.1, a.eval x.2)) = vals)
    (hu : P.underlying t = some (.slice e)) (hie : P.info? e = some ie) (hz : ie.zero = some z) (hsmall : ¬ len * ie.size > 2 ^ 24) (hpos : ¬ len * ie.size = 0)
    (h : ∀ w', Hid (w' = w.alloc (.cells cells e)) → K (a.put o.dst (.slice (some ⟨w.heap.size, 0, none⟩) len len)) w') : o.wp P a w K Q :=
  wp_buildSlice t e len parts ho cells ie z hu hie hz hsmall hpos (by rw [qDh parts vals hv]; exact hf) (h _ rfl)
theorem qA9 (s x : Operand) (t : TypeId) (ho : o.op = .call { callee := .builtin .append, args := #[s, x], argTypes := #[t, t] })
    (base : Nat) (e : TypeId) (i : TypeInfo) (z : Value) (size bytes : Nat) (ht : P.underlying t = some (.slice e)) (hi : P.info? e = some i) (hz : i.zero = some z)
    (hsize : i.size = size) (hby : i.bytes = bytes) (hzs : z.cells.size = size) (hsz : 0 < size)
    (v : Value) (n : Nat) (xs : List Value) (hs : a.eval s = v) (hown : w.ownsRow base e size v n xs)
    (g c : Nat) (cells : Array Value) (ty : TypeId) (IB : qAW w g ty cells) (hcs : cells.size = size) (hx : a.eval x = .slice (some ⟨g, 0, none⟩) 1 c) (h1 : cells.all (·.oneCell') = true)
    (h63 : n + 1 ≤ maxLen) (hbytes : (n + 1) * bytes ≤ 140737488355328) (hbase : base ≤ w.heap.size)
    (h : ∀ g cap w', w'.ownsRow base e size (.slice (some ⟨g, 0, none⟩) (n + 1) cap) (n + 1) (xs ++ cells.toList) → w.grownBy w' v.ownBlock → (v.ownBlock = some g ∨ g = w.heap.size) → g < w'.heap.size → K (a.put o.dst (.slice (some ⟨g, 0, none⟩) (n + 1) cap)) w') : o.wp P a w K Q :=
  wp_append_lies w s x t ho base e i z size bytes ht hi hz hsize hby hzs hsz v n xs hs hown ⟨g, 0, none⟩ 1 c cells.toList hx (by simp [hcs]) (World.news_of_block IB)
    (fun u hu => Array.all_eq_true_iff_forall_mem.1 h1 u (by simpa using hu)) (by omega) h63 hbytes hbase _ rfl h
theorem qAk (ty : TypeId) (x y : Operand) (ho : o.op = .store ty x y) {base : Nat} {e : TypeId} {size g n cap : Nat} {xs zs : List Value} (cells : Array Value)
    (hO : w.ownsRow base e size (.slice (some ⟨g, 0, none⟩) (n + 1) cap) (n + 1) (xs ++ zs)) (hxs : xs.length = n * size) (hcs : cells.size = size)
    (hx : a.eval x = .pointer (some ⟨g, n * size, none⟩)) (hy : a.eval y = .agg cells) (hi : (P.info? ty).map (·.size) = some cells.size) (h1 : cells.all (·.oneCell') = true)
    (h : ∀ w', w'.ownsRow base e size (.slice (some ⟨g, 0, none⟩) (n + 1) cap) (n + 1) (xs ++ cells.toList) → Bes (· = g) w w' → K (a.put o.dst undef) w') : o.wp P a w K Q := by
  obtain ⟨h2, h3, h4⟩ := qMz hO hxs (vs := cells.toList) (by simpa using hcs); exact wp_store_mid ty x y ho g (n * size) cells hx hy (by rw [hcs]; exact h4) hi h1 (h _ h2 (h3 (· = g) rfl))
end Go.Proofs.YtnjhmnolngdfaaaGreatDoor
namespace Go.Proofs.YtnjhmnolngdfaaaGreatDoor
open Go.RowKit
theorem mi0 : I64 0 := by unfold I64; decide
theorem mi5 : I64 5 := by unfold I64; decide
theorem mi4 : I64 4 := by unfold I64; decide
theorem qPw : 0 * 80 ≤ qAy := by decide
theorem mze : (⟨#[]⟩ : ByteArray).size ≤ qAy := by decide
def qBB (p : ByteArray × JV) : Array Value := #[.string p.1, .int .i64 p.2.v.kind, .bool p.2.v.b, .int .i64 p.2.v.i, .string p.2.v.t, .slice p.2.v.LA p.2.v.Ln p.2.v.Lc, .slice p.2.v.FA p.2.v.Fn p.2.v.Fc]
def qCB (L : List (ByteArray × JV)) : List Value := L.flatMap fun p => (qBB p).toList
theorem qE4 (L M : List (ByteArray × JV)) : qCB (L ++ M) = qCB L ++ qCB M := by unfold qCB; exact List.flatMap_append
theorem qEt (p : ByteArray × JV) : qCB [p] = (qBB p).toList := by unfold qCB; simp
theorem qEJ : ∀ {L : List (ByteArray × JV)} {j : Nat} {p : ByteArray × JV}, L[j]? = some p → ∀ (i : Nat) (v : Value), (qBB p).toList[i]? = some v → (qCB L)[j * 7 + i]? = some v
  | [], j, p, h => by simp at h
  | q :: r, 0, p, h => by
    intro i v hv; (have : q = p := by simpa using h); subst this; unfold qCB; rw [List.flatMap_cons, Nat.zero_mul, Nat.zero_add, List.getElem?_append_left (List.getElem?_eq_some_iff.1 hv).1]; exact hv
  | q :: r, j + 1, p, h => by
    intro i v hv; (have h' : r[j]? = some p := by simpa using h); have := qEJ h' i v hv; unfold qCB at *; rw [List.flatMap_cons, List.getElem?_append_right (by simp [qBB]; omega)]; rw [show (j + 1) * 7 + i - (qBB q).toList.length = j * 7 + i from by simp [qBB]; omega]; exact this
theorem qEd {w : World} {A : Option Addr} {step : Nat} : ∀ (l : List ByteArray) (k : Nat), (∀ i n, l[i]? = some n → (∃ b off, A = some ⟨b, off, none⟩ ∧ w.cell? ⟨b, off + (k + i) * step, none⟩ = some (.string n)) ∧ n.size ≤ qAy) → qBA w A step k l
  | [], k, h => by unfold qBA; exact True.intro
  | x :: r, k, h => by
    unfold qBA; have h0 := h 0 x rfl
    exact ⟨h0.1, h0.2, qEd r (k + 1) (fun i j hj => by
      have := h (i + 1) j (by simpa using hj)
      rwa [show k + (i + 1) = k + 1 + i from by omega] at this)⟩
theorem qGn {w : World} {A : Option Addr} {step shift : Nat} : ∀ (l : List JV) (k : Nat), (∀ i j, l[i]? = some j → (∃ b off, A = some ⟨b, off, none⟩ ∧ w.rangeAt b (off + (k + i) * step + shift) j.cells.toList) ∧ qAi w j) → qBf w A step shift k l
  | [], k, h => by unfold qBf; exact True.intro
  | x :: r, k, h => by
    unfold qBf; have h0 := h 0 x rfl
    exact ⟨h0.1, h0.2, qGn r (k + 1) (fun i j hj => by
      have := h (i + 1) j (by simpa using hj)
      rwa [show k + (i + 1) = k + 1 + i from by omega] at this)⟩
def qDD (A : Option Addr) (c : Nat) (L : List (ByteArray × JV)) : JV := .mk ⟨5, false, 0, ⟨#[]⟩, none, 0, 0, A, L.length, c⟩ [] (L.map (·.1)) (L.map (·.2))
theorem qJm (A : Option Addr) (c : Nat) (L : List (ByteArray × JV)) : (qDD A c L).cells = #[.int .i64 5, .bool false, .int .i64 0, .string ⟨#[]⟩, .slice none 0 0, .slice A L.length c] := rfl
theorem qGu {w : World} {base : Nat} {e : TypeId} {v : Value} {L : List (ByteArray × JV)} {n : Nat} (h : w.ownsRow base e 7 v n (qCB L)) (hn : n = L.length) (hs : ∀ p ∈ L, p.1.size ≤ qAy ∧ qAi w p.2) (hb : L.length * 96 ≤ qAy) :
    ∃ A c, v = .slice A L.length c ∧ qAi w (qDD A c L) := by
  subst hn
  have fin : ∀ A c, (∀ j p, L[j]? = some p → ∃ b off, A = some ⟨b, off, none⟩ ∧ w.rangeAt b (off + j * 7) (qBB p).toList) → qAi w (qDD A c L) := fun A c hr => by
    unfold qDD qAi; refine ⟨⟨mi5, mi0, mze, rfl, by simp, by simp, qPw, hb, ?_⟩, ?_, ?_⟩
    · (refine qEd _ 0 fun i nm hi => ?_); rw [List.getElem?_map] at hi; obtain ⟨p, hp, rfl⟩ := Option.map_eq_some_iff.1 hi; obtain ⟨b, off, hA, hc⟩ := hr i p hp; refine ⟨⟨b, off, hA, ?_⟩, (hs p (List.mem_of_getElem? hp)).1⟩; rw [Nat.zero_add]
      simpa using hc 0 _ rfl
    · unfold qBf; exact True.intro
    · (refine qGn _ 0 fun i j hi => ?_); rw [List.getElem?_map] at hi; obtain ⟨p, hp, rfl⟩ := Option.map_eq_some_iff.1 hi; obtain ⟨b, off, hA, hc⟩ := hr i p hp; refine ⟨⟨b, off, hA, fun k u hu => ?_⟩, (hs p (List.mem_of_getElem? hp)).2⟩; rw [Nat.zero_add]
      have h7 : (qBB p).toList[k + 1]? = some u := by
        have e1 : (qBB p).toList = .string p.1 :: p.2.cells.toList := rfl; rw [e1, List.getElem?_cons_succ]; exact hu
      have := hc (k + 1) u h7
      rwa [show off + i * 7 + (k + 1) = off + i * 7 + 1 + k from by omega] at this
  rcases h.2 with ⟨rfl, h0⟩ | ⟨g, cap, cur, rfl, _, hg, _, _, _, htake⟩
  · have hL : L = [] := List.eq_nil_of_length_eq_zero h0; exact ⟨none, 0, by rw [h0], fin none 0 (fun j p hj => by rw [hL] at hj; simp at hj)⟩
  · refine ⟨some ⟨g, 0, none⟩, cap, rfl, fin _ _ (fun j p hj => ⟨g, 0, rfl, fun i u hu => ?_⟩)⟩; have e1 := qEJ hj i u hu; have hI : qAW w g e cur := hg; rw [← htake, List.getElem?_take] at e1; rw [show 0 + j * 7 + i = j * 7 + i from by omega, hI.cell]
    split at e1
    · simpa using e1
    · cases e1
theorem qBw : ∀ (L : List JV), erL L = L.map er
  | [] => by unfold erL; rfl
  | x :: r => by unfold erL; rw [qBw r]; rfl
theorem qGD (A : Option Addr) (c : Nat) (L : List (ByteArray × JV)) : er (qDD A c L) = .mk 5 false 0 ⟨#[]⟩ [] (L.map (·.1)) (L.map fun p => er p.2) := by
  show JT.mk 5 false 0 ⟨#[]⟩ (erL []) (L.map (·.1)) (erL (L.map (·.2))) = _; rw [qBw, qBw, List.map_map]; rfl
theorem qJk : (Tryz.prog.info? 52).map (fun i => (i.zero, i.size, i.bytes)) = some (some (.agg (qBB (⟨#[]⟩, JV.zero))), 7, 104) := by kernel_rfl
theorem qAV : (Tryz.prog.info? 52).map (·.size) = some 7 := by kernel_rfl
theorem qKq {w : World} {g : Nat} {t : TypeId} {arr : Array Value} (h : qAW w g t arr) : w.rangeAt g 0 arr.toList := fun j v hv => by rw [Nat.zero_add, h.cell]; simpa using hv
theorem qMj {w : World} {base base' : Nat} {e : TypeId} {size : Nat} {v : Value} {n : Nat} {xs : List Value} (h : w.ownsRow base e size v n xs) (hb : base' ≤ base) : w.ownsRow base' e size v n xs := by
  refine ⟨h.1, ?_⟩; rcases h.2 with h0 | ⟨g, cap, cur, hv, hg, rest⟩
  · exact .inl h0
  · exact .inr ⟨g, cap, cur, hv, Nat.le_trans hb hg, rest⟩
theorem qLe {X : Nat → Prop} {w w' : World} (h : Bes X w w') {b off : Nat} {cs : List Value} (hr : w.rangeAt b off cs) (hb : b < w.heap.size ∧ ¬ X b) : w'.rangeAt b off cs := fun j v hv => by
  rw [World.cell?_of_block (h.block b hb.1 hb.2)]; exact hr j v hv
variable {P : Program} {o : Oper} {a : Act} {ops : Array Oper}
theorem qBQ (nm : ByteArray) (x : JV) (w : World) : (Instr.build 52 #[(0, .string nm), (1, .agg x.cells)]).run Tryz.prog w = .ok (.agg (qBB (nm, x))) w := by kernel_rfl
theorem qBR {S : World → Prop} {t : TypeId} {vals : List (Nat × Value)} {cells : Array Value} (hw : Region.wanted o (yielded ops a.tmps) = true) (hrun : ∀ w, (Instr.build t vals.toArray).run P w = .ok (.agg cells) w) (parts : Array (Nat × Operand)) (ho : o.op = .build t parts)
    (hv : parts.toList.map (fun x => (x.1, a.eval x.2)) = vals) : YieldsIf P ops S o (.agg cells) a :=
  .inl ⟨hw, fun w _ => by
    unfold execOp
    simp only [ho, qDh parts vals hv, Sem.run_bind, hrun, Result.andThen_ok, Sem.run_pure]⟩
theorem qAw (p : ByteArray × JV) : (qBB p).all (·.oneCell') = true := by simp [qBB, Value.oneCell']
theorem qC6 (p : ByteArray × JV) : (qBB p).size = 7 := rfl
theorem qDG : ∀ L : List (ByteArray × JV), (qCB L).length = L.length * 7
  | [] => rfl
  | p :: r => by
    have h : qCB (p :: r) = (qBB p).toList ++ qCB r := rfl; rw [h, List.length_append, qDG r, List.length_cons, Nat.add_mul, Array.length_toList, qC6]; omega
theorem qCo : ∃ ie z, Tryz.prog.info? 52 = some ie ∧ ie.zero = some z ∧ ie.size = 7 ∧ ie.bytes = 104 ∧ z = .agg (qBB (⟨#[]⟩, JV.zero)) := by
  have h := qJk
  cases hq : Tryz.prog.info? 52 with
  | none => rw [hq] at h; cases h
  | some ie =>
    rw [hq] at h; simp only [Option.map_some, Option.some.injEq, Prod.mk.injEq] at h; exact ⟨ie, _, rfl, h.1, h.2.1, h.2.2, rfl⟩
theorem qBl (p : ByteArray × JV) : Instr.fill (fun i => some (i * 7, 7)) ((Array.range (1 * 7)).map ((Value.agg (qBB (⟨#[]⟩, JV.zero))).cells[· % (Value.agg (qBB (⟨#[]⟩, JV.zero))).cells.size]!)) [(0, .agg (qBB p))] = some (qBB p) := by kernel_rfl
mutual
def Off (X : Nat → Prop) : JV → Prop
  | .mk v l ns vs => (l ≠ [] → ∀ a, v.LA = some a → ¬ X a.block) ∧ (vs ≠ [] → ∀ a, v.FA = some a → ¬ X a.block) ∧ qCd X l ∧ qCd X vs
def qCd (X : Nat → Prop) : List JV → Prop
  | [] => True
  | x :: r => Off X x ∧ qCd X r
end
mutual
theorem Off.mono {X Y : Nat → Prop} (h : ∀ k, Y k → X k) : ∀ {j : JV}, Off X j → Off Y j
  | .mk v l ns vs, o => by
    unfold Off at o ⊢; exact ⟨fun hl a ha hy => o.1 hl a ha (h _ hy), fun hl a ha hy => o.2.1 hl a ha (h _ hy), qCd.mono h o.2.2.1, qCd.mono h o.2.2.2⟩
theorem qCd.mono {X Y : Nat → Prop} (h : ∀ k, Y k → X k) : ∀ {l : List JV}, qCd X l → qCd Y l
  | [], _ => by unfold qCd; exact True.intro
  | x :: r, o => by unfold qCd at o ⊢; exact ⟨Off.mono h o.1, qCd.mono h o.2⟩
end
mutual
theorem Off.or {X Y : Nat → Prop} : ∀ {j : JV}, Off X j → Off Y j → Off (fun k => X k ∨ Y k) j
  | .mk v l ns vs, o, q => by
    unfold Off at o q ⊢; exact ⟨fun hl a ha hy => hy.elim (o.1 hl a ha) (q.1 hl a ha), fun hl a ha hy => hy.elim (o.2.1 hl a ha) (q.2.1 hl a ha), qCd.or o.2.2.1 q.2.2.1, qCd.or o.2.2.2 q.2.2.2⟩
theorem qCd.or {X Y : Nat → Prop} : ∀ {l : List JV}, qCd X l → qCd Y l → qCd (fun k => X k ∨ Y k) l
  | [], _, _ => by unfold qCd; exact True.intro
  | x :: r, o, q => by unfold qCd at o q ⊢; exact ⟨Off.or o.1 q.1, qCd.or o.2 q.2⟩
end
theorem qCi {X : Nat → Prop} : ∀ {l : List JV}, (∀ x ∈ l, Off X x) → qCd X l
  | [], _ => by unfold qCd; exact True.intro
  | x :: r, h => by unfold qCd; exact ⟨h x (by simp), qCi fun y hy => h y (by simp [hy])⟩
theorem qGR {w : World} {b off : Nat} {x : JV} (h : w.rangeAt b off x.cells.toList) : b < w.heap.size := by
  have := h 0 (.int .i64 x.v.kind) rfl; exact World.block_lt_of_cell? w _ this
mutual
theorem qCD {w : World} : ∀ {j : JV}, qAi w j → Off (fun k => w.heap.size ≤ k) j
  | .mk v l ns vs, h => by
    unfold qAi at h; unfold Off; refine ⟨fun hl a ha hk => ?_, fun hl a ha hk => ?_, qFW h.2.1, qFW h.2.2⟩
    · cases l with
      | nil => exact hl rfl
      | cons x r =>
        have h1 := h.2.1; unfold qBf at h1; obtain ⟨⟨b, off, e, hr⟩, _⟩ := h1; have h2 := qGR hr; rw [ha] at e; have := Option.some.inj e; subst this; have h3 : w.heap.size ≤ b := hk; omega
    · cases vs with
      | nil => exact hl rfl
      | cons x r =>
        have h1 := h.2.2; unfold qBf at h1; obtain ⟨⟨b, off, e, hr⟩, _⟩ := h1; have h2 := qGR hr; rw [ha] at e; have := Option.some.inj e; subst this; have h3 : w.heap.size ≤ b := hk; omega
theorem qFW {w : World} {A : Option Addr} {step shift : Nat} : ∀ {l : List JV} {k : Nat}, qBf w A step shift k l → qCd (fun k => w.heap.size ≤ k) l
  | [], _, _ => by unfold qCd; exact True.intro
  | x :: r, k, h => by unfold qBf at h; unfold qCd; exact ⟨qCD h.2.1, qFW h.2.2⟩
end
theorem qBA.bes {X : Nat → Prop} {w w' : World} (hb : Bes X w w') {A : Option Addr} {step : Nat} : ∀ {l : List ByteArray} {k : Nat}, (l ≠ [] → ∀ a, A = some a → ¬ X a.block) → qBA w A step k l → qBA w' A step k l
  | [], _, _, h => by unfold qBA; exact True.intro
  | x :: r, k, ho, h => by
    unfold qBA at h ⊢; obtain ⟨⟨b, off, e, hc⟩, h2, h3⟩ := h; have hn := ho (by simp) _ e; exact ⟨⟨b, off, e, (World.cell?_of_block (hb.block b (World.block_lt_of_cell? w _ hc) hn)).trans hc⟩, h2, qBA.bes hb (fun _ a ha => ho (by simp) a ha) h3⟩
mutual
theorem qAi.bes {X : Nat → Prop} {w w' : World} (hb : Bes X w w') : ∀ {j : JV}, qAi w j → Off X j → qAi w' j
  | .mk v l ns vs, h, o => by
    unfold qAi at h ⊢; unfold Off at o; refine ⟨⟨h.1.1, h.1.2.1, h.1.2.2.1, h.1.2.2.2.1, h.1.2.2.2.2.1, h.1.2.2.2.2.2.1, h.1.2.2.2.2.2.2.1, h.1.2.2.2.2.2.2.2.1, qBA.bes hb (fun hn => ?_) h.1.2.2.2.2.2.2.2.2⟩, qBf.bes hb o.1 h.2.1 o.2.2.1, qBf.bes hb o.2.1 h.2.2 o.2.2.2⟩; (refine o.2.1 fun hv => hn ?_); have := h.1.2.2.2.2.2.1; rw [hv] at this; exact List.eq_nil_of_length_eq_zero this
theorem qBf.bes {X : Nat → Prop} {w w' : World} (hb : Bes X w w') {A : Option Addr} {step shift : Nat} : ∀ {l : List JV} {k : Nat}, (l ≠ [] → ∀ a, A = some a → ¬ X a.block) → qBf w A step shift k l → qCd X l → qBf w' A step shift k l
  | [], _, _, h, _ => by unfold qBf; exact True.intro
  | x :: r, k, ho, h, o => by
    unfold qBf at h ⊢; unfold qCd at o; obtain ⟨⟨b, off, e, hr⟩, h2, h3⟩ := h; exact ⟨⟨b, off, e, qLe hb hr ⟨qGR hr, ho (by simp) _ e⟩⟩, qAi.bes hb h2 o.1, qBf.bes hb (fun _ a ha => ho (by simp) a ha) h3 o.2⟩
end
def qDK (l : List JV) : List Value := l.flatMap fun x => x.cells.toList
theorem qEz (l m : List JV) : qDK (l ++ m) = qDK l ++ qDK m := by unfold qDK; exact List.flatMap_append
theorem qEw (x : JV) : qDK [x] = x.cells.toList := by unfold qDK; simp
theorem qIy : ∀ {l : List JV} {j : Nat} {x : JV}, l[j]? = some x → ∀ (i : Nat) (v : Value), x.cells.toList[i]? = some v → (qDK l)[j * 6 + i]? = some v
  | [], j, x, h => by simp at h
  | q :: r, 0, x, h => by
    intro i v hv; (have : q = x := by simpa using h); subst this; unfold qDK; rw [List.flatMap_cons, Nat.zero_mul, Nat.zero_add, List.getElem?_append_left (List.getElem?_eq_some_iff.1 hv).1]; exact hv
  | q :: r, j + 1, x, h => by
    intro i v hv; (have h' : r[j]? = some x := by simpa using h); have := qIy h' i v hv; unfold qDK at *; have h6 : q.cells.toList.length = 6 := rfl; rw [List.flatMap_cons, List.getElem?_append_right (by rw [h6]; omega)]; rw [show (j + 1) * 6 + i - q.cells.toList.length = j * 6 + i from by rw [h6]; omega]; exact this
def qBy (A : Option Addr) (c : Nat) (l : List JV) : JV := .mk ⟨4, false, 0, ⟨#[]⟩, A, l.length, c, none, 0, 0⟩ l [] []
theorem qIC (A : Option Addr) (c : Nat) (l : List JV) : er (qBy A c l) = .mk 4 false 0 ⟨#[]⟩ (l.map er) [] [] := by
  show JT.mk 4 false 0 ⟨#[]⟩ (erL l) [] (erL []) = _; rw [qBw]; rfl
theorem qD7 {w : World} {base : Nat} {e : TypeId} {v : Value} {l : List JV} {n : Nat} (h : w.ownsRow base e 6 v n (qDK l)) (hn : n = l.length) (hs : ∀ x ∈ l, qAi w x) (hb : l.length * 80 ≤ qAy) :
    ∃ A c, v = .slice A l.length c ∧ qAi w (qBy A c l) ∧ (∀ a, A = some a → base ≤ a.block) := by
  subst hn
  have fin : ∀ A c, (∀ j x, l[j]? = some x → ∃ b off, A = some ⟨b, off, none⟩ ∧ w.rangeAt b (off + j * 6) x.cells.toList) → qAi w (qBy A c l) := fun A c hr => by
    unfold qBy qAi; refine ⟨⟨mi4, mi0, mze, rfl, rfl, rfl, hb, (by decide : 0 * 96 ≤ qAy), ?_⟩, ?_, ?_⟩
    · unfold qBA; exact True.intro
    · (refine qGn _ 0 fun i x hi => ?_); obtain ⟨b, off, hA, hc⟩ := hr i x hi; refine ⟨⟨b, off, hA, fun k u hu => ?_⟩, hs x (List.mem_of_getElem? hi)⟩; rw [Nat.zero_add, Nat.add_zero]; exact hc k u hu
    · unfold qBf; exact True.intro
  rcases h.2 with ⟨rfl, h0⟩ | ⟨g, cap, cur, rfl, hbg, hg, _, _, _, htake⟩
  · have hL : l = [] := List.eq_nil_of_length_eq_zero h0; exact ⟨none, 0, by rw [h0], fin none 0 (fun j p hj => by rw [hL] at hj; simp at hj), fun a ha => nomatch ha⟩
  · refine ⟨some ⟨g, 0, none⟩, cap, rfl, fin _ _ (fun j p hj => ⟨g, 0, rfl, fun i u hu => ?_⟩), fun a ha => ?_⟩
    · have e1 := qIy hj i u hu; have hI : qAW w g e cur := hg; rw [← htake, List.getElem?_take] at e1; rw [show 0 + j * 6 + i = j * 6 + i from by omega, hI.cell]
      split at e1
      · simpa using e1
      · cases e1
    · have := Option.some.inj ha; subst this; exact hbg
theorem qFI {w : World} {base : Nat} {e : TypeId} {size : Nat} {A : Option Addr} {n m c : Nat} {xs : List Value} (h : w.ownsRow base e size (.slice A m c) n xs) : ∀ a, A = some a → base ≤ a.block := fun a ha => by
  rcases h.2 with ⟨hv, _⟩ | ⟨g, cap, cur, hv, hbg, _⟩
  · injection hv with h1; rw [h1] at ha; cases ha
  · injection hv with h1; rw [h1] at ha; have := Option.some.inj ha; subst this; exact hbg
end Go.Proofs.YtnjhmnolngdfaaaGreatDoor
