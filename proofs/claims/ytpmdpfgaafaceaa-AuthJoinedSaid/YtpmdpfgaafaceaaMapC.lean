/- A map of counts that the call itself made: what stands at each key; the look-up, the store, 'm[k]++'. -/
import Derived.Test.YtpmdpfgaafaceaaMemL
import Derived.Maps.OwnOps
import Derived.Maps.Views
import Derived.WideKeyEntry
import Derived.DeepKeys5
namespace Go.Proofs.Ytpmdpfgaafaceaa
open Go.RowKit
open Go.Maps (Keyed)
set_option linter.unusedVariables false

/-- Block b is a map of at most n entries, whose number at each key f says. -/
def Cnt (P : Program) (w : World) (k e : TypeId) (b n : Nat) (f : Lit → Int) : Prop :=
  ∃ D : DataW Unit, w.ownsMap P k (plainElem P e) b n D ∧ Maps.IsMap D ∧ ∀ l, WideAt.IsKeyLit l → D.atKey l (.lit (.int .i64 0)) = .lit (.int .i64 (f l))

section
variable {P : Program} {w w' : World} {k e t : TypeId} {b n : Nat} {f : Lit → Int}
theorem Cnt.made (w : World) (P : Program) (k e : TypeId) : Cnt P (w.alloc (.map #[] 0)) k e w.heap.size 0 fun _ => 0 :=
  ⟨.map [], World.ownsMap_made _ _ _ _, Maps.isMap_empty, fun _ _ => rfl⟩
theorem Cnt.below (h : Cnt P w k e b n f) (hb : Below w.heap.size w w') : Cnt P w' k e b n f := by
  obtain ⟨D, h1, h2⟩ := h
  exact ⟨D, h1.kept (row := none) ⟨hb.os, hb.tape, hb.output, hb.size, fun k hk _ => hb.block k hk⟩ (by simp), h2⟩
theorem Cnt.lt (h : Cnt P w k e b n f) : b < w.heap.size := by
  obtain ⟨D, h1, _⟩ := h
  exact h1.lt
theorem Cnt.mono (h : Cnt P w k e b n f) {m : Nat} (hm : n ≤ m) : Cnt P w k e b m f := by
  obtain ⟨D, h1, h2⟩ := h
  exact ⟨D, h1.mono hm, h2⟩
theorem Cnt.congr (h : Cnt P w k e b n f) {g : Lit → Int} (hg : ∀ l, f l = g l) : Cnt P w k e b n g := by
  obtain ⟨D, h1, h2, h3⟩ := h
  exact ⟨D, h1, h2, fun l hl => by rw [h3 l hl, hg l]⟩
theorem Cnt.look (h : Cnt P w k e b n f) (K : Keyed P k) (ht : P.underlying t = some (.map k e)) (he : P.underlying e = some (.int .i64)) (hz : (zeroValue e).run P w = .ok (.int .i64 0) w)
    {key : Value} {kl : Lit} (hkey : keyOf P k key = some kl) : (Instr.lookup t (.map (some b)) key false).run P w = .ok (.int .i64 (f kl)) w := by
  obtain ⟨D, h1, _, h3⟩ := h
  obtain ⟨c, hrun, hat, _⟩ := h1.lookup_int K ht he hz hkey
  rw [h3 kl (K.key hkey)] at hat
  injection hat with hat
  injection hat with _ hat
  rw [hat]; exact hrun
def putF (f : Lit → Int) (kl : Lit) (c : Int) (l : Lit) : Int := if l.sameKey kl = true then c else f l
theorem cnt_put {D : DataW Unit} (hm : Maps.IsMap D) (h3 : ∀ l, WideAt.IsKeyLit l → D.atKey l (.lit (.int .i64 0)) = .lit (.int .i64 (f l))) {kl : Lit} (hk : WideAt.IsKeyLit kl) (c : Int) :
    ∀ l, WideAt.IsKeyLit l → (D.put kl (.lit (.int .i64 c))).atKey l (.lit (.int .i64 0)) = .lit (.int .i64 (putF f kl c l)) := by
  intro l hl
  by_cases hlk : l = kl
  · subst hlk
    unfold putF
    rw [Maps.atKey_put_same hm hk, if_pos (WideAt.sameKey_self hk)]
  · unfold putF
    rw [Maps.atKey_put_other hlk, if_neg (by rw [Maps.sameKey_ne hlk]; simp)]
    exact h3 l hl
theorem Cnt.store (h : Cnt P w k e b n f) (K : Keyed P k) (ht : P.underlying t = some (.map k e)) (he : P.underlying e = some (.int .i64)) (hn : n < maxLen) {key : Value} {kl : Lit} {c : Int}
    (hkey : keyOf P k key = some kl) (hc : (Lit.int .i64 c).wf = true) :
    ∃ w', (Instr.mapUpdate t (.map (some b)) key (.int .i64 c)).run P w = .ok () w' ∧ Cnt P w' k e b (n + 1) (putF f kl c) ∧ w.grownBy w' (some b) := by
  obtain ⟨D, h1, h2, h3⟩ := h
  obtain ⟨w', hrun, r1, r2⟩ := h1.update K ht hn hkey (plainElem_int he hc)
  exact ⟨w', hrun, ⟨_, r1, h2.put _ _, cnt_put h2 h3 (K.key hkey) c⟩, r2⟩

/-- The look-up at the operation. -/
theorem wpl_look_cnt {ops : Array Oper} {rest : List Oper} {o : Oper} {a : Act} {Q : Exit → Act → World → Prop} (hgd : o.guard = none) (m x : Operand) (t : TypeId) (hop : o.op = Op.lookup t m x false)
    (K : Keyed P k) (ht : P.underlying t = some (.map k e)) (he : P.underlying e = some (.int .i64)) (hz : ∀ w, (zeroValue e).run P w = .ok (.int .i64 0) w) (hown : Cnt P w k e b n f) (hm : a.eval m = .map (some b))
    (key : Value) (kl : Lit) (hx : a.eval x = key) (hkey : keyOf P k key = some kl)
    (h : wpList P ops Q rest (a.put o.dst (.int .i64 (f kl))) w) : wpList P ops Q (o :: rest) a w :=
  wpList_plain hgd fun _ hK => by
    unfold Oper.wp
    simp [execOp, hop, hm, hx, hown.look K ht he (hz w) hkey, Result.andThen]
    exact hK _ _ h
/-- The store at the operation. -/
theorem wpl_store_cnt {ops : Array Oper} {rest : List Oper} {o : Oper} {a : Act} {Q : Exit → Act → World → Prop} (hgd : o.guard = none) (m x v : Operand) (t : TypeId) (hop : o.op = Op.mapUpdate t m x v)
    (K : Keyed P k) (ht : P.underlying t = some (.map k e)) (he : P.underlying e = some (.int .i64)) (hown : Cnt P w k e b n f) (hn : n < maxLen) (hm : a.eval m = .map (some b))
    (key : Value) (kl : Lit) (hx : a.eval x = key) (hkey : keyOf P k key = some kl) (c : Int) (hv : a.eval v = .int .i64 c) (hc : (Lit.int .i64 c).wf = true)
    (h : ∀ w', Cnt P w' k e b (n + 1) (putF f kl c) → w.grownBy w' (some b) → wpList P ops Q rest (a.put o.dst undef) w') : wpList P ops Q (o :: rest) a w :=
  wpList_plain hgd fun _ hK => by
    obtain ⟨w', hrun, r1, r2⟩ := hown.store K ht he hn hkey hc
    unfold Oper.wp
    simp [execOp, hop, hm, hx, hv, hrun, Result.andThen]
    exact hK _ _ (h w' r1 r2)

/-- 'm[k]++' where the order is open: the entry is made or found ahead of the look-up or behind it. -/
theorem Cnt.bump (h : Cnt P w k e b n f) (KL : WideMaps.KeyLaw P k) (ht : P.underlying t = some (.map k e)) (he : P.underlying e = some (.int .i64)) (hz : ∀ w, (zeroValue e).run P w = .ok (.int .i64 0) w) (hn : n < maxLen) {key : Value} {kl : Lit} {c : Int}
    (hkey : keyOf P k key = some kl) (hc : (Lit.int .i64 c).wf = true) :
    ∃ (v0 : Value) (st : Nat) (w1 w2 : World), (Instr.mapEntry t (.map (some b)) key).run P w = .ok (.tuple #[v0, goInt st]) w1 ∧ (Instr.lookup t (.map (some b)) key false).run P w1 = .ok (.int .i64 (f kl)) w1 ∧
      (Instr.entryStore t (.map (some b)) (goInt st) (.int .i64 c)).run P w1 = .ok () w2 ∧ Cnt P w2 k e b (n + 1) (putF f kl c) ∧ w.grownBy w2 (some b) := by
  have K := Keyed.of_law KL
  have hlook := h.look K ht he (hz w) hkey
  obtain ⟨w2, hrun2, r1, r2⟩ := h.store K ht he hn hkey hc
  obtain ⟨D, h1, h2, h3⟩ := h
  obtain ⟨es, clock, hb, F, hs, rfl⟩ := h1
  obtain ⟨v0, st, es1, clock1, hrun, hv0, hst⟩ := WideElems.entry_then_store KL ht hz hb F hkey
  obtain ⟨es', clock', hes, hmu⟩ := hst (ChangeMaps.setBlock w b (.map es1 clock1)) (.int .i64 c) (ChangeMaps.heap_setBlock_same hb _)
  rw [hrun2] at hmu
  injection hmu with _ hmu
  have hsb : ChangeMaps.setBlock (ChangeMaps.setBlock w b (.map es1 clock1)) b (.map es' clock') = w2 := by
    rw [hmu]; unfold ChangeMaps.setBlock; simp
  rw [hsb] at hes
  have hb1 := ChangeMaps.heap_setBlock_same hb (.map es1 clock1)
  refine ⟨v0, st, _, w2, hrun, ?_, hes, r1, r2⟩
  rcases KL.find w hkey es.toList F.keys with ⟨f1, f2⟩ | ⟨j, e0, f1, f2, f3⟩
  · have hE : (Instr.mapEntry t (.map (some b)) key).run P w = .ok (.tuple #[.int .i64 0, goInt clock]) (ChangeMaps.setBlock w b (.map (es.push ⟨key, .int .i64 0, clock⟩) (clock + 1))) := by
      simp [Instr.mapEntry, run_underlying ht, MapKept.run_getObj_map hb, KL.check w false hkey, f1, hz, MapKept.run_setObj_map _ hb, Result.andThen, ChangeMaps.setBlock]
    rw [hE] at hrun
    have hw := (Result.ok.inj hrun).2
    have hw' := congrArg (fun u : World => u.heap[b]?) hw
    simp only [ChangeMaps.heap_setBlock_same hb] at hw'
    obtain ⟨e1, e2⟩ := Obj.map.inj (Option.some.inj hw')
    subst e1
    subst e2
    have hf0 : f kl = 0 := by
      simp [Instr.lookup, run_underlying ht, MapKept.run_getObj_map hb, KL.check w _ hkey, f1, hz, Result.andThen] at hlook
      exact hlook.symm
    rw [hf0]
    have hks : ∀ x ∈ (es.push ⟨key, .int .i64 0, clock⟩).toList, ∃ l, keyOf P k x.key = some l := by
      intro x hx
      rw [Array.toList_push, List.mem_append, List.mem_singleton] at hx
      rcases hx with hx | rfl
      · exact F.keys x hx
      · exact ⟨kl, hkey⟩
    rcases KL.find (ChangeMaps.setBlock w b (.map (es.push ⟨key, .int .i64 0, clock⟩) (clock + 1))) hkey _ hks with ⟨g1, g2⟩ | ⟨j, e0, g1, g2, g3⟩
    · exact absurd rfl (g2 ⟨key, .int .i64 0, clock⟩ (by simp))
    · have hm := List.mem_of_getElem? g2
      rw [Array.toList_push, List.mem_append, List.mem_singleton] at hm
      rcases hm with hm | rfl
      · exact absurd g3 (f2 e0 hm)
      · rw [Array.toList_push] at g1
        simp [Instr.lookup, run_underlying ht, MapKept.run_getObj_map hb1, KL.check _ _ hkey, g1, Result.andThen]
  · have hj : es[j]? = some e0 := by simpa using f2
    have hsame : es.modify j (fun e => { e with key := key }) = es := by
      apply Array.ext'
      rw [Array.toList_modify, ChangeMaps.modify_eq_set _ _ _ _ f2]
      have : ({ e0 with key := key } : MapEntry) = e0 := by rw [← f3]
      rw [this]
      exact WideElems.set_self _ _ _ f2
    have hE : (Instr.mapEntry t (.map (some b)) key).run P w = .ok (.tuple #[e0.val, goInt e0.born]) (ChangeMaps.setBlock w b (.map es clock)) := by
      simp [Instr.mapEntry, run_underlying ht, MapKept.run_getObj_map hb, KL.check w false hkey, f1, hj, f3, KL.stays w hkey, hsame, MapKept.run_setObj_map _ hb, Result.andThen, ChangeMaps.setBlock]
    rw [hE] at hrun
    have hw := (Result.ok.inj hrun).2
    have hw' := congrArg (fun u : World => u.heap[b]?) hw
    simp only [ChangeMaps.heap_setBlock_same hb] at hw'
    obtain ⟨e1, e2⟩ := Obj.map.inj (Option.some.inj hw')
    subst e1
    subst e2
    have hv : e0.val = .int .i64 (f kl) := by
      simp [Instr.lookup, run_underlying ht, MapKept.run_getObj_map hb, KL.check w _ hkey, f1, Result.andThen] at hlook
      exact hlook
    rcases KL.find (ChangeMaps.setBlock w b (.map es clock)) hkey es.toList F.keys with ⟨g1, g2⟩ | ⟨j', e', g1, g2, g3⟩
    · exact absurd f3 (g2 e0 (List.mem_of_getElem? f2))
    · have hee : e' = e0 := by
        have hn : es.toList.Pairwise (fun x y => x.key ≠ y.key) := ((Go.MapKept.stamped_iff es clock).1 F.stamped).2.2
        obtain ⟨l1, e1⟩ := List.getElem?_eq_some_iff.1 f2
        obtain ⟨l2, e2⟩ := List.getElem?_eq_some_iff.1 g2
        rcases Nat.lt_trichotomy j j' with hlt | rfl | hlt
        · have := List.pairwise_iff_getElem.1 hn j j' l1 l2 hlt
          rw [e1, e2, f3, g3] at this
          exact absurd rfl this
        · rw [← e1, ← e2]
        · have := List.pairwise_iff_getElem.1 hn j' j l2 l1 hlt
          rw [e1, e2, f3, g3] at this
          exact absurd rfl this
      rw [hee] at g1
      simp [Instr.lookup, run_underlying ht, MapKept.run_getObj_map hb1, KL.check _ _ hkey, g1, hv, Result.andThen]
end
end Go.Proofs.Ytpmdpfgaafaceaa
