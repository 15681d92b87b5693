/- 'm[k]++' where the order is open, with the world between its steps. -/
import Derived.Test.YtpmdpfgaafaceaaMapC
import Derived.Deep.RegionHeld3
namespace Go.Proofs.Ytpmdpfgaafaceaa
open Go.RowKit
open Go.Maps (Keyed)
set_option linter.unusedVariables false
variable {P : Program} {w : World} {k e t : TypeId} {b n : Nat} {f : Lit → Int}
theorem Cnt.bump2 (h : Cnt P w k e b n f) (KL : WideMaps.KeyLaw P k) (ht : P.underlying t = some (.map k e)) (he : P.underlying e = some (.int .i64)) (hz : ∀ w, (zeroValue e).run P w = .ok (.int .i64 0) w) (hn : n < maxLen) {key : Value} {kl : Lit} {c : Int}
    (hkey : keyOf P k key = some kl) (hc : (Lit.int .i64 c).wf = true) :
    ∃ (v0 : Value) (st : Nat) (w1 w2 : World), (Instr.mapEntry t (.map (some b)) key).run P w = .ok (.tuple #[v0, goInt st]) w1 ∧ (Instr.lookup t (.map (some b)) key false).run P w1 = .ok (.int .i64 (f kl)) w1 ∧
      (Instr.entryStore t (.map (some b)) (goInt st) (.int .i64 c)).run P w1 = .ok () w2 ∧ Cnt P w2 k e b (n + 1) (putF f kl c) ∧ w.grownBy w2 (some b) ∧ w.grownBy w1 (some b) := by
  have K := Keyed.of_law KL
  have hlook := h.look K ht he (hz w) hkey
  obtain ⟨w2, hrun2, r1, r2⟩ := h.store K ht he hn hkey hc
  obtain ⟨D, h1, h2, h3⟩ := h
  obtain ⟨es, clock, hb, F, hs, rfl⟩ := h1
  obtain ⟨v0, st, es1, clock1, hrun, hv0, hst⟩ := WideElems.entry_then_store KL ht hz hb F hkey
  obtain ⟨es', clock', hes, hmu⟩ := hst (ChangeMaps.setBlock w b (.map es1 clock1)) (.int .i64 c) (ChangeMaps.heap_setBlock_same hb _)
  rw [hrun2] at hmu
  injection hmu with _ hmu
  have hsb : ChangeMaps.setBlock (ChangeMaps.setBlock w b (.map es1 clock1)) b (.map es' clock') = w2 := by
    rw [hmu]; unfold ChangeMaps.setBlock; simp
  rw [hsb] at hes
  have hb1 := ChangeMaps.heap_setBlock_same hb (.map es1 clock1)
  refine ⟨v0, st, _, w2, hrun, ?_, hes, r1, r2, ⟨rfl, rfl, rfl, by simp [ChangeMaps.setBlock], fun q _ hne => ChangeMaps.heap_setBlock_other hb _ (fun e => hne (by rw [e]))⟩⟩
  rcases KL.find w hkey es.toList F.keys with ⟨f1, f2⟩ | ⟨j, e0, f1, f2, f3⟩
  · have hE : (Instr.mapEntry t (.map (some b)) key).run P w = .ok (.tuple #[.int .i64 0, goInt clock]) (ChangeMaps.setBlock w b (.map (es.push ⟨key, .int .i64 0, clock⟩) (clock + 1))) := by
      simp [Instr.mapEntry, run_underlying ht, MapKept.run_getObj_map hb, KL.check w false hkey, f1, hz, MapKept.run_setObj_map _ hb, Result.andThen, ChangeMaps.setBlock]
    rw [hE] at hrun
    have hw := (Result.ok.inj hrun).2
    have hw' := congrArg (fun u : World => u.heap[b]?) hw
    simp only [ChangeMaps.heap_setBlock_same hb] at hw'
    obtain ⟨e1, e2⟩ := Obj.map.inj (Option.some.inj hw')
    subst e1
    subst e2
    have hf0 : f kl = 0 := by
      simp [Instr.lookup, run_underlying ht, MapKept.run_getObj_map hb, KL.check w _ hkey, f1, hz, Result.andThen] at hlook
      exact hlook.symm
    rw [hf0]
    have hks : ∀ x ∈ (es.push ⟨key, .int .i64 0, clock⟩).toList, ∃ l, keyOf P k x.key = some l := by
      intro x hx
      rw [Array.toList_push, List.mem_append, List.mem_singleton] at hx
      rcases hx with hx | rfl
      · exact F.keys x hx
      · exact ⟨kl, hkey⟩
    rcases KL.find (ChangeMaps.setBlock w b (.map (es.push ⟨key, .int .i64 0, clock⟩) (clock + 1))) hkey _ hks with ⟨g1, g2⟩ | ⟨j, e0, g1, g2, g3⟩
    · exact absurd rfl (g2 ⟨key, .int .i64 0, clock⟩ (by simp))
    · have hm := List.mem_of_getElem? g2
      rw [Array.toList_push, List.mem_append, List.mem_singleton] at hm
      rcases hm with hm | rfl
      · exact absurd g3 (f2 e0 hm)
      · rw [Array.toList_push] at g1
        simp [Instr.lookup, run_underlying ht, MapKept.run_getObj_map hb1, KL.check _ _ hkey, g1, Result.andThen]
  · have hj : es[j]? = some e0 := by simpa using f2
    have hsame : es.modify j (fun e => { e with key := key }) = es := by
      apply Array.ext'
      rw [Array.toList_modify, ChangeMaps.modify_eq_set _ _ _ _ f2]
      have : ({ e0 with key := key } : MapEntry) = e0 := by rw [← f3]
      rw [this]
      exact WideElems.set_self _ _ _ f2
    have hE : (Instr.mapEntry t (.map (some b)) key).run P w = .ok (.tuple #[e0.val, goInt e0.born]) (ChangeMaps.setBlock w b (.map es clock)) := by
      simp [Instr.mapEntry, run_underlying ht, MapKept.run_getObj_map hb, KL.check w false hkey, f1, hj, f3, KL.stays w hkey, hsame, MapKept.run_setObj_map _ hb, Result.andThen, ChangeMaps.setBlock]
    rw [hE] at hrun
    have hw := (Result.ok.inj hrun).2
    have hw' := congrArg (fun u : World => u.heap[b]?) hw
    simp only [ChangeMaps.heap_setBlock_same hb] at hw'
    obtain ⟨e1, e2⟩ := Obj.map.inj (Option.some.inj hw')
    subst e1
    subst e2
    have hv : e0.val = .int .i64 (f kl) := by
      simp [Instr.lookup, run_underlying ht, MapKept.run_getObj_map hb, KL.check w _ hkey, f1, Result.andThen] at hlook
      exact hlook
    rcases KL.find (ChangeMaps.setBlock w b (.map es clock)) hkey es.toList F.keys with ⟨g1, g2⟩ | ⟨j', e', g1, g2, g3⟩
    · exact absurd f3 (g2 e0 (List.mem_of_getElem? f2))
    · have hee : e' = e0 := by
        have hn : es.toList.Pairwise (fun x y => x.key ≠ y.key) := ((Go.MapKept.stamped_iff es clock).1 F.stamped).2.2
        obtain ⟨l1, e1⟩ := List.getElem?_eq_some_iff.1 f2
        obtain ⟨l2, e2⟩ := List.getElem?_eq_some_iff.1 g2
        rcases Nat.lt_trichotomy j j' with hlt | rfl | hlt
        · have := List.pairwise_iff_getElem.1 hn j j' l1 l2 hlt
          rw [e1, e2, f3, g3] at this
          exact absurd rfl this
        · rw [← e1, ← e2]
        · have := List.pairwise_iff_getElem.1 hn j' j l2 l1 hlt
          rw [e1, e2, f3, g3] at this
          exact absurd rfl this
      rw [hee] at g1
      simp [Instr.lookup, run_underlying ht, MapKept.run_getObj_map hb1, KL.check _ _ hkey, g1, hv, Result.andThen]
theorem wp_region_at {ops : Array Oper} {id : Nat} {Q : Exit → Act → World → Prop} {a : Act} (S : World → Prop) (hm : P.follows .mixedOrders = true) (hS : S w.drew)
    (h : ∀ wd, Below w.heap.size w wd → S wd → wpAnyH P .any ops Q S ops.size (Array.replicate ops.size false) a wd) : (Code.region id ops true).wp P Q a w :=
  wp_region_held_drew (S := S) hm hS (fun h1 => h _ ⟨rfl, rfl, rfl, Nat.le_refl _, fun _ _ => rfl⟩ h1)
end Go.Proofs.Ytpmdpfgaafaceaa
