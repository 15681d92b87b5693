/- Layer 2: what the reader leans on in memory (errors, tables); strconv.ParseUint; utf.Pair. -/
import Derived.Test.YtnjhmnolngdfaaaGreatDoorJrC
import Derived.Test.YtnjhmnolngdfaaaGreatDoorJsB
namespace Go.Proofs.YtnjhmnolngdfaaaGreatDoor
open Go.RowKit Go.PlainAid
set_option linter.unusedVariables false
set_option linter.unusedSimpArgs false

/-- An error's variable. -/
def ErrAt (w : World) (g : Nat) : Prop := ∃ ev, w.cell? ⟨g, 0, none⟩ = some ev ∧ (ev = .nilIface ∨ ∃ te pe, ev = .iface te pe)
/-- The variables that reading leans on, none of them the reader's own block. -/
structure Gl (w : World) (r : Nat) : Prop where
  syn : ErrAt w 4
  rng : ErrAt w 5
  tabs : Lib.Utf8Tabs 1 2 w
  n1 : 4 < r
  n2 : 5 < r
  n3 : 1 < r
  n4 : 2 < r
theorem cell_bes {X : Nat → Prop} {w w' : World} {b j : Nat} {v : Value} (h : Bes X w w') (hn : ¬ X b) (hc : w.cell? ⟨b, j, none⟩ = some v) : w'.cell? ⟨b, j, none⟩ = some v :=
  (World.cell?_of_block (h.block b (World.block_lt_of_cell? w _ hc) hn)).trans hc
theorem ErrAt.bes {X : Nat → Prop} {w w' : World} {g : Nat} (h : Bes X w w') (hn : ¬ X g) (he : ErrAt w g) : ErrAt w' g := by
  obtain ⟨ev, h1, h2⟩ := he
  exact ⟨ev, cell_bes h hn h1, h2⟩
theorem Gl.bes {X : Nat → Prop} {r : Nat} {w w' : World} (h : Bes X w w') (hx : ∀ k, k < r → ¬ X k) (hg : Gl w r) : Gl w' r :=
  ⟨hg.syn.bes h (hx _ hg.n1), hg.rng.bes h (hx _ hg.n2), ⟨fun c hc => cell_bes h (hx _ hg.n3) (hg.tabs.1 c hc), fun i hi => ⟨cell_bes h (hx _ hg.n4) (hg.tabs.2 i hi).1, cell_bes h (hx _ hg.n4) (hg.tabs.2 i hi).2⟩⟩, hg.n1, hg.n2, hg.n3, hg.n4⟩
theorem Gl.mv {r : Nat} {w w' : World} (h : Mv r w w') (hg : Gl w r) : Gl w' r := hg.bes h (fun k hk e => Nat.ne_of_lt hk e)
theorem Gl.below {r : Nat} {w w' : World} (h : Below w.heap.size w w') (hg : Gl w r) : Gl w' r := hg.mv (Mv.of h)
def SpRes (o : Out Int) (w : World) (e : Ending) (w' : World) : Prop := Below w.heap.size w w' ∧ (match o with
    | .ok v _ => e = .returned (.tuple #[.int .u64 v, .nilIface])
    | .bad _ _ => ∃ t p, e = .returned (.tuple #[.int .u64 0, .iface t p]))
theorem spu_any (t : ByteArray) (ht : t.size = 4) {w : World} (he : ErrAt w 4) : Calls Tryz.prog 100 #[.string t, .int .i64 16, .int .i64 32] w (SpRes (hexTo t 4 0 0) w) := by
  have HB := Below.refl w.heap.size w
  cases ho : hexTo t 4 0 0 with
  | ok v k =>
    go_enter Tryz.func100, Tryz.ntmps100
    go_wp2_with (go_at_call 116; (with_reducible refine (pu_any t ht _).mono ?_); rw [ho]; rintro e w1 ⟨hb, rfl⟩)
    refine bodyPost_ret (results_tmp2 rfl _ _ _) rfl ?_
    exact ⟨hb, rfl⟩
  | bad c k =>
    go_enter Tryz.func100, Tryz.ntmps100
    go_wp2_with (first
      | (go_at_call 116; (with_reducible refine (pu_any t ht _).mono ?_); rw [ho]; rintro e w1 ⟨hb, rfl⟩; obtain ⟨ev, he1, he2⟩ := he; replace he1 := cell_below hb he1)
      | (go_at_call 97; (with_reducible refine (Tryz.strconv_toError_syntax _ t _ _ ev _ (by rw [ht]; decide) he1 he2).mono ?_); rintro e w2 ⟨N, rfl, _, _, hb2⟩))
    refine bodyPost_ret (results_tmp2 rfl _ _ _) rfl ?_
    exact ⟨hb.trans (hb2.mono hb.size), _, _, rfl⟩
def PairB (n m : Int) : Bool := decide (55296 ≤ n) && decide (n ≤ 56319) && decide (56320 ≤ m) && decide (m ≤ 57343)
theorem pair_ok {n m : Int} (h1 : 55296 ≤ n) (h2 : n ≤ 56319) (h3 : 56320 ≤ m) (h4 : m ≤ 57343) (w : World) : Calls Tryz.prog 101 #[.int .i64 n, .int .i64 m] w fun e w' => e = .returned (.tuple #[.int .i64 (65536 + 1024 * (n - 55296) + (m - 56320)), .nilIface]) ∧ w' = w := by
  have e1 : ¬ n < 55296 := by omega
  have e2 : ¬ n > 56319 := by omega
  have e3 : ¬ m < 56320 := by omega
  have e4 : ¬ m > 57343 := by omega
  go_enter Tryz.func101, Tryz.ntmps101
  go_wp2
  refine bodyPost_ret (results_tmp2 rfl _ _ _) rfl ⟨?_, rfl⟩
  show Ending.returned (.tuple #[.int .i64 (65536 + (n - 55296) * 1024 + m - 56320), .nilIface]) = _
  rw [show 65536 + (n - 55296) * 1024 + m - 56320 = 65536 + 1024 * (n - 55296) + (m - 56320) by omega]
theorem pair_bad {n m : Int} (h0 : 0 ≤ n) (h0' : n < 65536) (k0 : 0 ≤ m) (k1 : m < 65536) (h : ¬ (55296 ≤ n ∧ n ≤ 56319 ∧ 56320 ≤ m ∧ m ≤ 57343)) (w : World) : Calls Tryz.prog 101 #[.int .i64 n, .int .i64 m] w fun e w' => e = .returned (.tuple #[.int .i64 0, .iface 31 (.int .i64 1)]) ∧ w' = w := by
  by_cases e1 : n < 55296 <;> by_cases e2 : n > 56319 <;> by_cases e3 : m < 56320 <;> by_cases e4 : m > 57343
  all_goals try (exfalso; omega)
  all_goals
    go_enter Tryz.func101, Tryz.ntmps101
    go_wp2
    refine bodyPost_ret (results_tmp2 rfl _ _ _) rfl ?_
    exact ⟨rfl, rfl⟩
end Go.Proofs.YtnjhmnolngdfaaaGreatDoor
