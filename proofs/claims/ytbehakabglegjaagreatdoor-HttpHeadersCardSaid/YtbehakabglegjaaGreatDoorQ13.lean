/- Layer 9: a target is cut: does a byte stand here? Layer 9: a new feed. Layer 9: a feed's steps: a request's method. -/
import Derived.Test.YtbehakabglegjaaGreatDoorQ11
import Derived.Test.YtbehakabglegjaaGreatDoorQ07
import Derived.Test.YtbehakabglegjaaGreatDoorQ12
namespace Go.Proofs.YtbehakabglegjaaGreatDoor
open Go.RowKit Go.PlainAid
set_option linter.unusedVariables false
set_option linter.unusedSimpArgs false
def CtA (s : ByteArray) (k : Nat) : Array Value := #[.string s, .int .i64 (k : Int)]
abbrev CtM (w : World) (g : Nat) (s : ByteArray) (k : Nat) : Prop := IBox w g 91 (CtA s k)
theorem CtM.c0 {w : World} {g : Nat} {s : ByteArray} {k : Nat} (h : CtM w g s k) : w.cell? ⟨g, 0, none⟩ = some (.string s) := h.cell 0
theorem CtM.c1 {w : World} {g : Nat} {s : ByteArray} {k : Nat} (h : CtM w g s k) : w.cell? ⟨g, 1, none⟩ = some (.int .i64 (k : Int)) := h.cell 1
theorem bt_in {s : ByteArray} {i : Nat} {c : UInt8} (h : s.data.toList[i]? = some c) : bt s i = (c.toNat : Int) := by
  obtain ⟨h1, h2⟩ := List.getElem?_eq_some_iff.1 h
  unfold bt
  rw [dif_pos (show i < s.size from h1), ← h2]
  rfl
set_option maxRecDepth 100000 in
set_option maxHeartbeats 4000000 in
theorem end_no {g : Nat} {s : ByteArray} {k : Nat} {x : UInt8} {w : World} (B : CtM w g s k) (hk : s.size ≤ k) (hs : k ≤ 1099511627776) :
    Calls Tryz.prog 45 #[.pointer (some ⟨g, 0, none⟩), .int .u8 (x.toNat : Int)] w fun e w' => e = .returned (.bool false) ∧ Bes (· = g) w w' ∧ CtM w' g s k := by
  have hn : ¬ (k : Int) < (s.size : Int) := by omega
  go_enter Tryz.func45, Tryz.ntmps45
  go_wp2
  refine wp_region_S (S := fun w' => w'.cell? ⟨g, 0, none⟩ = some (.string s) ∧ w'.cell? ⟨g, 1, none⟩ = some (.int .i64 (k : Int))) (by kernel_rfl) (fun w2 hh => ⟨CtM.c0 (box_heap hh B), CtM.c1 (box_heap hh B)⟩) (fun w2 hh hbb HS0 => ?_)
  have HB : Bes (· = g) w w2 := Bes.of_below (hbb _ (Nat.le_refl _))
  replace B := box_heap hh B
  clear hh hbb
  refine TKC 0 5 rfl ?_
  try simp only [Act.put, zA, zB, zC]
  refine TKC 1 6 rfl ?_
  try simp only [Act.put, zA, zB, zC]
  refine TKC 2 7 rfl ?_
  try simp only [Act.put, zA, zB, zC]
  refine TKC 3 8 rfl ?_ (by (intro w hSw; (try dsimp only at hSw); have q1 := hSw.2; go_simp; try with_reducible rfl))
  try simp only [Act.put, zA, zB, zC]
  refine TKC 4 9 rfl ?_
  try simp only [Act.put, zA, zB, zC]
  refine TKC 5 10 rfl ?_
  try simp only [Act.put, zA, zB, zC]
  refine TKC 6 11 rfl ?_
  try simp only [Act.put, zA, zB, zC]
  refine TKC 7 12 rfl ?_ (by (intro w hSw; (try dsimp only at hSw); have q1 := hSw.1; go_simp; try with_reducible rfl))
  try simp only [Act.put, zA, zB, zC]
  refine TKC 8 13 rfl ?_
  try simp only [Act.put, zA, zB, zC]
  refine TKC 9 14 (v := .bool false) rfl ?_
  try simp only [Act.put, zA, zB, zC]
  refine TKC 10 15 rfl ?_
  try simp only [Act.put, zA, zB, zC]
  refine TKN 11 16 rfl ?_
  try simp only [Act.put, zA, zB, zC]
  refine TKN 12 17 rfl ?_
  try simp only [Act.put, zA, zB, zC]
  refine TKN 13 18 rfl ?_
  try simp only [Act.put, zA, zB, zC]
  refine TKN 14 19 rfl ?_
  try simp only [Act.put, zA, zB, zC]
  refine TKN 15 20 rfl ?_
  try simp only [Act.put, zA, zB, zC]
  refine TKN 16 21 rfl ?_
  try simp only [Act.put, zA, zB, zC]
  refine TKN 17 22 rfl ?_
  try simp only [Act.put, zA, zB, zC]
  refine TKN 18 23 rfl ?_
  try simp only [Act.put, zA, zB, zC]
  refine TKN 19 24 rfl ?_
  try simp only [Act.put, zA, zB, zC]
  refine TKN 20 25 rfl ?_
  try simp only [Act.put, zA, zB, zC]
  refine TKN 21 26 rfl ?_
  try simp only [Act.put, zA, zB, zC]
  refine TKC 22 27 rfl ?_
  try simp only [Act.put, zA, zB, zC]
  refine wpAnyH_done (by kernel_rfl) ?_ _
  have c0 := HS0.1
  have c1 := HS0.2
  clear HS0
  go_wp2
  go_ret
  exact ⟨rfl, HB, B⟩
set_option maxRecDepth 100000 in
set_option maxHeartbeats 4000000 in
theorem end_other {g : Nat} {s : ByteArray} {k : Nat} {x c : UInt8} {w : World} (B : CtM w g s k) (hc : (bl s)[k]? = some c) (hne : c ≠ x) (hs : s.size ≤ 1099511627776) :
    Calls Tryz.prog 45 #[.pointer (some ⟨g, 0, none⟩), .int .u8 (x.toNat : Int)] w fun e w' => e = .returned (.bool false) ∧ Bes (· = g) w w' ∧ CtM w' g s k := by
  have hxi : ((c.toNat : Int) == (x.toNat : Int)) = false := by
    rw [beq_eq_false_iff_ne]
    intro e
    exact hne (UInt8.toNat_inj.1 (by omega))
  have hlt : k < s.size := (List.getElem?_eq_some_iff.1 hc).1
  have hbs := get_bt s
  have hcb := bt_in hc
  have hi : (k : Int) < (s.size : Int) := by omega
  clear hc
  clear hne
  go_enter Tryz.func45, Tryz.ntmps45
  go_wp2
  refine wp_region_S (S := fun w' => w'.cell? ⟨g, 0, none⟩ = some (.string s) ∧ w'.cell? ⟨g, 1, none⟩ = some (.int .i64 (k : Int))) (by kernel_rfl) (fun w2 hh => ⟨CtM.c0 (box_heap hh B), CtM.c1 (box_heap hh B)⟩) (fun w2 hh hbb HS0 => ?_)
  have HB : Bes (· = g) w w2 := Bes.of_below (hbb _ (Nat.le_refl _))
  replace B := box_heap hh B
  clear hh hbb
  refine TKC 0 5 rfl ?_
  try simp only [Act.put, zA, zB, zC]
  refine TKC 1 6 rfl ?_
  try simp only [Act.put, zA, zB, zC]
  refine TKC 2 7 rfl ?_
  try simp only [Act.put, zA, zB, zC]
  refine TKC 3 8 rfl ?_ (by (intro w hSw; (try dsimp only at hSw); have q1 := hSw.2; go_simp; try with_reducible rfl))
  try simp only [Act.put, zA, zB, zC]
  refine TKC 4 9 rfl ?_
  try simp only [Act.put, zA, zB, zC]
  refine TKC 5 10 rfl ?_
  try simp only [Act.put, zA, zB, zC]
  refine TKC 6 11 rfl ?_
  try simp only [Act.put, zA, zB, zC]
  refine TKC 7 12 rfl ?_ (by (intro w hSw; (try dsimp only at hSw); have q1 := hSw.1; go_simp; try with_reducible rfl))
  try simp only [Act.put, zA, zB, zC]
  refine TKC 8 13 rfl ?_
  try simp only [Act.put, zA, zB, zC]
  refine TKC 9 14 (v := .bool true) rfl ?_
  try simp only [Act.put, zA, zB, zC]
  refine TKC 10 15 rfl ?_
  try simp only [Act.put, zA, zB, zC]
  refine TKC 11 16 rfl ?_
  try simp only [Act.put, zA, zB, zC]
  refine TKC 12 17 rfl ?_
  try simp only [Act.put, zA, zB, zC]
  refine TKC 13 18 rfl ?_
  try simp only [Act.put, zA, zB, zC]
  refine TKC 14 19 rfl ?_ (by (intro w hSw; (try dsimp only at hSw); have q1 := hSw.1; go_simp; try with_reducible rfl))
  try simp only [Act.put, zA, zB, zC]
  refine TKC 15 20 rfl ?_
  try simp only [Act.put, zA, zB, zC]
  refine TKC 16 21 rfl ?_
  try simp only [Act.put, zA, zB, zC]
  refine TKC 17 22 rfl ?_
  try simp only [Act.put, zA, zB, zC]
  refine TKC 18 23 rfl ?_ (by (intro w hSw; (try dsimp only at hSw); have q1 := hSw.2; go_simp; try with_reducible rfl))
  try simp only [Act.put, zA, zB, zC]
  refine TKC 19 24 rfl ?_
  try simp only [Act.put, zA, zB, zC]
  refine TKC 20 25 rfl ?_
  try simp only [Act.put, zA, zB, zC]
  refine TKC 21 26 rfl ?_
  try simp only [Act.put, zA, zB, zC]
  refine TKC 22 27 rfl ?_
  try simp only [Act.put, zA, zB, zC]
  refine wpAnyH_done (by kernel_rfl) ?_ _
  have c0 := HS0.1
  have c1 := HS0.2
  clear HS0
  go_wp2
  go_ret
  exact ⟨rfl, HB, B⟩
set_option maxRecDepth 100000 in
set_option maxHeartbeats 4000000 in
theorem end_yes {g : Nat} {s : ByteArray} {k : Nat} {c : UInt8} {w : World} (B : CtM w g s k) (hc : (bl s)[k]? = some c) (hs : s.size ≤ 1099511627776) :
    Calls Tryz.prog 45 #[.pointer (some ⟨g, 0, none⟩), .int .u8 (c.toNat : Int)] w fun e w' => e = .returned (.bool true) ∧ Bes (· = g) w w' ∧ CtM w' g s (k + 1) := by
  have hlt : k < s.size := (List.getElem?_eq_some_iff.1 hc).1
  have hbs := get_bt s
  have hcb := bt_in hc
  have hi : (k : Int) < (s.size : Int) := by omega
  clear hc
  go_enter Tryz.func45, Tryz.ntmps45
  go_wp2
  refine wp_region_S (S := fun w' => w'.cell? ⟨g, 0, none⟩ = some (.string s) ∧ w'.cell? ⟨g, 1, none⟩ = some (.int .i64 (k : Int))) (by kernel_rfl) (fun w2 hh => ⟨CtM.c0 (box_heap hh B), CtM.c1 (box_heap hh B)⟩) (fun w2 hh hbb HS0 => ?_)
  have HB : Bes (· = g) w w2 := Bes.of_below (hbb _ (Nat.le_refl _))
  replace B := box_heap hh B
  clear hh hbb
  refine TKC 0 5 rfl ?_
  try simp only [Act.put, zA, zB, zC]
  refine TKC 1 6 rfl ?_
  try simp only [Act.put, zA, zB, zC]
  refine TKC 2 7 rfl ?_
  try simp only [Act.put, zA, zB, zC]
  refine TKC 3 8 rfl ?_ (by (intro w hSw; (try dsimp only at hSw); have q1 := hSw.2; go_simp; try with_reducible rfl))
  try simp only [Act.put, zA, zB, zC]
  refine TKC 4 9 rfl ?_
  try simp only [Act.put, zA, zB, zC]
  refine TKC 5 10 rfl ?_
  try simp only [Act.put, zA, zB, zC]
  refine TKC 6 11 rfl ?_
  try simp only [Act.put, zA, zB, zC]
  refine TKC 7 12 rfl ?_ (by (intro w hSw; (try dsimp only at hSw); have q1 := hSw.1; go_simp; try with_reducible rfl))
  try simp only [Act.put, zA, zB, zC]
  refine TKC 8 13 rfl ?_
  try simp only [Act.put, zA, zB, zC]
  refine TKC 9 14 (v := .bool true) rfl ?_
  try simp only [Act.put, zA, zB, zC]
  refine TKC 10 15 rfl ?_
  try simp only [Act.put, zA, zB, zC]
  refine TKC 11 16 rfl ?_
  try simp only [Act.put, zA, zB, zC]
  refine TKC 12 17 rfl ?_
  try simp only [Act.put, zA, zB, zC]
  refine TKC 13 18 rfl ?_
  try simp only [Act.put, zA, zB, zC]
  refine TKC 14 19 rfl ?_ (by (intro w hSw; (try dsimp only at hSw); have q1 := hSw.1; go_simp; try with_reducible rfl))
  try simp only [Act.put, zA, zB, zC]
  refine TKC 15 20 rfl ?_
  try simp only [Act.put, zA, zB, zC]
  refine TKC 16 21 rfl ?_
  try simp only [Act.put, zA, zB, zC]
  refine TKC 17 22 rfl ?_
  try simp only [Act.put, zA, zB, zC]
  refine TKC 18 23 rfl ?_ (by (intro w hSw; (try dsimp only at hSw); have q1 := hSw.2; go_simp; try with_reducible rfl))
  try simp only [Act.put, zA, zB, zC]
  refine TKC 19 24 rfl ?_
  try simp only [Act.put, zA, zB, zC]
  refine TKC 20 25 rfl ?_
  try simp only [Act.put, zA, zB, zC]
  refine TKC 21 26 rfl ?_
  try simp only [Act.put, zA, zB, zC]
  refine TKC 22 27 rfl ?_
  try simp only [Act.put, zA, zB, zC]
  refine wpAnyH_done (by kernel_rfl) ?_ _
  have c0 := HS0.1
  have c1 := HS0.2
  clear HS0
  go_wp2_with (first
    | ((with_reducible refine is_store ?_); refine wpl_store_cell rfl 3 (.tmp 34) (.tmp 32) rfl g 1 rfl (.int .i64 ((k : Int) + 1)) rfl _ _ B (show 1 < 2 by decide) one_i rfl ?_; intro w3 hw; replace HB := HB.trans (Bes.row (X := fun q => q = g) hw rfl) (fun _ e => e) (fun _ _ e => e); replace B := hid_row hw B; clear hw c0 c1))
  go_ret
  exact ⟨rfl, HB, B⟩
end Go.Proofs.YtbehakabglegjaaGreatDoor
namespace Go.Proofs.YtbehakabglegjaaGreatDoor
open Go.RowKit Go.PlainAid
set_option linter.unusedVariables false
set_option linter.unusedSimpArgs false
def raw (ans : Bool) : Fs := ⟨ans, false, 0, 0, 0, [], Ms.zero, [], 0, 0, 0⟩
theorem new_build (b : Bool) (w : World) : (Instr.build 81 #[(0, .bool b)]).run Tryz.prog w = .ok (.agg (FdC (raw b) .nilFunc (.slice none 0 0) (.slice none 0 0) (.slice none 0 0) (.slice none 0 0))) w := by kernel_rfl
def NwV (ans : Bool) (w : World) (e : Ending) (w' : World) : Prop := e = .returned (.pointer (some ⟨w.heap.size, 0, none⟩)) ∧ FdM ⟨w.heap.size, fun _ => False⟩ w.heap.size (newS ans) (stepV (newS ans).next) (.slice none 0 0) (.slice none 0 0) (.slice none 0 0) (.slice none 0 0) [] w' ∧ Below w.heap.size w w'
set_option maxRecDepth 10000 in
set_option maxHeartbeats 1000000 in
theorem new_any (ans : Bool) (w : World) : Calls Tryz.prog 13 #[.bool ans] w (NwV ans w) := by
  go_enter Tryz.func13, Tryz.ntmps13
  go_wp2_with (first
    | ((with_reducible refine is_build ?_); refine wpl_build_at (new_build ans) rfl _ rfl rfl ?_)
    | (refine wpl_box_at rfl 81 (.tmp 5) rfl _ rfl ?_; intro w1 hw; have B := hid_alloc0 hw; have hb := hid_grow hw; clear hw))
  have hlt := IBox.lt B
  have HM : FdM ⟨w.heap.size, fun _ => False⟩ w.heap.size (raw ans) .nilFunc (.slice none 0 0) (.slice none 0 0) (.slice none 0 0) (.slice none 0 0) [] w1 :=
    ⟨B, ⟨Nat.le_refl _, hlt⟩, OwnB.nil _ _, ⟨rfl, .inl ⟨rfl, rfl⟩⟩, OwnB.nil _ _, ⟨rfl, .inl ⟨rfl, rfl⟩⟩, rfl, (fun q => ⟨fun e => (by cases e), fun e => (by cases e), fun e => (by cases e), fun e => (by cases e)⟩), (fun x hx => by cases hx), (fun q _ e => e), (fun q e => e.elim)⟩
  refine (begin_any HM).mono ?_
  rintro e w2 ⟨rfl, h2, hb2⟩
  go_wp2
  go_ret
  exact ⟨rfl, h2, hb.trans hb2.b⟩
end Go.Proofs.YtbehakabglegjaaGreatDoor
namespace Go.Proofs.YtbehakabglegjaaGreatDoor
open Go.RowKit Go.PlainAid
set_option linter.unusedVariables false
set_option linter.unusedSimpArgs false
/-- What a step gives. -/
def StV (base : Bs) (g : Nat) (F : Fs) (c : UInt8) (w : World) (e : Ending) (w' : World) : Prop := Bl base w w' ∧ match stepS F c with
  | .bad k => e = .returned (.tuple #[.nilFunc, .int .i64 k]) ∧ ∃ G nx tk hs bd wh L, FdM base g G nx tk hs bd wh L w' ∧ G.pos = F.pos ∧ G.whole = F.whole ∧ G.shut = F.shut
  | .ok G => e = .returned (.tuple #[stepV G.next, .int .i64 0]) ∧ ∃ nx tk hs bd wh L, FdM base g G nx tk hs bd wh L w'
theorem StV.bad {base : Bs} {g : Nat} {F : Fs} {c : UInt8} {w w' : World} {k : Int} (h : stepS F c = .bad k) (hb : Bl base w w') {nx tk hs bd wh : Value} {L : List Mm} (hm : FdM base g F nx tk hs bd wh L w') : StV base g F c w (.returned (.tuple #[.nilFunc, .int .i64 k])) w' := ⟨hb, by rw [h]; exact ⟨rfl, F, _, _, _, _, _, _, hm, rfl, rfl, rfl⟩⟩
theorem StV.ok {base : Bs} {g : Nat} {F G : Fs} {c : UInt8} {w w' : World} {v : Value} (h : stepS F c = .ok G) (hb : Bl base w w') {nx tk hs bd wh : Value} {L : List Mm} (hm : FdM base g G nx tk hs bd wh L w') (hv : v = stepV G.next) : StV base g F c w (.returned (.tuple #[v, .int .i64 0])) w' := ⟨hb, by rw [h]; exact ⟨by rw [hv], _, _, _, _, _, _, hm⟩⟩
set_option maxRecDepth 10000 in
set_option maxHeartbeats 1000000 in
theorem method_bad {base : Bs} {g : Nat} {F : Fs} {nx tk hs bd wh : Value} {L : List Mm} {w : World} {c : UInt8} (h : FdM base g F nx tk hs bd wh L w) (hx : F.next = 0) (h1 : ¬ ((65 ≤ c.toNat ∧ c.toNat ≤ 90) ∧ F.tok.length < 16)) (h2 : ¬ (c.toNat = 32 ∧ 0 < F.tok.length)) :
    Calls Tryz.prog 70 #[.pointer (some ⟨g, 0, none⟩), .int .u8 (c.toNat : Int)] w (StV base g F c w) := by
  have HS : Hid (stepS F c = .bad 3) := Lib.hid (by unfold stepS; rw [hx]; show methodS F c = _; unfold methodS; rw [if_neg h1, if_neg h2])
  obtain ⟨A, cp, htk⟩ := bt_slice h.2.rt
  subst htk
  have c5 : w.cell? ⟨g, 5, none⟩ = some (.slice A F.tok.length cp) := h.cell 5
  have H := Lib.hid h
  clear h
  go_enter Tryz.func70, Tryz.ntmps70
  by_cases a1 : 65 ≤ c.toNat <;> by_cases a2 : c.toNat ≤ 90 <;> by_cases a3 : F.tok.length < 16 <;> by_cases a4 : c.toNat = 32 <;> by_cases a5 : 0 < F.tok.length
  all_goals first
    | (exfalso; omega)
    | skip
  all_goals
    go_wp2
    go_ret2
    exact StV.bad HS.out (Bl.refl _ _) H.out
end Go.Proofs.YtbehakabglegjaaGreatDoor
