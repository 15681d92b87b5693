/- Layer 9: a target is cut: does a byte stand here? Layer 9: a new feed. Layer 9: a feed's steps: a request's method. Layer 9: a feed's rows grow by one byte (laws at the operation). Layer 9: a feed's steps: a request's method and target, the protocol's name, an answer's reason. -/
import Derived.Test.YtbehakabglegjaaGreatDoorQ07
import Derived.Test.YtbehakabglegjaaGreatDoorQ04
namespace Go.Proofs.YtbehakabglegjaaGreatDoor
open Go.RowKit Go.PlainAid
set_option linter.unusedVariables false
set_option linter.unusedSimpArgs false
def CtA (s : ByteArray) (k : Nat) : Array Value := #[.string s, .int .i64 (k : Int)]
abbrev CtM (w : World) (g : Nat) (s : ByteArray) (k : Nat) : Prop := IBox w g 91 (CtA s k)
theorem CtM.c0 {w : World} {g : Nat} {s : ByteArray} {k : Nat} (h : CtM w g s k) : w.cell? ⟨g, 0, none⟩ = some (.string s) := h.cell 0
theorem CtM.c1 {w : World} {g : Nat} {s : ByteArray} {k : Nat} (h : CtM w g s k) : w.cell? ⟨g, 1, none⟩ = some (.int .i64 (k : Int)) := h.cell 1
theorem bt_in {s : ByteArray} {i : Nat} {c : UInt8} (h : s.data.toList[i]? = some c) : bt s i = (c.toNat : Int) := by
  obtain ⟨h1, h2⟩ := List.getElem?_eq_some_iff.1 h
  unfold bt
  rw [dif_pos (show i < s.size from h1), ← h2]
  rfl
set_option maxRecDepth 100000 in
set_option maxHeartbeats 4000000 in
theorem end_no {g : Nat} {s : ByteArray} {k : Nat} {x : UInt8} {w : World} (B : CtM w g s k) (hk : s.size ≤ k) (hs : k ≤ 1099511627776) :
    Calls Tryz.prog 45 #[.pointer (some ⟨g, 0, none⟩), .int .u8 (x.toNat : Int)] w fun e w' => e = .returned (.bool false) ∧ Bes (· = g) w w' ∧ CtM w' g s k := by
  have hn : ¬ (k : Int) < (s.size : Int) := by omega
  go_enter Tryz.func45, Tryz.ntmps45
  go_wp2
  refine wp_region_S (S := fun w' => w'.cell? ⟨g, 0, none⟩ = some (.string s) ∧ w'.cell? ⟨g, 1, none⟩ = some (.int .i64 (k : Int))) (by kernel_rfl) (fun w2 hh => ⟨CtM.c0 (box_heap hh B), CtM.c1 (box_heap hh B)⟩) (fun w2 hh hbb HS0 => ?_)
  have HB : Bes (· = g) w w2 := Bes.of_below (hbb _ (Nat.le_refl _))
  replace B := box_heap hh B
  clear hh hbb
  refine TKC 0 5 rfl ?_
  try simp only [Act.put, zA, zB, zC]
  refine TKC 1 6 rfl ?_
  try simp only [Act.put, zA, zB, zC]
  refine TKC 2 7 rfl ?_
  try simp only [Act.put, zA, zB, zC]
  refine TKC 3 8 rfl ?_ (by (intro w hSw; (try dsimp only at hSw); have q1 := hSw.2; go_simp; try with_reducible rfl))
  try simp only [Act.put, zA, zB, zC]
  refine TKC 4 9 rfl ?_
  try simp only [Act.put, zA, zB, zC]
  refine TKC 5 10 rfl ?_
  try simp only [Act.put, zA, zB, zC]
  refine TKC 6 11 rfl ?_
  try simp only [Act.put, zA, zB, zC]
  refine TKC 7 12 rfl ?_ (by (intro w hSw; (try dsimp only at hSw); have q1 := hSw.1; go_simp; try with_reducible rfl))
  try simp only [Act.put, zA, zB, zC]
  refine TKC 8 13 rfl ?_
  try simp only [Act.put, zA, zB, zC]
  refine TKC 9 14 (v := .bool false) rfl ?_
  try simp only [Act.put, zA, zB, zC]
  refine TKC 10 15 rfl ?_
  try simp only [Act.put, zA, zB, zC]
  refine TKN 11 16 rfl ?_
  try simp only [Act.put, zA, zB, zC]
  refine TKN 12 17 rfl ?_
  try simp only [Act.put, zA, zB, zC]
  refine TKN 13 18 rfl ?_
  try simp only [Act.put, zA, zB, zC]
  refine TKN 14 19 rfl ?_
  try simp only [Act.put, zA, zB, zC]
  refine TKN 15 20 rfl ?_
  try simp only [Act.put, zA, zB, zC]
  refine TKN 16 21 rfl ?_
  try simp only [Act.put, zA, zB, zC]
  refine TKN 17 22 rfl ?_
  try simp only [Act.put, zA, zB, zC]
  refine TKN 18 23 rfl ?_
  try simp only [Act.put, zA, zB, zC]
  refine TKN 19 24 rfl ?_
  try simp only [Act.put, zA, zB, zC]
  refine TKN 20 25 rfl ?_
  try simp only [Act.put, zA, zB, zC]
  refine TKN 21 26 rfl ?_
  try simp only [Act.put, zA, zB, zC]
  refine TKC 22 27 rfl ?_
  try simp only [Act.put, zA, zB, zC]
  refine wpAnyH_done (by kernel_rfl) ?_ _
  have c0 := HS0.1
  have c1 := HS0.2
  clear HS0
  go_wp2
  go_ret
  exact ⟨rfl, HB, B⟩
set_option maxRecDepth 100000 in
set_option maxHeartbeats 4000000 in
theorem end_other {g : Nat} {s : ByteArray} {k : Nat} {x c : UInt8} {w : World} (B : CtM w g s k) (hc : (bl s)[k]? = some c) (hne : c ≠ x) (hs : s.size ≤ 1099511627776) :
    Calls Tryz.prog 45 #[.pointer (some ⟨g, 0, none⟩), .int .u8 (x.toNat : Int)] w fun e w' => e = .returned (.bool false) ∧ Bes (· = g) w w' ∧ CtM w' g s k := by
  have hxi : ((c.toNat : Int) == (x.toNat : Int)) = false := by
    rw [beq_eq_false_iff_ne]
    intro e
    exact hne (UInt8.toNat_inj.1 (by omega))
  have hlt : k < s.size := (List.getElem?_eq_some_iff.1 hc).1
  have hbs := get_bt s
  have hcb := bt_in hc
  have hi : (k : Int) < (s.size : Int) := by omega
  clear hc
  clear hne
  go_enter Tryz.func45, Tryz.ntmps45
  go_wp2
  refine wp_region_S (S := fun w' => w'.cell? ⟨g, 0, none⟩ = some (.string s) ∧ w'.cell? ⟨g, 1, none⟩ = some (.int .i64 (k : Int))) (by kernel_rfl) (fun w2 hh => ⟨CtM.c0 (box_heap hh B), CtM.c1 (box_heap hh B)⟩) (fun w2 hh hbb HS0 => ?_)
  have HB : Bes (· = g) w w2 := Bes.of_below (hbb _ (Nat.le_refl _))
  replace B := box_heap hh B
  clear hh hbb
  refine TKC 0 5 rfl ?_
  try simp only [Act.put, zA, zB, zC]
  refine TKC 1 6 rfl ?_
  try simp only [Act.put, zA, zB, zC]
  refine TKC 2 7 rfl ?_
  try simp only [Act.put, zA, zB, zC]
  refine TKC 3 8 rfl ?_ (by (intro w hSw; (try dsimp only at hSw); have q1 := hSw.2; go_simp; try with_reducible rfl))
  try simp only [Act.put, zA, zB, zC]
  refine TKC 4 9 rfl ?_
  try simp only [Act.put, zA, zB, zC]
  refine TKC 5 10 rfl ?_
  try simp only [Act.put, zA, zB, zC]
  refine TKC 6 11 rfl ?_
  try simp only [Act.put, zA, zB, zC]
  refine TKC 7 12 rfl ?_ (by (intro w hSw; (try dsimp only at hSw); have q1 := hSw.1; go_simp; try with_reducible rfl))
  try simp only [Act.put, zA, zB, zC]
  refine TKC 8 13 rfl ?_
  try simp only [Act.put, zA, zB, zC]
  refine TKC 9 14 (v := .bool true) rfl ?_
  try simp only [Act.put, zA, zB, zC]
  refine TKC 10 15 rfl ?_
  try simp only [Act.put, zA, zB, zC]
  refine TKC 11 16 rfl ?_
  try simp only [Act.put, zA, zB, zC]
  refine TKC 12 17 rfl ?_
  try simp only [Act.put, zA, zB, zC]
  refine TKC 13 18 rfl ?_
  try simp only [Act.put, zA, zB, zC]
  refine TKC 14 19 rfl ?_ (by (intro w hSw; (try dsimp only at hSw); have q1 := hSw.1; go_simp; try with_reducible rfl))
  try simp only [Act.put, zA, zB, zC]
  refine TKC 15 20 rfl ?_
  try simp only [Act.put, zA, zB, zC]
  refine TKC 16 21 rfl ?_
  try simp only [Act.put, zA, zB, zC]
  refine TKC 17 22 rfl ?_
  try simp only [Act.put, zA, zB, zC]
  refine TKC 18 23 rfl ?_ (by (intro w hSw; (try dsimp only at hSw); have q1 := hSw.2; go_simp; try with_reducible rfl))
  try simp only [Act.put, zA, zB, zC]
  refine TKC 19 24 rfl ?_
  try simp only [Act.put, zA, zB, zC]
  refine TKC 20 25 rfl ?_
  try simp only [Act.put, zA, zB, zC]
  refine TKC 21 26 rfl ?_
  try simp only [Act.put, zA, zB, zC]
  refine TKC 22 27 rfl ?_
  try simp only [Act.put, zA, zB, zC]
  refine wpAnyH_done (by kernel_rfl) ?_ _
  have c0 := HS0.1
  have c1 := HS0.2
  clear HS0
  go_wp2
  go_ret
  exact ⟨rfl, HB, B⟩
set_option maxRecDepth 100000 in
set_option maxHeartbeats 4000000 in
theorem end_yes {g : Nat} {s : ByteArray} {k : Nat} {c : UInt8} {w : World} (B : CtM w g s k) (hc : (bl s)[k]? = some c) (hs : s.size ≤ 1099511627776) :
    Calls Tryz.prog 45 #[.pointer (some ⟨g, 0, none⟩), .int .u8 (c.toNat : Int)] w fun e w' => e = .returned (.bool true) ∧ Bes (· = g) w w' ∧ CtM w' g s (k + 1) := by
  have hlt : k < s.size := (List.getElem?_eq_some_iff.1 hc).1
  have hbs := get_bt s
  have hcb := bt_in hc
  have hi : (k : Int) < (s.size : Int) := by omega
  clear hc
  go_enter Tryz.func45, Tryz.ntmps45
  go_wp2
  refine wp_region_S (S := fun w' => w'.cell? ⟨g, 0, none⟩ = some (.string s) ∧ w'.cell? ⟨g, 1, none⟩ = some (.int .i64 (k : Int))) (by kernel_rfl) (fun w2 hh => ⟨CtM.c0 (box_heap hh B), CtM.c1 (box_heap hh B)⟩) (fun w2 hh hbb HS0 => ?_)
  have HB : Bes (· = g) w w2 := Bes.of_below (hbb _ (Nat.le_refl _))
  replace B := box_heap hh B
  clear hh hbb
  refine TKC 0 5 rfl ?_
  try simp only [Act.put, zA, zB, zC]
  refine TKC 1 6 rfl ?_
  try simp only [Act.put, zA, zB, zC]
  refine TKC 2 7 rfl ?_
  try simp only [Act.put, zA, zB, zC]
  refine TKC 3 8 rfl ?_ (by (intro w hSw; (try dsimp only at hSw); have q1 := hSw.2; go_simp; try with_reducible rfl))
  try simp only [Act.put, zA, zB, zC]
  refine TKC 4 9 rfl ?_
  try simp only [Act.put, zA, zB, zC]
  refine TKC 5 10 rfl ?_
  try simp only [Act.put, zA, zB, zC]
  refine TKC 6 11 rfl ?_
  try simp only [Act.put, zA, zB, zC]
  refine TKC 7 12 rfl ?_ (by (intro w hSw; (try dsimp only at hSw); have q1 := hSw.1; go_simp; try with_reducible rfl))
  try simp only [Act.put, zA, zB, zC]
  refine TKC 8 13 rfl ?_
  try simp only [Act.put, zA, zB, zC]
  refine TKC 9 14 (v := .bool true) rfl ?_
  try simp only [Act.put, zA, zB, zC]
  refine TKC 10 15 rfl ?_
  try simp only [Act.put, zA, zB, zC]
  refine TKC 11 16 rfl ?_
  try simp only [Act.put, zA, zB, zC]
  refine TKC 12 17 rfl ?_
  try simp only [Act.put, zA, zB, zC]
  refine TKC 13 18 rfl ?_
  try simp only [Act.put, zA, zB, zC]
  refine TKC 14 19 rfl ?_ (by (intro w hSw; (try dsimp only at hSw); have q1 := hSw.1; go_simp; try with_reducible rfl))
  try simp only [Act.put, zA, zB, zC]
  refine TKC 15 20 rfl ?_
  try simp only [Act.put, zA, zB, zC]
  refine TKC 16 21 rfl ?_
  try simp only [Act.put, zA, zB, zC]
  refine TKC 17 22 rfl ?_
  try simp only [Act.put, zA, zB, zC]
  refine TKC 18 23 rfl ?_ (by (intro w hSw; (try dsimp only at hSw); have q1 := hSw.2; go_simp; try with_reducible rfl))
  try simp only [Act.put, zA, zB, zC]
  refine TKC 19 24 rfl ?_
  try simp only [Act.put, zA, zB, zC]
  refine TKC 20 25 rfl ?_
  try simp only [Act.put, zA, zB, zC]
  refine TKC 21 26 rfl ?_
  try simp only [Act.put, zA, zB, zC]
  refine TKC 22 27 rfl ?_
  try simp only [Act.put, zA, zB, zC]
  refine wpAnyH_done (by kernel_rfl) ?_ _
  have c0 := HS0.1
  have c1 := HS0.2
  clear HS0
  go_wp2_with (first
    | ((with_reducible refine is_store ?_); refine wpl_store_cell rfl 3 (.tmp 34) (.tmp 32) rfl g 1 rfl (.int .i64 ((k : Int) + 1)) rfl _ _ B (show 1 < 2 by decide) one_i rfl ?_; intro w3 hw; replace HB := HB.trans (Bes.row (X := fun q => q = g) hw rfl) (fun _ e => e) (fun _ _ e => e); replace B := hid_row hw B; clear hw c0 c1))
  go_ret
  exact ⟨rfl, HB, B⟩
end Go.Proofs.YtbehakabglegjaaGreatDoor
namespace Go.Proofs.YtbehakabglegjaaGreatDoor
open Go.RowKit Go.PlainAid
set_option linter.unusedVariables false
set_option linter.unusedSimpArgs false
def raw (ans : Bool) : Fs := ⟨ans, false, 0, 0, 0, [], Ms.zero, [], 0, 0, 0⟩
theorem new_build (b : Bool) (w : World) : (Instr.build 81 #[(0, .bool b)]).run Tryz.prog w = .ok (.agg (FdC (raw b) .nilFunc (.slice none 0 0) (.slice none 0 0) (.slice none 0 0) (.slice none 0 0))) w := by kernel_rfl
def NwV (ans : Bool) (w : World) (e : Ending) (w' : World) : Prop := e = .returned (.pointer (some ⟨w.heap.size, 0, none⟩)) ∧ FdM ⟨w.heap.size, fun _ => False⟩ w.heap.size (newS ans) (stepV (newS ans).next) (.slice none 0 0) (.slice none 0 0) (.slice none 0 0) (.slice none 0 0) [] w' ∧ Below w.heap.size w w'
set_option maxRecDepth 10000 in
set_option maxHeartbeats 1000000 in
theorem new_any (ans : Bool) (w : World) : Calls Tryz.prog 13 #[.bool ans] w (NwV ans w) := by
  go_enter Tryz.func13, Tryz.ntmps13
  go_wp2_with (first
    | ((with_reducible refine is_build ?_); refine wpl_build_at (new_build ans) rfl _ rfl rfl ?_)
    | (refine wpl_box_at rfl 81 (.tmp 5) rfl _ rfl ?_; intro w1 hw; have B := hid_alloc0 hw; have hb := hid_grow hw; clear hw))
  have hlt := IBox.lt B
  have HM : FdM ⟨w.heap.size, fun _ => False⟩ w.heap.size (raw ans) .nilFunc (.slice none 0 0) (.slice none 0 0) (.slice none 0 0) (.slice none 0 0) [] w1 :=
    ⟨B, ⟨Nat.le_refl _, hlt⟩, OwnB.nil _ _, ⟨rfl, .inl ⟨rfl, rfl⟩⟩, OwnB.nil _ _, ⟨rfl, .inl ⟨rfl, rfl⟩⟩, rfl, (fun q => ⟨fun e => (by cases e), fun e => (by cases e), fun e => (by cases e), fun e => (by cases e)⟩), (fun x hx => by cases hx), (fun q _ e => e), (fun q e => e.elim)⟩
  refine (begin_any HM).mono ?_
  rintro e w2 ⟨rfl, h2, hb2⟩
  go_wp2
  go_ret
  exact ⟨rfl, h2, hb.trans hb2.b⟩
end Go.Proofs.YtbehakabglegjaaGreatDoor
namespace Go.Proofs.YtbehakabglegjaaGreatDoor
open Go.RowKit Go.PlainAid
set_option linter.unusedVariables false
set_option linter.unusedSimpArgs false
/-- What a step gives. -/
def StV (base : Bs) (g : Nat) (F : Fs) (c : UInt8) (w : World) (e : Ending) (w' : World) : Prop := Bl base w w' ∧ match stepS F c with
  | .bad k => e = .returned (.tuple #[.nilFunc, .int .i64 k]) ∧ ∃ G nx tk hs bd wh L, FdM base g G nx tk hs bd wh L w' ∧ G.pos = F.pos ∧ G.whole = F.whole ∧ G.shut = F.shut
  | .ok G => e = .returned (.tuple #[stepV G.next, .int .i64 0]) ∧ ∃ nx tk hs bd wh L, FdM base g G nx tk hs bd wh L w'
theorem StV.bad {base : Bs} {g : Nat} {F : Fs} {c : UInt8} {w w' : World} {k : Int} (h : stepS F c = .bad k) (hb : Bl base w w') {nx tk hs bd wh : Value} {L : List Mm} (hm : FdM base g F nx tk hs bd wh L w') : StV base g F c w (.returned (.tuple #[.nilFunc, .int .i64 k])) w' := ⟨hb, by rw [h]; exact ⟨rfl, F, _, _, _, _, _, _, hm, rfl, rfl, rfl⟩⟩
theorem StV.ok {base : Bs} {g : Nat} {F G : Fs} {c : UInt8} {w w' : World} {v : Value} (h : stepS F c = .ok G) (hb : Bl base w w') {nx tk hs bd wh : Value} {L : List Mm} (hm : FdM base g G nx tk hs bd wh L w') (hv : v = stepV G.next) : StV base g F c w (.returned (.tuple #[v, .int .i64 0])) w' := ⟨hb, by rw [h]; exact ⟨by rw [hv], _, _, _, _, _, _, hm⟩⟩
set_option maxRecDepth 10000 in
set_option maxHeartbeats 1000000 in
theorem method_bad {base : Bs} {g : Nat} {F : Fs} {nx tk hs bd wh : Value} {L : List Mm} {w : World} {c : UInt8} (h : FdM base g F nx tk hs bd wh L w) (hx : F.next = 0) (h1 : ¬ ((65 ≤ c.toNat ∧ c.toNat ≤ 90) ∧ F.tok.length < 16)) (h2 : ¬ (c.toNat = 32 ∧ 0 < F.tok.length)) :
    Calls Tryz.prog 70 #[.pointer (some ⟨g, 0, none⟩), .int .u8 (c.toNat : Int)] w (StV base g F c w) := by
  have HS : Hid (stepS F c = .bad 3) := Lib.hid (by unfold stepS; rw [hx]; show methodS F c = _; unfold methodS; rw [if_neg h1, if_neg h2])
  obtain ⟨A, cp, htk⟩ := bt_slice h.2.rt
  subst htk
  have c5 : w.cell? ⟨g, 5, none⟩ = some (.slice A F.tok.length cp) := h.cell 5
  have H := Lib.hid h
  clear h
  go_enter Tryz.func70, Tryz.ntmps70
  by_cases a1 : 65 ≤ c.toNat <;> by_cases a2 : c.toNat ≤ 90 <;> by_cases a3 : F.tok.length < 16 <;> by_cases a4 : c.toNat = 32 <;> by_cases a5 : 0 < F.tok.length
  all_goals first
    | (exfalso; omega)
    | skip
  all_goals
    go_wp2
    go_ret2
    exact StV.bad HS.out (Bl.refl _ _) H.out
end Go.Proofs.YtbehakabglegjaaGreatDoor
namespace Go.Proofs.YtbehakabglegjaaGreatDoor
open Go.RowKit Go.PlainAid
set_option linter.unusedVariables false
set_option linter.unusedSimpArgs false
theorem fill_one (p : Int) : Instr.fill (fun i => some (i * 1, 1)) ((Array.range (1 * 1)).map ((Value.int .u8 0).cells[· % (Value.int .u8 0).cells.size]!)) [(0, .int .u8 p)] = some #[.int .u8 p] := by kernel_rfl
theorem bcells_app (l : List UInt8) (c : UInt8) : Lib.byteCells (l ++ [c]) = Lib.byteCells l ++ [.int .u8 (c.toNat : Int)] := by unfold Lib.byteCells; rw [List.map_append]; rfl
/-- What of a feed bounds its rows. -/
structure FJ (F : Fs) : Prop where
  tok : F.tok.length ≤ 8192
  heads : F.m.heads.length ≤ 64
  body : F.m.body.length ≤ 65536
  ver : F.next = 2 → F.tok.length < 9
  sta : F.next = 3 → F.tok.length ≤ 3 ∧ F.tok.all isDigB = true
  val : F.next = 7 → F.m.heads ≠ []
  wide : (F.next = 8 ∨ F.next = 11) → 0 < F.left ∧ F.m.body.length + F.left ≤ 65536
  size : 0 ≤ F.size ∧ F.size < 4294967296
  dig : F.next = 9 → F.size < 16 ^ F.tok.length
  some_ : F.next = 6 → 0 < F.tok.length → F.m.heads.length < 64
  none_ : (F.next = 5 ∨ 10 ≤ F.next) → F.tok.length = 0
  early : F.next ≤ 7 → F.m.body = [] ∧ F.left = 0 ∧ F.size = 0
theorem FI.j {F : Fs} (h : FI F) (n : Int) : FJ { F with head := n } :=
  ⟨by show F.tok.length ≤ 8192; have h1 := h.tok; have h2 := h.head; by_cases h0 : 0 ≤ F.head <;> omega, h.heads, h.body, h.ver, h.sta, h.val, h.wide, h.size, h.dig, h.some_, h.none_, h.early⟩
section
variable {ops : Array Oper} {rest : List Oper} {o : Oper} {a : Act} {w : World} {Q : Exit → Act → World → Prop}
theorem wpl_u8 (hgd : o.guard = none) (x : Operand) (ho : o.op = .buildSlice 23 1 #[(0, x)]) (c : UInt8) (hx : a.eval x = .int .u8 (c.toNat : Int))
    (h : ∀ w', Below w.heap.size w w' → IBox w' w.heap.size 5 #[.int .u8 (c.toNat : Int)] → wpList Tryz.prog ops Q rest (a.put o.dst (.slice (some ⟨w.heap.size, 0, none⟩) 1 1)) w') : wpList Tryz.prog ops Q (o :: rest) a w := by
  obtain ⟨ie, h1, h2, h3, h4⟩ := u8_info
  refine wpl_slice_at 1 [(0, .int .u8 (c.toNat : Int))] #[.int .u8 (c.toNat : Int)] ie _ (by rw [h3]; exact fill_one _) hgd 23 5 _ ho (by simp [hx]) Tryz.underlying23 h1 h2 (by rw [h3]; decide) (by rw [h3]; decide) ?_
  intro w' hw
  exact h w' (hid_grow hw) (hid_alloc hw).1
variable {base : Bs} {g : Nat} {F : Fs} {tk hs bd wh : Value} {L : List Mm}
theorem one_byte {c : UInt8} {g1 : Nat} (IB : IBox w g1 5 #[.int .u8 (c.toNat : Int)]) : ∀ (j : Nat) (u : Value), [Value.int .u8 (c.toNat : Int)][j]? = some u → w.cell? ((⟨g1, 0, none⟩ : Addr).add j) = some u := fun j u hu => by
  have hadd : (⟨g1, 0, none⟩ : Addr).add j = ⟨g1, j, none⟩ := by unfold Addr.add; split <;> simp_all
  rw [hadd, IB.cell]
  simpa using hu
/-- The token grows. -/
theorem wpl_tok (hgd : o.guard = none) (s x : Operand) (ho : o.op = .call { callee := .builtin .append, args := #[s, x], argTypes := #[23, 23] }) (R : FdR base g F tk hs bd wh L w) {t : TypeId} {arr : Array Value} (B : IBox w g t arr) (hn : F.tok.length ≤ 1048576)
    {g1 : Nat} {c : UInt8} (IB : IBox w g1 5 #[.int .u8 (c.toNat : Int)]) (h1 : a.eval s = tk) (h2 : a.eval x = .slice (some ⟨g1, 0, none⟩) 1 1)
    (h : ∀ A cp w', FdR base g (F.put c) (.slice A (F.tok.length + 1) cp) hs bd wh L w' → IBox w' g t arr → Bl base w w' → wpList Tryz.prog ops Q rest (a.put o.dst (.slice A (F.tok.length + 1) cp)) w') : wpList Tryz.prog ops Q (o :: rest) a w := by
  obtain ⟨ie, i1, i2, i3, i4⟩ := u8_info
  refine wpList_append_own_at w hgd s x 23 ho base.n 5 ie _ 1 1 Tryz.underlying23 i1 i2 i3 i4 rfl (by decide) tk F.tok.length (Lib.byteCells F.tok) h1 R.rt ⟨g1, 0, none⟩ 1 1 [.int .u8 (c.toNat : Int)] h2 rfl (one_byte IB) (fun u hu => by rw [List.mem_singleton.1 hu]; rfl) (by unfold maxLen; omega) (by omega) R.bl ?_
  intro v' w' h3 h4 _ h5
  have hb := Bes.grown (X := fun q => tk.ownBlock = some q) h4 (fun _ e => e)
  have ho : OwnB w' base.n v' (F.tok ++ [c]) := by unfold OwnB; rw [bcells_app, List.length_append]; exact h3
  obtain ⟨A, cp, hv⟩ := bt_slice ho
  have hv2 : v' = .slice A (F.tok.length + 1) cp := by rw [hv, List.length_append]; rfl
  subst hv2
  exact h A cp w' (R.tok ho hb (h5.elim .inl (fun e => .inr (.inl e)))) (Bes.box hb B (fun e => ((R.ap g).1 e).1 rfl)) (Bl.bes hb (fun k e => ⟨(own_in R.rt e).1, R.off k (.inr (.inl e))⟩) R.bl R.avl)
/-- The body grows. -/
theorem wpl_bod (hgd : o.guard = none) (s x : Operand) (ho : o.op = .call { callee := .builtin .append, args := #[s, x], argTypes := #[23, 23] }) (R : FdR base g F tk hs bd wh L w) {t : TypeId} {arr : Array Value} (B : IBox w g t arr) (hn : F.m.body.length ≤ 1048576)
    {g1 : Nat} {c : UInt8} (IB : IBox w g1 5 #[.int .u8 (c.toNat : Int)]) (h1 : a.eval s = bd) (h2 : a.eval x = .slice (some ⟨g1, 0, none⟩) 1 1)
    (h : ∀ A cp w', FdR base g { F with m := { F.m with body := F.m.body ++ [c] } } tk hs (.slice A (F.m.body.length + 1) cp) wh L w' → IBox w' g t arr → Bl base w w' → wpList Tryz.prog ops Q rest (a.put o.dst (.slice A (F.m.body.length + 1) cp)) w') : wpList Tryz.prog ops Q (o :: rest) a w := by
  obtain ⟨ie, i1, i2, i3, i4⟩ := u8_info
  refine wpList_append_own_at w hgd s x 23 ho base.n 5 ie _ 1 1 Tryz.underlying23 i1 i2 i3 i4 rfl (by decide) bd F.m.body.length (Lib.byteCells F.m.body) h1 R.rb ⟨g1, 0, none⟩ 1 1 [.int .u8 (c.toNat : Int)] h2 rfl (one_byte IB) (fun u hu => by rw [List.mem_singleton.1 hu]; rfl) (by unfold maxLen; omega) (by omega) R.bl ?_
  intro v' w' h3 h4 _ h5
  have hb := Bes.grown (X := fun q => bd.ownBlock = some q) h4 (fun _ e => e)
  have ho : OwnB w' base.n v' (F.m.body ++ [c]) := by unfold OwnB; rw [bcells_app, List.length_append]; exact h3
  obtain ⟨A, cp, hv⟩ := bt_slice ho
  have hv2 : v' = .slice A (F.m.body.length + 1) cp := by rw [hv, List.length_append]; rfl
  subst hv2
  exact h A cp w' (R.body ho hb (h5.elim .inl (fun e => .inr (.inl e)))) (Bes.box hb B (fun e => ((R.ap g).2.2.1 e).1 rfl)) (Bl.bes hb (fun k e => ⟨(own_in R.rb e).1, R.off k (.inr (.inr (.inr (.inl e))))⟩) R.bl R.avl)
end
/-- One change after the other. -/
theorem bl_add {base : Bs} {g : Nat} {F : Fs} {tk hs bd wh : Value} {L : List Mm} {a b c : World} (h : Bl base a b) (k : Below b.heap.size b c) (R : FdR base g F tk hs bd wh L b) : Bl base a c := h.trans (Bl.of k R.bl R.avl)
end Go.Proofs.YtbehakabglegjaaGreatDoor
namespace Go.Proofs.YtbehakabglegjaaGreatDoor
open Go.RowKit Go.PlainAid
set_option linter.unusedVariables false
set_option linter.unusedSimpArgs false
theorem fdm {base : Bs} {g : Nat} {F : Fs} {nx tk hs bd wh : Value} {L : List Mm} {w : World} (B : IBox w g 81 (FdC F nx tk hs bd wh)) (R : FdR base g F tk hs bd wh L w) : FdM base g F nx tk hs bd wh L w := ⟨B, R⟩
set_option maxRecDepth 100000 in
set_option maxHeartbeats 4000000 in
theorem method_any {base : Bs} {g : Nat} {F : Fs} {nx tk hs bd wh : Value} {L : List Mm} {w : World} {c : UInt8} (h : FdM base g F nx tk hs bd wh L w) (hj : FJ F) (hx : F.next = 0) :
    Calls Tryz.prog 70 #[.pointer (some ⟨g, 0, none⟩), .int .u8 (c.toNat : Int)] w (StV base g F c w) := by
  have HT := Lib.hid hj.tok
  have HS : Hid (stepS F c = methodS F c) := Lib.hid (by unfold stepS; rw [hx]; rfl)
  clear hj hx
  obtain ⟨A, cp, htk⟩ := bt_slice h.2.rt
  subst htk
  have B := h.1
  have R := Lib.hid h.2
  have HB := Bl.refl base w
  clear h
  have c5 : w.cell? ⟨g, 5, none⟩ = some (.slice A F.tok.length cp) := B.cell 5
  by_cases h1 : (65 ≤ c.toNat ∧ c.toNat ≤ 90) ∧ F.tok.length < 16
  · have HV : Hid (methodS F c = .ok { F.put c with next := 0 }) := Lib.hid (by unfold methodS; rw [if_pos h1])
    obtain ⟨⟨a1, a2⟩, a3⟩ := h1
    go_enter Tryz.func70, Tryz.ntmps70
    go_wp2_with (first
      | ((with_reducible refine is_slice ?_); refine wpl_u8 rfl (.tmp 26) rfl c rfl ?_; intro w1 hb B9; replace B := IBox.below B hb (IBox.lt B); replace HB := bl_add HB hb R.out; replace R := Lib.hid (R.out.below hb); clear hb)
      | (at_builtin; refine wpl_tok rfl (.tmp 25) (.tmp 27) rfl R.out B (by have := HT.out; omega) B9 rfl rfl ?_; intro A1 p1 w2 hr hB hb; replace HB := HB.trans hb; replace R := Lib.hid hr; replace B := hB; clear hr hB hb B9)
      | ((with_reducible refine is_store ?_); refine wpl_store_cell rfl 23 (.tmp 30) (.tmp 28) rfl g 5 rfl (.slice A1 (F.tok.length + 1) p1) rfl _ _ B (show 5 < 16 by decide) one_sb rfl ?_; intro w3 hw; replace HB := HB.trans (R.out.store hw); replace R := Lib.hid (R.out.row (Bes.row (X := fun q => q = g) hw rfl)); replace B := hid_row hw B; simp only [FdC_5] at B; clear hw))
    go_ret2
    exact StV.ok (HS.out.trans HV.out) HB (fdm B (R.out.same rfl rfl rfl rfl)) rfl
  · by_cases h2 : c.toNat = 32 ∧ 0 < F.tok.length
    · have HV : Hid (methodS F c = .ok { F with m := { F.m with meth := txt F.tok }, tok := [], next := 1 }) := Lib.hid (by unfold methodS; rw [if_neg h1, if_pos h2])
      obtain ⟨a1, a2⟩ := h2
      have b1 : c.toNat ≤ 90 := by omega
      have b2 : ¬ 65 ≤ c.toNat := by omega
      clear h1
      go_enter Tryz.func70, Tryz.ntmps70
      go_wp2_with (first
        | (go_at_call 101; (have hM := fdm (F := F) B R.out); (with_reducible refine (taken_any hM).mono ?_); rintro e w4 ⟨rfl, ⟨tk4, hm⟩, hb⟩; replace B := hm.1; replace R := Lib.hid hm.2; replace HB := HB.trans hb; clear hm hb hM)
        | ((with_reducible refine is_store ?_); refine wpl_store_cell rfl 9 (.tmp 47) (.tmp 44) rfl g 6 rfl (.string (txt F.tok)) rfl _ _ B (show 6 < 16 by decide) one_s rfl ?_; intro w5 hw; replace HB := HB.trans (R.out.store hw); replace R := Lib.hid (R.out.row (Bes.row (X := fun q => q = g) hw rfl)); replace B := hid_row hw B; simp only [FdC_6] at B; clear hw))
      go_ret2
      exact StV.ok (HS.out.trans HV.out) HB (fdm B (R.out.same rfl rfl rfl rfl)) rfl
    · have HV : Hid (methodS F c = .bad 3) := Lib.hid (by unfold methodS; rw [if_neg h1, if_neg h2])
      go_enter Tryz.func70, Tryz.ntmps70
      by_cases a1 : 65 ≤ c.toNat <;> by_cases a2 : c.toNat ≤ 90 <;> by_cases a3 : F.tok.length < 16 <;> by_cases a4 : c.toNat = 32 <;> by_cases a5 : 0 < F.tok.length
      all_goals first
        | (exfalso; omega)
        | skip
      all_goals clear h1 h2
      all_goals
        go_wp2
        go_ret2
        exact StV.bad (HS.out.trans HV.out) HB (fdm B R.out)
end Go.Proofs.YtbehakabglegjaaGreatDoor
