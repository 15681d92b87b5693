/- Layer 9: a new feed. Layer 9: a feed's steps: a request's method. Layer 9: a feed's rows grow by one byte (laws at the operation). Layer 9: a feed's steps: a request's method and target, the protocol's name, an answer's reason. Layer 9: a feed's message that is whole. -/
import Derived.Test.YtbehakabglegjaaGreatDoorQ05
import Derived.Test.YtbehakabglegjaaGreatDoorQZip
namespace Go.Proofs.YtbehakabglegjaaGreatDoor
open Go.RowKit Go.PlainAid
set_option linter.unusedVariables false
set_option linter.unusedSimpArgs false
def raw (ans : Bool) : Fs := ⟨ans, false, 0, 0, 0, [], Ms.zero, [], 0, 0, 0⟩
theorem new_build (b : Bool) (w : World) : (Instr.build 81 #[(0, .bool b)]).run Tryz.prog w = .ok (.agg (FdC (raw b) .nilFunc (.slice none 0 0) (.slice none 0 0) (.slice none 0 0) (.slice none 0 0))) w := by kernel_rfl
def NwV (ans : Bool) (w : World) (e : Ending) (w' : World) : Prop := e = .returned (.pointer (some ⟨w.heap.size, 0, none⟩)) ∧ FdM ⟨w.heap.size, fun _ => False⟩ w.heap.size (newS ans) (stepV (newS ans).next) (.slice none 0 0) (.slice none 0 0) (.slice none 0 0) (.slice none 0 0) [] w' ∧ Below w.heap.size w w'
set_option maxRecDepth 10000 in
set_option maxHeartbeats 1000000 in
theorem new_any (ans : Bool) (w : World) : Calls Tryz.prog 13 #[.bool ans] w (NwV ans w) := by
  go_enter Tryz.func13, Tryz.ntmps13
  go_wp2_with (first
    | ((with_reducible refine is_build ?_); refine wpl_build_at (new_build ans) rfl _ rfl rfl ?_)
    | (refine wpl_box_at rfl 81 (.tmp 5) rfl _ rfl ?_; intro w1 hw; have B := hid_alloc0 hw; have hb := hid_grow hw; clear hw))
  have hlt := IBox.lt B
  have HM : FdM ⟨w.heap.size, fun _ => False⟩ w.heap.size (raw ans) .nilFunc (.slice none 0 0) (.slice none 0 0) (.slice none 0 0) (.slice none 0 0) [] w1 :=
    ⟨B, ⟨Nat.le_refl _, hlt⟩, OwnB.nil _ _, ⟨rfl, .inl ⟨rfl, rfl⟩⟩, OwnB.nil _ _, ⟨rfl, .inl ⟨rfl, rfl⟩⟩, rfl, (fun q => ⟨fun e => (by cases e), fun e => (by cases e), fun e => (by cases e), fun e => (by cases e)⟩), (fun x hx => by cases hx), (fun q _ e => e), (fun q e => e.elim), (fun x hx => by cases hx)⟩
  refine (begin_any HM).mono ?_
  rintro e w2 ⟨rfl, h2, hb2⟩
  go_wp2
  go_ret
  exact ⟨rfl, h2, hb.trans hb2.b⟩
end Go.Proofs.YtbehakabglegjaaGreatDoor
namespace Go.Proofs.YtbehakabglegjaaGreatDoor
open Go.RowKit Go.PlainAid
set_option linter.unusedVariables false
set_option linter.unusedSimpArgs false
/-- What a step gives. -/
def StV (base : Bs) (g : Nat) (F : Fs) (c : UInt8) (w : World) (e : Ending) (w' : World) : Prop := Bl base w w' ∧ match stepS F c with
  | .bad k => e = .returned (.tuple #[.nilFunc, .int .i64 k]) ∧ ∃ G nx tk hs bd wh L, FdM base g G nx tk hs bd wh L w' ∧ G.pos = F.pos ∧ G.whole = F.whole ∧ G.shut = F.shut
  | .ok G => e = .returned (.tuple #[stepV G.next, .int .i64 0]) ∧ ∃ nx tk hs bd wh L, FdM base g G nx tk hs bd wh L w'
theorem StV.bad {base : Bs} {g : Nat} {F : Fs} {c : UInt8} {w w' : World} {k : Int} (h : stepS F c = .bad k) (hb : Bl base w w') {nx tk hs bd wh : Value} {L : List Mm} (hm : FdM base g F nx tk hs bd wh L w') : StV base g F c w (.returned (.tuple #[.nilFunc, .int .i64 k])) w' := ⟨hb, by rw [h]; exact ⟨rfl, F, _, _, _, _, _, _, hm, rfl, rfl, rfl⟩⟩
theorem StV.ok {base : Bs} {g : Nat} {F G : Fs} {c : UInt8} {w w' : World} {v : Value} (h : stepS F c = .ok G) (hb : Bl base w w') {nx tk hs bd wh : Value} {L : List Mm} (hm : FdM base g G nx tk hs bd wh L w') (hv : v = stepV G.next) : StV base g F c w (.returned (.tuple #[v, .int .i64 0])) w' := ⟨hb, by rw [h]; exact ⟨by rw [hv], _, _, _, _, _, _, hm⟩⟩
end Go.Proofs.YtbehakabglegjaaGreatDoor
namespace Go.Proofs.YtbehakabglegjaaGreatDoor
open Go.RowKit Go.PlainAid
set_option linter.unusedVariables false
set_option linter.unusedSimpArgs false
theorem fill_one (p : Int) : Instr.fill (fun i => some (i * 1, 1)) ((Array.range (1 * 1)).map ((Value.int .u8 0).cells[· % (Value.int .u8 0).cells.size]!)) [(0, .int .u8 p)] = some #[.int .u8 p] := by kernel_rfl
theorem bcells_app (l : List UInt8) (c : UInt8) : Lib.byteCells (l ++ [c]) = Lib.byteCells l ++ [.int .u8 (c.toNat : Int)] := by unfold Lib.byteCells; rw [List.map_append]; rfl
/-- What of a feed bounds its rows. -/
structure FJ (F : Fs) : Prop where
  tok : F.tok.length ≤ 8192
  heads : F.m.heads.length ≤ 64
  body : F.m.body.length ≤ 65536
  ver : F.next = 2 → F.tok.length < 9
  sta : F.next = 3 → F.tok.length ≤ 3 ∧ F.tok.all isDigB = true
  val : F.next = 7 → F.m.heads ≠ []
  wide : (F.next = 8 ∨ F.next = 11) → 0 < F.left ∧ F.m.body.length + F.left ≤ 65536
  size : 0 ≤ F.size ∧ F.size < 4294967296
  dig : F.next = 9 → F.size < 16 ^ F.tok.length
  some_ : F.next = 6 → 0 < F.tok.length → F.m.heads.length < 64
  none_ : (F.next = 5 ∨ 10 ≤ F.next) → F.tok.length = 0
  early : F.next ≤ 7 → F.m.body = [] ∧ F.left = 0 ∧ F.size = 0
theorem FI.j {F : Fs} (h : FI F) (n : Int) : FJ { F with head := n } :=
  ⟨by show F.tok.length ≤ 8192; have h1 := h.tok; have h2 := h.head; by_cases h0 : 0 ≤ F.head <;> omega, h.heads, h.body, h.ver, h.sta, h.val, h.wide, h.size, h.dig, h.some_, h.none_, h.early⟩
section
variable {ops : Array Oper} {rest : List Oper} {o : Oper} {a : Act} {w : World} {Q : Exit → Act → World → Prop}
theorem wpl_u8 (hgd : o.guard = none) (x : Operand) (ho : o.op = .buildSlice 23 1 #[(0, x)]) (c : UInt8) (hx : a.eval x = .int .u8 (c.toNat : Int))
    (h : ∀ w', Below w.heap.size w w' → IBox w' w.heap.size 5 #[.int .u8 (c.toNat : Int)] → wpList Tryz.prog ops Q rest (a.put o.dst (.slice (some ⟨w.heap.size, 0, none⟩) 1 1)) w') : wpList Tryz.prog ops Q (o :: rest) a w := by
  obtain ⟨ie, h1, h2, h3, h4⟩ := u8_info
  refine wpl_slice_at 1 [(0, .int .u8 (c.toNat : Int))] #[.int .u8 (c.toNat : Int)] ie _ (by rw [h3]; exact fill_one _) hgd 23 5 _ ho (by simp [hx]) Tryz.underlying23 h1 h2 (by rw [h3]; decide) (by rw [h3]; decide) ?_
  intro w' hw
  exact h w' (hid_grow hw) (hid_alloc hw).1
variable {base : Bs} {g : Nat} {F : Fs} {tk hs bd wh : Value} {L : List Mm}
theorem one_byte {c : UInt8} {g1 : Nat} (IB : IBox w g1 5 #[.int .u8 (c.toNat : Int)]) : ∀ (j : Nat) (u : Value), [Value.int .u8 (c.toNat : Int)][j]? = some u → w.cell? ((⟨g1, 0, none⟩ : Addr).add j) = some u := fun j u hu => by
  have hadd : (⟨g1, 0, none⟩ : Addr).add j = ⟨g1, j, none⟩ := by unfold Addr.add; split <;> simp_all
  rw [hadd, IB.cell]
  simpa using hu
/-- The token grows. -/
theorem wpl_tok (hgd : o.guard = none) (s x : Operand) (ho : o.op = .call { callee := .builtin .append, args := #[s, x], argTypes := #[23, 23] }) (R : FdR base g F tk hs bd wh L w) {t : TypeId} {arr : Array Value} (B : IBox w g t arr) (hn : F.tok.length ≤ 1048576)
    {g1 : Nat} {c : UInt8} (IB : IBox w g1 5 #[.int .u8 (c.toNat : Int)]) (h1 : a.eval s = tk) (h2 : a.eval x = .slice (some ⟨g1, 0, none⟩) 1 1)
    (h : ∀ A cp w', FdR base g (F.put c) (.slice A (F.tok.length + 1) cp) hs bd wh L w' → IBox w' g t arr → Bl base w w' → wpList Tryz.prog ops Q rest (a.put o.dst (.slice A (F.tok.length + 1) cp)) w') : wpList Tryz.prog ops Q (o :: rest) a w := by
  obtain ⟨ie, i1, i2, i3, i4⟩ := u8_info
  refine wpList_append_own_at w hgd s x 23 ho base.n 5 ie _ 1 1 Tryz.underlying23 i1 i2 i3 i4 rfl (by decide) tk F.tok.length (Lib.byteCells F.tok) h1 R.rt ⟨g1, 0, none⟩ 1 1 [.int .u8 (c.toNat : Int)] h2 rfl (one_byte IB) (fun u hu => by rw [List.mem_singleton.1 hu]; rfl) (by unfold maxLen; omega) (by omega) R.bl ?_
  intro v' w' h3 h4 _ h5
  have hb := Bes.grown (X := fun q => tk.ownBlock = some q) h4 (fun _ e => e)
  have ho : OwnB w' base.n v' (F.tok ++ [c]) := by unfold OwnB; rw [bcells_app, List.length_append]; exact h3
  obtain ⟨A, cp, hv⟩ := bt_slice ho
  have hv2 : v' = .slice A (F.tok.length + 1) cp := by rw [hv, List.length_append]; rfl
  subst hv2
  exact h A cp w' (R.tok ho hb (h5.elim .inl (fun e => .inr (.inl e)))) (Bes.box hb B (fun e => ((R.ap g).1 e).1 rfl)) (Bl.bes hb (fun k e => ⟨(own_in R.rt e).1, R.off k (.inr (.inl e))⟩) R.bl R.avl)
/-- The body grows. -/
theorem wpl_bod (hgd : o.guard = none) (s x : Operand) (ho : o.op = .call { callee := .builtin .append, args := #[s, x], argTypes := #[23, 23] }) (R : FdR base g F tk hs bd wh L w) {t : TypeId} {arr : Array Value} (B : IBox w g t arr) (hn : F.m.body.length ≤ 1048576)
    {g1 : Nat} {c : UInt8} (IB : IBox w g1 5 #[.int .u8 (c.toNat : Int)]) (h1 : a.eval s = bd) (h2 : a.eval x = .slice (some ⟨g1, 0, none⟩) 1 1)
    (h : ∀ A cp w', FdR base g { F with m := { F.m with body := F.m.body ++ [c] } } tk hs (.slice A (F.m.body.length + 1) cp) wh L w' → IBox w' g t arr → Bl base w w' → wpList Tryz.prog ops Q rest (a.put o.dst (.slice A (F.m.body.length + 1) cp)) w') : wpList Tryz.prog ops Q (o :: rest) a w := by
  obtain ⟨ie, i1, i2, i3, i4⟩ := u8_info
  refine wpList_append_own_at w hgd s x 23 ho base.n 5 ie _ 1 1 Tryz.underlying23 i1 i2 i3 i4 rfl (by decide) bd F.m.body.length (Lib.byteCells F.m.body) h1 R.rb ⟨g1, 0, none⟩ 1 1 [.int .u8 (c.toNat : Int)] h2 rfl (one_byte IB) (fun u hu => by rw [List.mem_singleton.1 hu]; rfl) (by unfold maxLen; omega) (by omega) R.bl ?_
  intro v' w' h3 h4 _ h5
  have hb := Bes.grown (X := fun q => bd.ownBlock = some q) h4 (fun _ e => e)
  have ho : OwnB w' base.n v' (F.m.body ++ [c]) := by unfold OwnB; rw [bcells_app, List.length_append]; exact h3
  obtain ⟨A, cp, hv⟩ := bt_slice ho
  have hv2 : v' = .slice A (F.m.body.length + 1) cp := by rw [hv, List.length_append]; rfl
  subst hv2
  exact h A cp w' (R.body ho hb (h5.elim .inl (fun e => .inr (.inl e)))) (Bes.box hb B (fun e => ((R.ap g).2.2.1 e).1 rfl)) (Bl.bes hb (fun k e => ⟨(own_in R.rb e).1, R.off k (.inr (.inr (.inr (.inl e))))⟩) R.bl R.avl)
end
/-- One change after the other. -/
theorem bl_add {base : Bs} {g : Nat} {F : Fs} {tk hs bd wh : Value} {L : List Mm} {a b c : World} (h : Bl base a b) (k : Below b.heap.size b c) (R : FdR base g F tk hs bd wh L b) : Bl base a c := h.trans (Bl.of k R.bl R.avl)
end Go.Proofs.YtbehakabglegjaaGreatDoor
namespace Go.Proofs.YtbehakabglegjaaGreatDoor
open Go.RowKit Go.PlainAid
set_option linter.unusedVariables false
set_option linter.unusedSimpArgs false
theorem fdm {base : Bs} {g : Nat} {F : Fs} {nx tk hs bd wh : Value} {L : List Mm} {w : World} (B : IBox w g 81 (FdC F nx tk hs bd wh)) (R : FdR base g F tk hs bd wh L w) : FdM base g F nx tk hs bd wh L w := ⟨B, R⟩
set_option maxRecDepth 100000 in
set_option maxHeartbeats 4000000 in
theorem method_any {base : Bs} {g : Nat} {F : Fs} {nx tk hs bd wh : Value} {L : List Mm} {w : World} {c : UInt8} (h : FdM base g F nx tk hs bd wh L w) (hj : FJ F) (hx : F.next = 0) :
    Calls Tryz.prog 70 #[.pointer (some ⟨g, 0, none⟩), .int .u8 (c.toNat : Int)] w (StV base g F c w) := by
  have HT := Lib.hid hj.tok
  have HS : Hid (stepS F c = methodS F c) := Lib.hid (by unfold stepS; rw [hx]; rfl)
  clear hj hx
  obtain ⟨A, cp, htk⟩ := bt_slice h.2.rt
  subst htk
  have B := h.1
  have R := Lib.hid h.2
  have HB := Bl.refl base w
  clear h
  have c5 : w.cell? ⟨g, 5, none⟩ = some (.slice A F.tok.length cp) := B.cell 5
  by_cases h1 : (65 ≤ c.toNat ∧ c.toNat ≤ 90) ∧ F.tok.length < 16
  · have HV : Hid (methodS F c = .ok { F.put c with next := 0 }) := Lib.hid (by unfold methodS; rw [if_pos h1])
    obtain ⟨⟨a1, a2⟩, a3⟩ := h1
    go_enter Tryz.func70, Tryz.ntmps70
    go_wp2_with (first
      | ((with_reducible refine is_slice ?_); refine wpl_u8 rfl (.tmp 26) rfl c rfl ?_; intro w1 hb B9; replace B := zI B hb; replace HB := bl_add HB hb R.out; replace R := Lib.hid (R.out.below hb); clear hb)
      | (at_builtin; refine wpl_tok rfl (.tmp 25) (.tmp 27) rfl R.out B (by have := HT.out; omega) B9 rfl rfl ?_; intro A1 p1 w2 hr hB hb; replace HB := HB.trans hb; replace R := Lib.hid hr; replace B := hB; clear hr hB hb B9)
      | ((with_reducible refine is_store ?_); refine wpl_store_cell rfl 23 (.tmp 30) (.tmp 28) rfl g 5 rfl (.slice A1 (F.tok.length + 1) p1) rfl _ _ B (show 5 < 16 by decide) one_sb rfl ?_; intro w3 hw; replace HB := HB.trans (R.out.store hw); replace R := Lib.hid (R.out.row (Bes.row (X := fun q => q = g) hw rfl)); replace B := hid_row hw B; simp only [FdC_5] at B; clear hw))
    go_ret2
    exact StV.ok (HS.out.trans HV.out) HB (fdm B (R.out.same rfl rfl rfl rfl)) rfl
  · by_cases h2 : c.toNat = 32 ∧ 0 < F.tok.length
    · have HV : Hid (methodS F c = .ok { F with m := { F.m with meth := txt F.tok }, tok := [], next := 1 }) := Lib.hid (by unfold methodS; rw [if_neg h1, if_pos h2])
      obtain ⟨a1, a2⟩ := h2
      have b1 : c.toNat ≤ 90 := by omega
      have b2 : ¬ 65 ≤ c.toNat := by omega
      clear h1
      go_enter Tryz.func70, Tryz.ntmps70
      go_wp2_with (first
        | (go_at_call 101; (have hM := fdm (F := F) B R.out); (with_reducible refine (taken_any hM).mono ?_); rintro e w4 ⟨rfl, ⟨tk4, hm⟩, hb⟩; replace B := hm.1; replace R := Lib.hid hm.2; replace HB := HB.trans hb; clear hm hb hM)
        | ((with_reducible refine is_store ?_); refine wpl_store_cell rfl 9 (.tmp 47) (.tmp 44) rfl g 6 rfl (.string (txt F.tok)) rfl _ _ B (show 6 < 16 by decide) one_s rfl ?_; intro w5 hw; replace HB := HB.trans (R.out.store hw); replace R := Lib.hid (R.out.row (Bes.row (X := fun q => q = g) hw rfl)); replace B := hid_row hw B; simp only [FdC_6] at B; clear hw))
      go_ret2
      exact StV.ok (HS.out.trans HV.out) HB (fdm B (R.out.same rfl rfl rfl rfl)) rfl
    · have HV : Hid (methodS F c = .bad 3) := Lib.hid (by unfold methodS; rw [if_neg h1, if_neg h2])
      go_enter Tryz.func70, Tryz.ntmps70
      by_cases a1 : 65 ≤ c.toNat <;> by_cases a2 : c.toNat ≤ 90 <;> by_cases a3 : F.tok.length < 16 <;> by_cases a4 : c.toNat = 32 <;> by_cases a5 : 0 < F.tok.length
      all_goals first
        | (exfalso; omega)
        | skip
      all_goals clear h1 h2
      all_goals
        go_wp2
        go_ret2
        exact StV.bad (HS.out.trans HV.out) HB (fdm B R.out)
end Go.Proofs.YtbehakabglegjaaGreatDoor
namespace Go.Proofs.YtbehakabglegjaaGreatDoor
open Go.RowKit Go.PlainAid
set_option linter.unusedVariables false
set_option linter.unusedSimpArgs false
theorem mms_one (x : Mm) : mmsL [x] = x.cells.toList := by unfold mmsL; simp
theorem mm_one (m : Ms) (A B : Option Addr) (n k c d : Nat) : (Mm.cells ⟨m, .slice A n c, .slice B k d⟩).all (·.oneCell') = true := by simp [Mm.cells, Value.oneCell']
theorem apart_none {g : Nat} {a b c d : Option Nat} (h : Apart g a b c d) : Apart g a none none d := fun q => by
  obtain ⟨h1, _, _, h4⟩ := h q
  exact ⟨fun e => ⟨(h1 e).1, by simp, by simp, (h1 e).2.2.2⟩, (fun e => by cases e), (fun e => by cases e), fun e => ⟨(h4 e).1, (h4 e).2.1, by simp, by simp⟩⟩
/-- The message that is whole leaves the feed: its rows are the message's alone. -/
theorem FdR.whole {base : Bs} {g : Nat} {F : Fs} {tk hs bd wh v : Value} {L : List Mm} {w w' : World} (h : FdR base g F tk hs bd wh L w) (h64 : F.m.heads.length ≤ 64) (h65 : F.m.body.length ≤ 65536)
    (ho : w'.ownsRow base.n 25 6 v (L.length + 1) (mmsL L ++ (Mm.cells ⟨F.m, hs, bd⟩).toList)) (hb : Bes (fun q => wh.ownBlock = some q) w w') (hat : v.ownBlock = wh.ownBlock ∨ v.ownBlock = some w.heap.size) :
    FdR base g { F with m := { F.m with heads := [], body := [] }, whole := F.whole ++ [F.m] } tk (.slice none 0 0) (.slice none 0 0) v (L ++ [⟨F.m, hs, bd⟩]) w' := by
  have hlive : ∀ q, Live g tk (.slice none 0 0) (.slice none 0 0) v q → q = g ∨ tk.ownBlock = some q ∨ wh.ownBlock = some q ∨ q = w.heap.size := fun q y => by
    rcases y with y | y | y | y | y
    · exact .inl y
    · exact .inr (.inl y)
    · cases y
    · cases y
    · rcases hat with e | e
      · rw [e] at y; exact .inr (.inr (.inl y))
      · rw [e] at y; exact .inr (.inr (.inr (Option.some.inj y).symm))
  refine ⟨⟨h.gl.1, Nat.lt_of_lt_of_le h.gl.2 hb.size⟩, Bes.own hb h.rt (fun k e x => ((h.ap k).1 e).2.2.2 x), ⟨rfl, .inl ⟨rfl, rfl⟩⟩, OwnB.nil _ _, ?_, ?_, ?_, fun x hx => ?_, fun q y a => ?_, fun q e => Nat.lt_of_lt_of_le (h.avl q e) hb.size, fun x hx => (List.mem_append.1 hx).elim (h.ma x) (fun hx => by rw [List.mem_singleton.1 hx]; exact ⟨fun q e a => h.off q (.inr (.inr (.inl e))) a, fun q e a => h.off q (.inr (.inr (.inr (.inl e)))) a⟩)⟩
  · rw [List.length_append, mmsL_app, mms_one]; exact ho
  · rw [List.map_append, h.wl]; rfl
  · exact (apart_none h.ap).s4.new h.gl.2 (fun q e => by cases e) (fun q e => by cases e) (fun q e => (own_in h.rt e).2) (hat.elim .inl (fun e => .inr (.inl e))) |>.s4
  · rcases List.mem_append.1 hx with hx | hx
    · obtain ⟨m1, m2⟩ := h.ms x hx
      refine ⟨m1.bes hb (m2.mono (fun q e => .inr (.inr (.inr (.inr e))))), ms_live m1 m2 (Nat.le_refl _) (fun q y => ?_)⟩
      rcases hlive q y with e | e | e | e
      · exact .inl (.inl e)
      · exact .inl (.inr (.inl e))
      · exact .inl (.inr (.inr (.inr (.inr e))))
      · exact .inr e
    · rw [List.mem_singleton.1 hx]
      have hq : ∀ q, hs.ownBlock = some q ∨ bd.ownBlock = some q → q < w.heap.size := fun q e => e.elim (fun e => (own_in h.rh e).2) (fun e => (own_in h.rb e).2)
      have hm : IsMm w ⟨F.m, hs, bd⟩ := ⟨hd_own h.rh, bt_own h.rb, hq, h64, h65, own_ty h.rh, own_ty h.rb, own_capok h.rh⟩
      have hnot : ∀ q, hs.ownBlock = some q ∨ bd.ownBlock = some q → ¬ Live g tk (.slice none 0 0) (.slice none 0 0) v q := fun q e y => by
        have hlt := hq q e
        obtain ⟨a1, a2, a3, a4⟩ := h.ap q
        rcases e with e | e
        · obtain ⟨b1, b2, b3, b4⟩ := a2 e
          rcases hlive q y with z | z | z | z
          · exact b1 z
          · exact b2 z
          · exact b4 z
          · omega
        · obtain ⟨b1, b2, b3, b4⟩ := a3 e
          rcases hlive q y with z | z | z | z
          · exact b1 z
          · exact b2 z
          · exact b4 z
          · omega
      refine ⟨hm.bes hb ⟨fun q e y => ((h.ap q).2.1 e).2.2.2 y, fun q e y => ((h.ap q).2.2.1 e).2.2.2 y⟩, fun q e y => hnot q (.inl e) y, fun q e y => hnot q (.inr e) y⟩
  · have := h.avl q a
    rcases hlive q y with z | z | z | z
    · exact h.off q (.inl z) a
    · exact h.off q (.inr (.inl z)) a
    · exact h.off q (.inr (.inr (.inr (.inr z)))) a
    · omega
theorem info_msgs : ∃ ie, Tryz.prog.info? 25 = some ie ∧ ie.zero = some (.agg zeroM) ∧ ie.size = 6 ∧ ie.bytes = 104 := by
  have h : (Tryz.prog.info? 25).map (fun i => (i.zero, i.size, i.bytes)) = some (some (.agg zeroM), 6, 104) := by kernel_rfl
  cases hq : Tryz.prog.info? 25 with
  | none => rw [hq] at h; cases h
  | some ie =>
    rw [hq] at h
    simp only [Option.map_some, Option.some.injEq, Prod.mk.injEq] at h
    exact ⟨ie, rfl, h.1, h.2.1, h.2.2⟩
theorem msg_fill (x : Mm) : Instr.fill (fun i => some (i * 6, 6)) ((Array.range (1 * 6)).map ((Value.agg zeroM).cells[· % (Value.agg zeroM).cells.size]!)) [(0, .agg x.cells)] = some x.cells := by kernel_rfl
/-- What the end of a message gives. -/
def EnV (base : Bs) (g : Nat) (F : Fs) (w : World) (e : Ending) (w' : World) : Prop := e = .returned (.tuple #[stepV F.end_.next, .int .i64 0]) ∧ (∃ nx tk hs bd wh L, FdM base g F.end_ nx tk hs bd wh L w') ∧ Bl base w w'
set_option maxRecDepth 100000 in
set_option maxHeartbeats 4000000 in
theorem end_any {base : Bs} {g : Nat} {F : Fs} {nx tk hs bd wh : Value} {L : List Mm} {w : World} (B : IBox w g 81 (FdC F nx tk hs bd wh)) (R : FdR base g F tk hs bd wh L w) (h64 : F.m.heads.length ≤ 64) (h65 : F.m.body.length ≤ 65536) (hn : F.whole.length < 1099511627776) :
    Calls Tryz.prog 142 #[.pointer (some ⟨g, 0, none⟩)] w (EnV base g F w) := by
  obtain ⟨ie, i1, i2, i3, i4⟩ := info_msgs
  have hL : L.length < 1099511627776 := by rw [← R.wl, List.length_map] at hn; exact hn
  obtain ⟨hA, hc, rfl, _⟩ := own_slice R.rh
  obtain ⟨bA, bc, rfl⟩ := bt_slice R.rb
  obtain ⟨wA, wc, rfl, _⟩ := own_slice R.rw_
  have HRN : ∀ w' wv, IBox w' g 81 (FdC F nx tk (.slice hA F.m.heads.length hc) (.slice bA F.m.body.length bc) wv) → w'.rangeAt g 6 (Mm.cells ⟨F.m, .slice hA F.m.heads.length hc, .slice bA F.m.body.length bc⟩).toList := fun w' wv hB j v hv => by
    rw [hB.cell]
    have : j = 0 ∨ j = 1 ∨ j = 2 ∨ j = 3 ∨ j = 4 ∨ j = 5 := by
      have := (List.getElem?_eq_some_iff.1 hv).1
      have e : (Mm.cells ⟨F.m, .slice hA F.m.heads.length hc, .slice bA F.m.body.length bc⟩).toList.length = 6 := rfl
      omega
    rcases this with rfl | rfl | rfl | rfl | rfl | rfl <;> exact hv
  have HB := Bl.refl base w
  go_enter Tryz.func142, Tryz.ntmps142
  go_wp2
  refine wp_region_S (S := fun w' => w'.rangeAt g 6 (Mm.cells ⟨F.m, .slice hA F.m.heads.length hc, .slice bA F.m.body.length bc⟩).toList) (by kernel_rfl) (fun w2 hh => HRN w2 _ (box_heap hh B)) (fun w2 hh hbb HS => ?_)
  replace B : IBox w2 g 81 (FdC F nx tk (.slice hA F.m.heads.length hc) (.slice bA F.m.body.length bc) (.slice wA L.length wc)) := box_heap hh B
  replace HB := HB.trans (Bl.of (hbb _ (Nat.le_refl _)) R.bl R.avl)
  replace R : FdR base g F tk (.slice hA F.m.heads.length hc) (.slice bA F.m.body.length bc) (.slice wA L.length wc) L w2 := R.below (hbb _ (Nat.le_refl _))
  clear hh hbb
  refine TKC 0 4 rfl ?_
  try simp only [Act.put, zA, zB, zC]
  refine TKC 1 5 rfl ?_
  try simp only [Act.put, zA, zB, zC]
  refine TKC 2 6 rfl ?_
  try simp only [Act.put, zA, zB, zC]
  refine TKC 3 7 rfl ?_
  try simp only [Act.put, zA, zB, zC]
  refine TKC 5 9 rfl ?_
  try simp only [Act.put, zA, zB, zC]
  refine TKC 6 10 rfl ?_
  try simp only [Act.put, zA, zB, zC]
  refine TKC 7 11 rfl ?_
  try simp only [Act.put, zA, zB, zC]
  refine TKY 8 12 rfl (yields_rowS (by kernel_rfl) _ _ rfl _ _ rfl _ _ (fun _ h => h) Tryz.underlying25 rfl (by show _ = some 6; exact info_msg)) ?_
  try simp only [Act.put, zA, zB, zC]
  refine ashare (fun (y : Option Addr × Nat) (a : Act) => (((((a.put (some 8) (.slice wA L.length wc)).put (some 13) (.slice (some ⟨w2.heap.size, 0, none⟩) 1 1)).put (some 14) (.slice y.1 (L.length + 1) y.2)).put (some 15) (.pointer (some ⟨g, 0, none⟩))).put (some 16) (.pointer (some ⟨g, 12, none⟩))).put none undef) (fun (y : Option Addr × Nat) (w' : World) => IBox w' g 81 (FdC F nx tk (.slice hA F.m.heads.length hc) (.slice bA F.m.body.length bc) (.slice y.1 (L.length + 1) y.2)) ∧ FdR base g { F with m := { F.m with heads := [], body := [] }, whole := F.whole ++ [F.m] } tk (.slice none 0 0) (.slice none 0 0) (.slice y.1 (L.length + 1) y.2) (L ++ [⟨F.m, .slice hA F.m.heads.length hc, .slice bA F.m.body.length bc⟩]) w' ∧ Bl base w w') (fun HT => ?_) ?_
  · refine wpAnyH_ready (rs := [4, 9]) (by kernel_rfl) (by simp) ?_
    refine AllReadyH.cons (o := ⟨some 8, _, _, _, _, _⟩) rfl (fun K hK => ?_) ?_
    · have cg : World.cell? _ ⟨g, 12, none⟩ = some (.slice wA L.length wc) := B.cell 12
      go_simp
      clear cg
      refine hK.out _ _ HS (fun hS2 => ?_)
      clear hK K hS2
      try simp only [Act.put, zA, zB, zC]
      refine wpAnyH_ready (rs := [9]) (by kernel_rfl) (by simp) ?_
      refine AllReadyH.cons (o := ⟨some 13, _, _, _, _, _⟩) rfl (fun K hK => ?_) AllReadyH.nil
      simp only [Region.wanted, if_true]
      refine op_slice_at 1 _ _ ie _ (by rw [i3]; exact msg_fill ⟨F.m, .slice hA F.m.heads.length hc, .slice bA F.m.body.length bc⟩) 39 25 _ rfl rfl rfl i1 i2 (by rw [i3]; decide) (by rw [i3]; decide) ?_
      intro w10 hw
      have hb := hid_grow hw
      have BN := (hid_alloc hw).1
      replace B := zI B hb
      replace HB := bl_add HB hb R
      replace R := R.below hb
      replace HS := HRN _ _ B
      clear hb hw
      refine hK.out _ _ HS (fun hS2 => ?_)
      clear hK K hS2
      try simp only [Act.put, zA, zB, zC]
      refine wpAnyH_ready (rs := [10]) (by kernel_rfl) (by simp) ?_
      refine AllReadyH.cons (o := ⟨some 14, _, _, _, _, _⟩) rfl (fun K hK => ?_) AllReadyH.nil
      simp only [Region.wanted, if_true]
      refine op_append_at _ _ 39 rfl base.n 25 ie _ 6 104 rfl i1 i2 i3 i4 rfl (by decide) (.slice wA L.length wc) L.length (mmsL L) rfl R.rw_ _ _ _ _ BN (by rfl) rfl (mm_one _ _ _ _ _ _ _) (by unfold maxLen; omega) (by omega) R.bl ?_
      intro g7 cap w11 HO2 hgrow hat hlt
      have hbe := Bes.grown (X := fun q => (Value.slice wA L.length wc).ownBlock = some q) hgrow (fun _ h => h)
      replace B := Bes.box hbe B (fun e => ((R.ap g).2.2.2 e).1 rfl)
      replace HB := HB.trans (Bl.bes hbe (fun k e => ⟨(own_in R.rw_ e).1, R.off k (.inr (.inr (.inr (.inr e))))⟩) R.bl R.avl)
      have RN := R.whole h64 h65 HO2 hbe (hat.elim (fun h => .inl h.symm) (fun h => .inr (congrArg some h)))
      replace HS := HRN _ _ B
      refine hK.out _ _ HS (fun hS2 => ?_)
      clear hK K hS2
      try simp only [Act.put, zA, zB, zC]
      refine TKC 11 15 rfl ?_
      try simp only [Act.put, zA, zB, zC]
      refine TKC 12 16 rfl ?_
      try simp only [Act.put, zA, zB, zC]
      refine wpAnyH_ready (rs := [13]) (by kernel_rfl) (by simp) ?_
      refine AllReadyH.cons (o := ⟨none, _, _, _, _, _⟩) rfl (fun K hK => ?_) AllReadyH.nil
      simp only [Region.wanted, if_true]
      refine op_store_cell 39 _ _ rfl g 12 rfl (.slice (some ⟨g7, 0, none⟩) (L.length + 1) cap) rfl _ _ B (show 12 < 16 by decide) one_sm rfl ?_
      intro w12 hw
      replace HB := HB.trans (RN.store hw)
      replace RN := RN.row (Bes.row (X := fun q => q = g) hw rfl)
      replace B := hid_row hw B
      simp only [FdC_12] at B
      clear hw
      replace HS := HRN _ _ B
      refine hK.out _ _ HS (fun hS2 => ?_)
      clear hK K hS2
      try simp only [Act.put, zA, zB, zC]
      refine wpAnyH_done (by kernel_rfl) ?_ _
      exact HT.out (some ⟨g7, 0, none⟩, cap) _ _ ⟨B, RN, HB⟩ (by kernel_rfl)
    refine AllReadyH.cons (o := ⟨some 13, _, _, _, _, _⟩) rfl (fun K hK => ?_) AllReadyH.nil
    simp only [Region.wanted, if_true]
    refine op_slice_at 1 _ _ ie _ (by rw [i3]; exact msg_fill ⟨F.m, .slice hA F.m.heads.length hc, .slice bA F.m.body.length bc⟩) 39 25 _ rfl rfl rfl i1 i2 (by rw [i3]; decide) (by rw [i3]; decide) ?_
    intro w10 hw
    have hb := hid_grow hw
    have BN := (hid_alloc hw).1
    replace B := zI B hb
    replace HB := bl_add HB hb R
    replace R := R.below hb
    replace HS := HRN _ _ B
    clear hb hw
    refine hK.out _ _ HS (fun hS2 => ?_)
    clear hK K hS2
    try simp only [Act.put, zA, zB, zC]
    refine wpAnyH_ready (rs := [4]) (by kernel_rfl) (by simp) ?_
    refine AllReadyH.cons (o := ⟨some 8, _, _, _, _, _⟩) rfl (fun K hK => ?_) AllReadyH.nil
    have cg : World.cell? _ ⟨g, 12, none⟩ = some (.slice wA L.length wc) := B.cell 12
    go_simp
    clear cg
    refine hK.out _ _ HS (fun hS2 => ?_)
    clear hK K hS2
    try simp only [Act.put, zA, zB, zC]
    refine wpAnyH_ready (rs := [10]) (by kernel_rfl) (by simp) ?_
    refine AllReadyH.cons (o := ⟨some 14, _, _, _, _, _⟩) rfl (fun K hK => ?_) AllReadyH.nil
    simp only [Region.wanted, if_true]
    refine op_append_at _ _ 39 rfl base.n 25 ie _ 6 104 rfl i1 i2 i3 i4 rfl (by decide) (.slice wA L.length wc) L.length (mmsL L) rfl R.rw_ _ _ _ _ BN (by rfl) rfl (mm_one _ _ _ _ _ _ _) (by unfold maxLen; omega) (by omega) R.bl ?_
    intro g7 cap w11 HO2 hgrow hat hlt
    have hbe := Bes.grown (X := fun q => (Value.slice wA L.length wc).ownBlock = some q) hgrow (fun _ h => h)
    replace B := Bes.box hbe B (fun e => ((R.ap g).2.2.2 e).1 rfl)
    replace HB := HB.trans (Bl.bes hbe (fun k e => ⟨(own_in R.rw_ e).1, R.off k (.inr (.inr (.inr (.inr e))))⟩) R.bl R.avl)
    have RN := R.whole h64 h65 HO2 hbe (hat.elim (fun h => .inl h.symm) (fun h => .inr (congrArg some h)))
    replace HS := HRN _ _ B
    refine hK.out _ _ HS (fun hS2 => ?_)
    clear hK K hS2
    try simp only [Act.put, zA, zB, zC]
    refine TKC 11 15 rfl ?_
    try simp only [Act.put, zA, zB, zC]
    refine TKC 12 16 rfl ?_
    try simp only [Act.put, zA, zB, zC]
    refine wpAnyH_ready (rs := [13]) (by kernel_rfl) (by simp) ?_
    refine AllReadyH.cons (o := ⟨none, _, _, _, _, _⟩) rfl (fun K hK => ?_) AllReadyH.nil
    simp only [Region.wanted, if_true]
    refine op_store_cell 39 _ _ rfl g 12 rfl (.slice (some ⟨g7, 0, none⟩) (L.length + 1) cap) rfl _ _ B (show 12 < 16 by decide) one_sm rfl ?_
    intro w12 hw
    replace HB := HB.trans (RN.store hw)
    replace RN := RN.row (Bes.row (X := fun q => q = g) hw rfl)
    replace B := hid_row hw B
    simp only [FdC_12] at B
    clear hw
    replace HS := HRN _ _ B
    refine hK.out _ _ HS (fun hS2 => ?_)
    clear hK K hS2
    try simp only [Act.put, zA, zB, zC]
    refine wpAnyH_done (by kernel_rfl) ?_ _
    exact HT.out (some ⟨g7, 0, none⟩, cap) _ _ ⟨B, RN, HB⟩ (by kernel_rfl)
  · rintro ⟨A7, cap⟩ w3 ⟨B3, RN, HB3⟩
    replace B3 : IBox w3 g 81 (FdC F nx tk (.slice hA F.m.heads.length hc) (.slice bA F.m.body.length bc) (.slice A7 (L.length + 1) cap)) := B3
    replace RN : FdR base g { F with m := { F.m with heads := [], body := [] }, whole := F.whole ++ [F.m] } tk (.slice none 0 0) (.slice none 0 0) (.slice A7 (L.length + 1) cap) (L ++ [⟨F.m, .slice hA F.m.heads.length hc, .slice bA F.m.body.length bc⟩]) w3 := RN
    have HM := begin_at (F := { F with m := { F.m with heads := [], body := [] }, whole := F.whole ++ [F.m] }) (M := F.m) B3 RN
    clear B R HB HS HRN B3
    go_wp2_with (go_at_call 42; (with_reducible refine HM.mono ?_); rintro e w4 ⟨rfl, hm, hb⟩; have c4 : w4.cell? ⟨g, 4, none⟩ = some (stepV F.end_.next) := hm.1.cell 4)
    go_ret2
    exact ⟨rfl, ⟨_, _, _, _, _, _, hm⟩, HB3.trans hb⟩
end Go.Proofs.YtbehakabglegjaaGreatDoor
