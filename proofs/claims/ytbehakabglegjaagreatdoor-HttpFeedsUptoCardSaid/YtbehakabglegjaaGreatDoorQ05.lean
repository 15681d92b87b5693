/- Layer 9: a feed's token is taken; a feed begins anew. Layer 9: the document's reader: what it holds, in memory. Words for drawn regions: an operation taken first, in one short line. Words for drawn regions: an operation that is not wanted is passed over. -/
import Derived.PlainAid
import Derived.Test.YtbehakabglegjaaGreatDoorQ04
import Derived.Test.YtbehakabglegjaaGreatDoorQ02
import Derived.Test.YtbehakabglegjaaGreatDoorQ01
import Derived.Deep.RegionHeld3
import Derived.Deep.QuietTactic
import Derived.Test.YtbehakabglegjaaGreatDoorQZip
namespace Go.Proofs.YtbehakabglegjaaGreatDoor
open Go.RowKit Go.PlainAid
set_option linter.unusedVariables false
set_option linter.unusedSimpArgs false
theorem one_sb : (Tryz.prog.info? 23).map (·.size) = some 1 := by kernel_rfl
theorem one_sm : (Tryz.prog.info? 39).map (·.size) = some 1 := by kernel_rfl
theorem one_sh : (Tryz.prog.info? 22).map (·.size) = some 1 := by kernel_rfl
theorem one_i : (Tryz.prog.info? 3).map (·.size) = some 1 := by kernel_rfl
theorem one_b : (Tryz.prog.info? 4).map (·.size) = some 1 := by kernel_rfl
theorem one_s : (Tryz.prog.info? 9).map (·.size) = some 1 := by kernel_rfl
theorem one_st : (Tryz.prog.info? 79).map (·.size) = some 1 := by kernel_rfl
/-- A cell of the feed's box. -/
theorem FdM.cell {base : Bs} {g : Nat} {F : Fs} {nx tk hs bd wh : Value} {L : List Mm} {w : World} (h : FdM base g F nx tk hs bd wh L w) (k : Nat) : w.cell? ⟨g, k, none⟩ = (FdC F nx tk hs bd wh)[k]? := h.1.cell k
/-- Another value in one cell. -/
theorem FdM.put {base : Bs} {g : Nat} {F G : Fs} {nx tk hs bd wh nx' tk' hs' bd' wh' : Value} {L : List Mm} {w w' : World} {k : Nat} {v : Value} (h : FdM base g F nx tk hs bd wh L w) (hw : Hid (w' = w.setRow g ((FdC F nx tk hs bd wh).setIfInBounds k v)))
    (e : (FdC F nx tk hs bd wh).setIfInBounds k v = FdC G nx' tk' hs' bd' wh') (hr : FdR base g G tk' hs' bd' wh' L w') : FdM base g G nx' tk' hs' bd' wh' L w' :=
  ⟨e ▸ hid_row hw h.1, hr⟩
theorem own_cut {w : World} {base : Nat} {A : Option Addr} {n c : Nat} {l : List UInt8} (h : w.ownsRow base 5 1 (.slice A n c) l.length (Lib.byteCells l)) : OwnB w base (.slice A 0 c) [] := by
  refine ⟨rfl, ?_⟩
  rcases h.2 with ⟨hv, h0⟩ | ⟨g, cap, cur, hv, hb, hg, hn, hc, hs, ht⟩
  · injection hv with e1 e2 e3
    subst e1 e3
    exact .inl ⟨rfl, rfl⟩
  · injection hv with e1 e2 e3
    subst e1 e3
    exact .inr ⟨g, c, cur, rfl, hb, hg, Nat.zero_le _, hc, hs, by simp [Lib.byteCells]⟩
theorem bt_slice {w : World} {base : Nat} {v : Value} {l : List UInt8} (h : OwnB w base v l) : ∃ A c, v = .slice A l.length c := by
  obtain ⟨A, c, hv, _⟩ := own_slice h
  exact ⟨A, c, hv⟩
theorem FdR.bl {base : Bs} {g : Nat} {F : Fs} {tk hs bd wh : Value} {L : List Mm} {w : World} (h : FdR base g F tk hs bd wh L w) : base.n ≤ w.heap.size := Nat.le_of_lt (Nat.lt_of_le_of_lt h.gl.1 h.gl.2)
theorem FdR.store {base : Bs} {g : Nat} {F : Fs} {tk hs bd wh : Value} {L : List Mm} {w w' : World} {arr : Array Value} (h : FdR base g F tk hs bd wh L w) (hw : Hid (w' = w.setRow g arr)) : Bl base w w' :=
  Bl.bes (X := fun q => q = g) (Bes.row hw rfl) (fun q e => by rw [show q = g from e]; exact ⟨h.gl.1, h.off g (.inl rfl)⟩) h.bl h.avl
section
variable {F : Fs} {nx tk hs bd wh : Value}
theorem FdC_1 (b : Bool) : (FdC F nx tk hs bd wh).setIfInBounds 1 (.bool b) = FdC { F with shut := b } nx tk hs bd wh := rfl
theorem FdC_2 (n : Nat) : (FdC F nx tk hs bd wh).setIfInBounds 2 (.int .i64 (n : Int)) = FdC { F with pos := n } nx tk hs bd wh := rfl
theorem FdC_3 (n : Int) : (FdC F nx tk hs bd wh).setIfInBounds 3 (.int .i64 n) = FdC { F with head := n } nx tk hs bd wh := rfl
theorem FdC_4 (v : Value) : (FdC F nx tk hs bd wh).setIfInBounds 4 v = FdC F v tk hs bd wh := rfl
theorem FdC_5 (v : Value) : (FdC F nx tk hs bd wh).setIfInBounds 5 v = FdC F nx v hs bd wh := rfl
theorem FdC_6 (t : ByteArray) : (FdC F nx tk hs bd wh).setIfInBounds 6 (.string t) = FdC { F with m := { F.m with meth := t } } nx tk hs bd wh := rfl
theorem FdC_7 (t : ByteArray) : (FdC F nx tk hs bd wh).setIfInBounds 7 (.string t) = FdC { F with m := { F.m with targ := t } } nx tk hs bd wh := rfl
theorem FdC_8 (n : Int) : (FdC F nx tk hs bd wh).setIfInBounds 8 (.int .i64 n) = FdC { F with m := { F.m with stat := n } } nx tk hs bd wh := rfl
theorem FdC_9 (t : ByteArray) : (FdC F nx tk hs bd wh).setIfInBounds 9 (.string t) = FdC { F with m := { F.m with reas := t } } nx tk hs bd wh := rfl
theorem FdC_10 (v : Value) : (FdC F nx tk hs bd wh).setIfInBounds 10 v = FdC F nx tk v bd wh := rfl
theorem FdC_11 (v : Value) : (FdC F nx tk hs bd wh).setIfInBounds 11 v = FdC F nx tk hs v wh := rfl
theorem FdC_12 (v : Value) : (FdC F nx tk hs bd wh).setIfInBounds 12 v = FdC F nx tk hs bd v := rfl
theorem FdC_13 (n : Int) : (FdC F nx tk hs bd wh).setIfInBounds 13 (.int .i64 n) = FdC { F with left := n } nx tk hs bd wh := rfl
theorem FdC_14 (n : Int) : (FdC F nx tk hs bd wh).setIfInBounds 14 (.int .i64 n) = FdC { F with size := n } nx tk hs bd wh := rfl
theorem FdC_15 (n : Int) : (FdC F nx tk hs bd wh).setIfInBounds 15 (.int .i64 n) = FdC { F with about := n } nx tk hs bd wh := rfl
end
theorem own_blk (A : Option Addr) (n m c : Nat) : (Value.slice A n c).ownBlock = (Value.slice A m c).ownBlock := by cases A <;> rfl
theorem Bes.self {X : Nat → Prop} {a b c : World} (h : Bes X a b) (k : Bes X b c) : Bes X a c := h.trans k (fun _ x => x) (fun _ _ x => x)
section
variable {ops : Array Oper} {rest : List Oper} {o : Oper} {a : Act} {w : World} {Q : Exit → Act → World → Prop}
/-- A struct is stored into some cells of a box. -/
theorem wpl_store_part (hgd : o.guard = none) (ty : TypeId) (x y : Operand) (ho : o.op = .store ty x y) (g off : Nat) (cells : Array Value) (hx : a.eval x = .pointer (some ⟨g, off, none⟩)) (hy : a.eval y = .agg cells)
    (t : TypeId) (cur : Array Value) (hI : IBox w g t cur) (hoff : off + cells.size ≤ cur.size) (hi : (Tryz.prog.info? ty).map (·.size) = some cells.size) (h1 : cells.all (·.oneCell') = true)
    (h : ∀ w', IBox w' g t (over cur off cells.toList) → Bes (fun q => q = g) w w' → wpList Tryz.prog ops Q rest (a.put o.dst undef) w') : wpList Tryz.prog ops Q (o :: rest) a w :=
  wpList_plain hgd fun _ hK => by
    have ht : w.there g off cells.size := fun j hj => by
      refine ⟨?_, hI.frozen _⟩
      rw [hI.cell, Array.getElem?_eq_getElem (by omega)]
      rfl
    exact wp_store_mid ty x y ho g off cells hx hy ht hi h1 (hK _ _ (h _ (setCells_box _ _ _ _ hI) (setCells_bes (X := fun q => q = g) rfl _ _ _ _ hI)))
end
/-- A feed's text so far, which is taken. -/
def TkV (base : Bs) (g : Nat) (F : Fs) (nx hs bd wh : Value) (L : List Mm) (w : World) (e : Ending) (w' : World) : Prop := e = .returned (.string (txt F.tok)) ∧ (∃ tk, FdM base g { F with tok := [] } nx tk hs bd wh L w') ∧ Bl base w w'
set_option maxRecDepth 10000 in
set_option maxHeartbeats 4000000 in
theorem taken_any {base : Bs} {g : Nat} {F : Fs} {nx tk hs bd wh : Value} {L : List Mm} {w : World} (h : FdM base g F nx tk hs bd wh L w) : Calls Tryz.prog 101 #[.pointer (some ⟨g, 0, none⟩)] w (TkV base g F nx hs bd wh L w) := by
  have HR := Lib.hid h.2
  obtain ⟨A, c, htk⟩ := bt_slice h.2.rt
  subst htk
  have c5 : w.cell? ⟨g, 5, none⟩ = some (.slice A F.tok.length c) := h.cell 5
  have H := Lib.hid h
  clear h
  go_enter Tryz.func101, Tryz.ntmps101
  go_wp2_with (first
    | (refine wpl_own_text rfl (.tmp 7) 23 9 rfl Tryz.underlying23 Tryz.underlying9 _ _ _ rfl HR.out.rt ?_)
    | ((with_reducible refine is_store ?_); refine wpl_store_cell rfl 23 (.tmp 16) (.tmp 14) rfl g 5 rfl (.slice A 0 c) rfl _ _ H.out.1 (show 5 < 16 by decide) one_sb rfl ?_; intro w1 hw))
  go_ret
  have hr1 := HR.out.row (Bes.row (X := fun q => q = g) hw rfl)
  exact ⟨rfl, ⟨_, H.out.put hw rfl (hr1.tok (own_cut hr1.rt) (Bes.of_below (Below.refl _ _)) (.inl (own_blk _ _ _ _)))⟩, HR.out.store hw⟩
def zeroM : Array Value := #[.string ⟨#[]⟩, .string ⟨#[]⟩, .int .i64 0, .string ⟨#[]⟩, .slice none 0 0, .slice none 0 0]
theorem FdC_m {F : Fs} {nx tk hs bd wh : Value} : over (FdC F nx tk hs bd wh) 6 zeroM.toList = FdC { F with m := Ms.zero } nx tk (.slice none 0 0) (.slice none 0 0) wh := rfl
theorem zero_msg (w : World) : (Instr.build 25 #[]).run Tryz.prog w = .ok (.agg zeroM) w := by kernel_rfl
theorem zero_one : zeroM.all (·.oneCell') = true := by simp [zeroM, Value.oneCell']
theorem info_msg : (Tryz.prog.info? 25).map (·.size) = some 6 := by kernel_rfl
def BgV (base : Bs) (g : Nat) (F : Fs) (wh : Value) (L : List Mm) (w : World) (e : Ending) (w' : World) : Prop := e = .returned (.tuple #[]) ∧ FdM base g F.begin (stepV F.begin.next) (.slice none 0 0) (.slice none 0 0) (.slice none 0 0) wh L w' ∧ Bl base w w'
set_option maxRecDepth 10000 in
set_option maxHeartbeats 1000000 in
theorem begin_at {base : Bs} {g : Nat} {F : Fs} {M : Ms} {nx tk hs bd wh tk0 hs0 bd0 : Value} {L : List Mm} {w : World} (B : IBox w g 81 (FdC { F with m := M } nx tk0 hs0 bd0 wh)) (h : FdR base g F tk hs bd wh L w) : Calls Tryz.prog 42 #[.pointer (some ⟨g, 0, none⟩)] w (BgV base g F wh L w) := by
  have HR := Lib.hid h
  have HBE := Bes.of_below (X := fun q => q = g) (Below.refl w.heap.size w)
  clear h
  cases ha : F.ans
  all_goals
    have c0 : w.cell? ⟨g, 0, none⟩ = some (.bool F.ans) := B.cell 0
    rw [ha] at c0
    have HA := Lib.hid ha
    clear ha
    go_enter Tryz.func42, Tryz.ntmps42
    go_wp2_with (first
      | ((with_reducible refine is_build ?_); refine wpl_build_at zero_msg rfl _ rfl rfl ?_)
      | ((with_reducible refine is_store ?_); refine wpl_store_part rfl 25 (.tmp 10) (.tmp 8) rfl g 6 zeroM rfl rfl _ _ B (show 6 + 6 ≤ 16 by decide) info_msg zero_one ?_; intro w1 B1 hb; replace HBE := HBE.self hb; replace B := B1; simp only [FdC_m] at B; clear B1 hb c0; have c0 : w1.cell? ⟨g, 0, none⟩ = some (.bool F.ans) := B.cell 0; rw [HA.out] at c0)
      | ((with_reducible refine is_store ?_); refine wpl_store_cell rfl 23 (.tmp 12) _ rfl g 5 rfl (.slice none 0 0) rfl _ _ B (show 5 < 16 by decide) one_sb rfl ?_; intro w2 hw; replace HBE := HBE.self (Bes.row hw rfl); replace B := hid_row hw B; simp only [FdC_5] at B; clear hw c0; have c0 : w2.cell? ⟨g, 0, none⟩ = some (.bool F.ans) := B.cell 0; rw [HA.out] at c0)
      | ((with_reducible refine is_store ?_); refine wpl_store_cell rfl 3 (.tmp 14) _ rfl g 3 rfl (.int .i64 0) rfl _ _ B (show 3 < 16 by decide) one_i rfl ?_; intro w2 hw; replace HBE := HBE.self (Bes.row hw rfl); replace B := hid_row hw B; simp only [FdC_3] at B; clear hw c0; have c0 : w2.cell? ⟨g, 0, none⟩ = some (.bool F.ans) := B.cell 0; rw [HA.out] at c0)
      | ((with_reducible refine is_store ?_); refine wpl_store_cell rfl 3 (.tmp 16) _ rfl g 13 rfl (.int .i64 0) rfl _ _ B (show 13 < 16 by decide) one_i rfl ?_; intro w2 hw; replace HBE := HBE.self (Bes.row hw rfl); replace B := hid_row hw B; simp only [FdC_13] at B; clear hw c0; have c0 : w2.cell? ⟨g, 0, none⟩ = some (.bool F.ans) := B.cell 0; rw [HA.out] at c0)
      | ((with_reducible refine is_store ?_); refine wpl_store_cell rfl 3 (.tmp 18) _ rfl g 14 rfl (.int .i64 0) rfl _ _ B (show 14 < 16 by decide) one_i rfl ?_; intro w2 hw; replace HBE := HBE.self (Bes.row hw rfl); replace B := hid_row hw B; simp only [FdC_14] at B; clear hw c0; have c0 : w2.cell? ⟨g, 0, none⟩ = some (.bool F.ans) := B.cell 0; rw [HA.out] at c0)
      | ((with_reducible refine is_store ?_); refine wpl_store_cell rfl 3 (.tmp 20) _ rfl g 15 rfl (.int .i64 0) rfl _ _ B (show 15 < 16 by decide) one_i rfl ?_; intro w2 hw; replace HBE := HBE.self (Bes.row hw rfl); replace B := hid_row hw B; simp only [FdC_15] at B; clear hw c0; have c0 : w2.cell? ⟨g, 0, none⟩ = some (.bool F.ans) := B.cell 0; rw [HA.out] at c0)
      | ((with_reducible refine is_store ?_); refine wpl_store_cell rfl 79 (.tmp 23) _ rfl g 4 rfl (stepV 0) rfl _ _ B (show 4 < 16 by decide) one_st rfl ?_; intro w2 hw; replace HBE := HBE.self (Bes.row hw rfl); replace B := hid_row hw B; simp only [FdC_4] at B; clear hw c0; have c0 : w2.cell? ⟨g, 0, none⟩ = some (.bool F.ans) := B.cell 0; rw [HA.out] at c0)
      | ((with_reducible refine is_store ?_); refine wpl_store_cell rfl 79 (.tmp 30) _ rfl g 4 rfl (stepV 2) rfl _ _ B (show 4 < 16 by decide) one_st rfl ?_; intro w2 hw; replace HBE := HBE.self (Bes.row hw rfl); replace B := hid_row hw B; simp only [FdC_4] at B; clear hw c0; have c0 : w2.cell? ⟨g, 0, none⟩ = some (.bool F.ans) := B.cell 0; rw [HA.out] at c0))
    first | go_end0 | (refine bodyPost_ret (results_none rfl _ _ _) rfl ?_)
    have hgz := HR.out.gl
    have hr1 := ((((HR.out.row HBE).tok (l := []) (v := .slice none 0 0) (OwnB.nil _ _) (Bes.of_below (Below.refl _ _)) (.inr (.inr rfl))).heads (l := []) (v := .slice none 0 0) ⟨rfl, .inl ⟨rfl, rfl⟩⟩ (Bes.of_below (Below.refl _ _)) (.inr (.inr rfl))).body (l := []) (v := .slice none 0 0) (OwnB.nil _ _) (Bes.of_below (Below.refl _ _)) (.inr (.inr rfl))).same (G := F.begin) rfl rfl rfl rfl
    refine ⟨rfl, ⟨?_, hr1⟩, Bl.bes HBE (fun k e => by rw [show k = g from e]; exact ⟨hgz.1, HR.out.off g (.inl rfl)⟩) HR.out.bl HR.out.avl⟩
    first
      | (rw [show F.begin.next = 2 by (show (if F.ans = true then 2 else 0) = 2; rw [HA.out]; rfl)]; exact B)
      | (rw [show F.begin.next = 0 by (show (if F.ans = true then 2 else 0) = 0; rw [HA.out]; rfl)]; exact B)
theorem begin_any {base : Bs} {g : Nat} {F : Fs} {nx tk hs bd wh : Value} {L : List Mm} {w : World} (h : FdM base g F nx tk hs bd wh L w) : Calls Tryz.prog 42 #[.pointer (some ⟨g, 0, none⟩)] w (BgV base g F wh L w) := begin_at (M := F.m) h.1 h.2
end Go.Proofs.YtbehakabglegjaaGreatDoor
namespace Go.Proofs.YtbehakabglegjaaGreatDoor
open Go.RowKit Go.PlainAid
set_option linter.unusedVariables false
set_option linter.unusedSimpArgs false
/-- The reader: where it stands, what is amiss there, do the bytes end, is it in the head, what it has read. -/
structure Rd where
  at_ : Nat
  bad : Int
  more : Bool
  head : Bool
  m : Ms
/-- The byte that may be looked at; where there is none, what becomes of the reader. -/
def pkB (b : List UInt8) (R : Rd) : Option UInt8 := if R.bad = 0 ∧ R.more = false then (match b[R.at_]? with | none => none | some c => if R.head = true ∧ 8192 ≤ R.at_ then none else some c) else none
def pkN (b : List UInt8) (R : Rd) : Rd := if R.bad = 0 ∧ R.more = false then (if R.at_ < b.length then { R with bad := 2 } else { R with more := true }) else R
/-- It goes on, or has stopped. -/
def Rn (b : List UInt8) (ans : Bool) (a : Nat) (ok : Nat → Ms → Prop) (R : Rd) : Prop := (R.bad = 0 ∧ R.more = false ∧ ok R.at_ R.m) ∨ Stp b ans a R.at_ R.bad R.more
section
variable {b : List UInt8} {ans : Bool} {a : Nat} {ok ok2 : Nat → Ms → Prop} {R : Rd} {c : UInt8}
theorem pkN_head : (pkN b R).head = R.head := by unfold pkN; split <;> (try split) <;> rfl
theorem pkN_m : (pkN b R).m = R.m := by unfold pkN; split <;> (try split) <;> rfl
theorem pk_some (hp : pkB b R = some c) : R.bad = 0 ∧ R.more = false ∧ b[R.at_]? = some c ∧ (R.head = true → R.at_ < 8192) := by
  unfold pkB at hp
  split at hp
  · rename_i h
    cases hb : b[R.at_]? with
    | none => rw [hb] at hp; cases hp
    | some d =>
      rw [hb] at hp
      simp only at hp
      split at hp
      · cases hp
      · rename_i h2
        injection hp with hp
        subst hp
        exact ⟨h.1, h.2, rfl, fun e => by
          have h3 : ¬ 8192 ≤ R.at_ := fun x => h2 ⟨e, x⟩
          omega⟩
  · cases hp
theorem Rn.some_ (h : Rn b ans a ok R) (hp : pkB b R = some c) : R.bad = 0 ∧ R.more = false ∧ ok R.at_ R.m ∧ b[R.at_]? = some c ∧ (R.head = true → R.at_ < 8192) := by
  obtain ⟨h1, h2, h3, h4⟩ := pk_some hp
  rcases h with h | h
  · exact ⟨h1, h2, h.2.2, h3, h4⟩
  · rcases h.on with ⟨e, _⟩ | ⟨_, e⟩
    · exact absurd h1 e
    · rw [h2] at e; cases e
theorem Rn.none_ (h : Rn b ans a ok R) (hok : ok R.at_ R.m → ∃ F, Atk b ans a R.at_ F ∧ F.whole = [] ∧ F.pos = a + R.at_ ∧ (R.head = true → F.head = (R.at_ : Int))) (hp : pkB b R = none) : Stp b ans a (pkN b R).at_ (pkN b R).bad (pkN b R).more := by
  rcases h with ⟨h1, h2, h3⟩ | h
  · obtain ⟨F, f1, f2, f3, f4⟩ := hok h3
    unfold pkB at hp
    unfold pkN
    rw [if_pos ⟨h1, h2⟩] at hp ⊢
    by_cases hlt : R.at_ < b.length
    · obtain ⟨c, hc⟩ : ∃ c, b[R.at_]? = some c := ⟨_, List.getElem?_eq_getElem hlt⟩
      rw [if_pos hlt]
      rw [hc] at hp
      simp only at hp
      split at hp
      · rename_i h4
        have hh := f4 h4.1
        rw [show ({ R with bad := 2 } : Rd).more = false from h2]
        exact Stp.bad f1 f2 f3 hc (by unfold oneS; rw [if_pos (by omega)]) (.inl rfl)
      · cases hp
    · rw [if_neg hlt]
      have hle := f1.1
      have e : R.at_ = b.length := by omega
      rw [show ({ R with more := true } : Rd).bad = 0 from h1]
      refine Stp.more (F := F) (by rw [← e]; exact f1) f2 hle
  · unfold pkN
    rw [if_neg]
    · exact h
    · rintro ⟨e1, e2⟩
      rcases h.on with ⟨e, _⟩ | ⟨_, e⟩
      · exact e e1
      · rw [e2] at e; cases e
theorem Rn.mono (h : Rn b ans a ok R) (hk : ∀ k m, ok k m → ok2 k m) : Rn b ans a ok2 R := h.imp (fun ⟨h1, h2, h3⟩ => ⟨h1, h2, hk _ _ h3⟩) id
end
/-- The row's bytes. -/
def RowB (w : World) (A : Option Addr) (b : List UInt8) : Prop := ∀ i u, b[i]? = some u → ∃ bb off, A = some ⟨bb, off, none⟩ ∧ w.cell? ⟨bb, off + i, none⟩ = some (.int .u8 (u.toNat : Int))
/-- The reader's cells. -/
def RdC (R : Rd) (A : Option Addr) (bn cp : Nat) (hs bd : Value) : Array Value := #[.slice A bn cp, .int .i64 (R.at_ : Int), .int .i64 R.bad, .bool R.more, .bool R.head, .string R.m.meth, .string R.m.targ, .int .i64 R.m.stat, .string R.m.reas, hs, bd]
structure RdM (n g : Nat) (R : Rd) (b : List UInt8) (A : Option Addr) (cp : Nat) (hs bd : Value) (w : World) : Prop where
  box : IBox w g 125 (RdC R A b.length cp hs bd)
  gn : n ≤ g
  row : RowB w A b
  cap : b.length ≤ cp
  off : ∀ bb off, A = some ⟨bb, off, none⟩ → bb < n
  rh : w.ownsRow n 51 2 hs R.m.heads.length (hdsL R.m.heads)
  rb : OwnB w n bd R.m.body
section
variable {n g : Nat} {R R2 : Rd} {b : List UInt8} {A : Option Addr} {cp : Nat} {hs bd hs2 bd2 : Value} {w w' : World}
theorem RowB.bt (h : RowB w A b) (cp : Nat) : BtAt w (.slice A b.length cp) b := ⟨A, cp, rfl, h⟩
theorem RowB.at_ (h : RowB w A b) {i : Nat} {c : UInt8} (hc : b[i]? = some c) : ∃ bb off, A = some ⟨bb, off, none⟩ ∧ w.cell? ⟨bb, off + i, none⟩ = some (.int .u8 (c.toNat : Int)) := h i c hc
theorem RowB.bes {X : Nat → Prop} (hb : Bes X w w') (h : RowB w A b) (ho : ∀ bb off, A = some ⟨bb, off, none⟩ → ¬ X bb) : RowB w' A b := fun i u hu => by
  obtain ⟨bb, off, hA, h1⟩ := h i u hu
  exact ⟨bb, off, hA, cell_bes hb h1 (ho bb off hA) rfl⟩
theorem RdM.lt (h : RdM n g R b A cp hs bd w) : g < w.heap.size := IBox.lt h.box
theorem RdM.nw (h : RdM n g R b A cp hs bd w) : n ≤ w.heap.size := Nat.le_of_lt (Nat.lt_of_le_of_lt h.gn h.lt)
theorem RdM.bes {X : Nat → Prop} (h : RdM n g R b A cp hs bd w) (hb : Bes X w w') (hg : ¬ X g) (h1 : ∀ q, hs.ownBlock = some q → ¬ X q) (h2 : ∀ q, bd.ownBlock = some q → ¬ X q) (h3 : ∀ q, q < n → ¬ X q) : RdM n g R b A cp hs bd w' :=
  ⟨Bes.box hb h.box hg, h.gn, h.row.bes hb (fun bb off e => h3 bb (h.off bb off e)), h.cap, h.off, Bes.own hb h.rh h1, Bes.own hb h.rb h2⟩
theorem RdM.below (h : RdM n g R b A cp hs bd w) (hb : Below w.heap.size w w') : RdM n g R b A cp hs bd w' := h.bes (X := fun _ => False) (Bes.of_below hb) (fun x => x) (fun _ _ x => x) (fun _ _ x => x) (fun _ _ x => x)
theorem RdM.ty (h : RdM n g R b A cp hs bd w) : ∃ arr fz, w.heap[g]? = some (.cells arr 125 fz) := ⟨_, _, h.box⟩
theorem RdM.hne (h : RdM n g R b A cp hs bd w) : ∀ q, hs.ownBlock = some q → q ≠ g := fun q e x => by
  obtain ⟨arr, fz, h1⟩ := own_ty h.rh q e
  obtain ⟨a2, f2, h2⟩ := h.ty
  rw [x, h2] at h1
  injection h1 with h1
  injection h1 with _ h1 _
  exact absurd h1 (by decide)
theorem RdM.bne (h : RdM n g R b A cp hs bd w) : ∀ q, bd.ownBlock = some q → q ≠ g := fun q e x => by
  obtain ⟨arr, fz, h1⟩ := own_ty h.rb q e
  obtain ⟨a2, f2, h2⟩ := h.ty
  rw [x, h2] at h1
  injection h1 with h1
  injection h1 with _ h1 _
  exact absurd h1 (by decide)
theorem RdM.hbne (h : RdM n g R b A cp hs bd w) : ∀ q, hs.ownBlock = some q → bd.ownBlock ≠ some q := fun q e x => by
  obtain ⟨arr, fz, h1⟩ := own_ty h.rh q e
  obtain ⟨a2, f2, h2⟩ := own_ty h.rb q x
  rw [h2] at h1
  injection h1 with h1
  injection h1 with _ h1 _
  exact absurd h1 (by decide)
/-- A store into its box. -/
theorem RdM.set (h : RdM n g R b A cp hs bd w) {arr : Array Value} (hw : Hid (w' = w.setRow g arr)) (e : arr = RdC R2 A b.length cp hs bd) (h1 : R2.m.heads = R.m.heads) (h2 : R2.m.body = R.m.body) : RdM n g R2 b A cp hs bd w' := by
  have hb : Bes (fun q => q = g) w w' := Bes.row hw rfl
  refine ⟨e ▸ hid_row hw h.box, h.gn, h.row.bes hb (fun bb off e x => by have := h.off bb off e; have := h.gn; omega), h.cap, h.off, ?_, ?_⟩
  · rw [h1]; exact Bes.own hb h.rh h.hne
  · rw [h2]; exact Bes.own hb h.rb h.bne
theorem RdM.low (h : RdM n g R b A cp hs bd w) {arr : Array Value} (hw : Hid (w' = w.setRow g arr)) : Below n w w' := (Bes.row (X := fun q => q = g) hw rfl).below (fun q e => by rw [show q = g from e]; exact h.gn) h.nw
theorem RdM.s1 (h : RdM n g R b A cp hs bd w) (k : Nat) (hw : Hid (w' = w.setRow g ((RdC R A b.length cp hs bd).setIfInBounds 1 (.int .i64 (k : Int))))) : RdM n g { R with at_ := k } b A cp hs bd w' := h.set hw rfl rfl rfl
theorem RdM.s2 (h : RdM n g R b A cp hs bd w) (x : Int) (hw : Hid (w' = w.setRow g ((RdC R A b.length cp hs bd).setIfInBounds 2 (.int .i64 x)))) : RdM n g { R with bad := x } b A cp hs bd w' := h.set hw rfl rfl rfl
theorem RdM.s3 (h : RdM n g R b A cp hs bd w) (x : Bool) (hw : Hid (w' = w.setRow g ((RdC R A b.length cp hs bd).setIfInBounds 3 (.bool x)))) : RdM n g { R with more := x } b A cp hs bd w' := h.set hw rfl rfl rfl
theorem RdM.s4 (h : RdM n g R b A cp hs bd w) (x : Bool) (hw : Hid (w' = w.setRow g ((RdC R A b.length cp hs bd).setIfInBounds 4 (.bool x)))) : RdM n g { R with head := x } b A cp hs bd w' := h.set hw rfl rfl rfl
theorem RdM.s5 (h : RdM n g R b A cp hs bd w) (t : ByteArray) (hw : Hid (w' = w.setRow g ((RdC R A b.length cp hs bd).setIfInBounds 5 (.string t)))) : RdM n g { R with m := { R.m with meth := t } } b A cp hs bd w' := h.set hw rfl rfl rfl
theorem RdM.s6 (h : RdM n g R b A cp hs bd w) (t : ByteArray) (hw : Hid (w' = w.setRow g ((RdC R A b.length cp hs bd).setIfInBounds 6 (.string t)))) : RdM n g { R with m := { R.m with targ := t } } b A cp hs bd w' := h.set hw rfl rfl rfl
theorem RdM.s7 (h : RdM n g R b A cp hs bd w) (x : Int) (hw : Hid (w' = w.setRow g ((RdC R A b.length cp hs bd).setIfInBounds 7 (.int .i64 x)))) : RdM n g { R with m := { R.m with stat := x } } b A cp hs bd w' := h.set hw rfl rfl rfl
theorem RdM.s8 (h : RdM n g R b A cp hs bd w) (t : ByteArray) (hw : Hid (w' = w.setRow g ((RdC R A b.length cp hs bd).setIfInBounds 8 (.string t)))) : RdM n g { R with m := { R.m with reas := t } } b A cp hs bd w' := h.set hw rfl rfl rfl
section
variable {w8 w9 : World}
theorem RdM.gbes {v : Value} (hgr : w.grownBy w8 v.ownBlock) : Bes (fun q => v.ownBlock = some q) w w8 := Bes.grown hgr (fun _ e => e)
theorem RdM.boxH (M : RdM n g R b A cp hs bd w) (hgr : w.grownBy w8 hs.ownBlock) : IBox w8 g 125 (RdC R A b.length cp hs bd) := Bes.box (RdM.gbes hgr) M.box (fun e => M.hne g e rfl)
theorem RdM.boxB (M : RdM n g R b A cp hs bd w) (hgr : w.grownBy w8 bd.ownBlock) : IBox w8 g 125 (RdC R A b.length cp hs bd) := Bes.box (RdM.gbes hgr) M.box (fun e => M.bne g e rfl)
theorem own_g {T : TypeId} {size m : Nat} {v : Value} {xs : List Value} (ho : w8.ownsRow n T size v m xs) {arr : Array Value} (hI : IBox w8 g 125 arr) (hT : T ≠ 125) : ∀ q, v.ownBlock = some q → q ≠ g := fun q e x => by
  obtain ⟨a1, f1, h1⟩ := own_ty ho q e
  have h2 : w8.heap[g]? = some (.cells arr 125 (0, 0)) := hI
  rw [x, h2] at h1
  injection h1 with h1
  injection h1 with _ h1 _
  exact hT h1.symm
/-- Another row of headers. -/
theorem RdM.s9 (M : RdM n g R b A cp hs bd w) {v : Value} {l : List (ByteArray × ByteArray)} (hgr : w.grownBy w8 hs.ownBlock) (ho : w8.ownsRow n 51 2 v l.length (hdsL l)) (hw : Hid (w9 = w8.setRow g ((RdC R A b.length cp hs bd).setIfInBounds 9 v))) : RdM n g { R with m := { R.m with heads := l } } b A cp v bd w9 := by
  have hI := M.boxH hgr
  have h1 := RdM.gbes hgr
  have h2 : Bes (fun q => q = g) w8 w9 := Bes.row hw rfl
  refine ⟨hid_row hw hI, M.gn, (M.row.bes h1 (fun bb off e x => ?_)).bes h2 (fun bb off e x => ?_), M.cap, M.off, Bes.own h2 ho (own_g ho hI (by decide)), Bes.own h2 (Bes.own h1 M.rb (fun q e x => M.hbne q x e)) M.bne⟩
  · have := M.off bb off e
    have := (own_in M.rh x).1
    omega
  · have := M.off bb off e
    have := M.gn
    omega
/-- Another body. -/
theorem RdM.s10 (M : RdM n g R b A cp hs bd w) {v : Value} {l : List UInt8} (hgr : w.grownBy w8 bd.ownBlock) (ho : OwnB w8 n v l) (hw : Hid (w9 = w8.setRow g ((RdC R A b.length cp hs bd).setIfInBounds 10 v))) : RdM n g { R with m := { R.m with body := l } } b A cp hs v w9 := by
  have hI := M.boxB hgr
  have h1 := RdM.gbes hgr
  have h2 : Bes (fun q => q = g) w8 w9 := Bes.row hw rfl
  refine ⟨hid_row hw hI, M.gn, (M.row.bes h1 (fun bb off e x => ?_)).bes h2 (fun bb off e x => ?_), M.cap, M.off, Bes.own h2 (Bes.own h1 M.rh (fun q e x => M.hbne q e x)) M.hne, Bes.own h2 ho (own_g ho hI (by decide))⟩
  · have := M.off bb off e
    have := (own_in M.rb x).1
    omega
  · have := M.off bb off e
    have := M.gn
    omega
end
/-- Stretches of the row. -/
def sl (b : List UInt8) (i k : Nat) : List UInt8 := (b.take k).drop i
theorem sl_nil (b : List UInt8) (i : Nat) : sl b i i = [] := by
  unfold sl
  refine List.drop_eq_nil_of_le ?_
  rw [List.length_take]
  omega
theorem sl_len {i k : Nat} (hk : k ≤ b.length) : (sl b i k).length = k - i := by unfold sl; rw [List.length_drop, List.length_take, Nat.min_eq_left hk]
theorem sl_snoc {i k : Nat} {c : UInt8} (hc : b[k]? = some c) (hik : i ≤ k) : sl b i (k + 1) = sl b i k ++ [c] := by
  have h1 := (List.getElem?_eq_some_iff.1 hc).1
  unfold sl
  rw [List.take_add_one, hc, List.drop_append_of_le_length (by rw [List.length_take]; omega)]
  rfl
end
end Go.Proofs.YtbehakabglegjaaGreatDoor
namespace Go.Proofs.YtbehakabglegjaaGreatDoor
open Go.RowKit
set_option linter.unusedVariables false
section
variable {P : Program} {md : Region.Mode} {ops : Array Oper} {Q : Exit → Act → World → Prop} {S : World → Prop} {op : Op} {tt : TypeId} {ps : String} {af : Array Edge} {gd : Option (Nat × Bool)} {fuel : Nat} {listed : Array Bool} {a : Act} {w : World}
/-- As TKC, by a law of the operation's own. -/
theorem TKY (i d : Nat) {v : Value} (hi : ops[i]? = some ⟨some d, op, tt, ps, af, gd⟩) (hy : YieldsIf P ops S ⟨some d, op, tt, ps, af, gd⟩ v a)
    (h : wpAnyH P md ops Q S fuel (listed.setIfInBounds i true) (a.put (some d) v) w)
    (hs : Region.noSelect ops = true := by kernel_rfl) (hf : Region.free md ops listed i = true := by kernel_rfl)
    (hr : (Region.ready md ops listed).contains i = true := by kernel_rfl) (hQ : ∀ c a w, Q (.panic c) (a.put (some d) v) w → Q (.panic c) a w := by exact fun _ _ _ h => h)
    (hS : S w := by assumption) : wpAnyH P md ops Q S (fuel + 1) listed a w :=
  wpAnyH_take (v := v) hi hs hf hr hQ hy hS h
end
/-- What lies behind a region that goes in several orders, said once. -/
theorem ashare {X : Type} {P : Program} {md : Region.Mode} {ops : Array Oper} {Q : Exit → Act → World → Prop} {S : World → Prop} {n : Nat} {l : Array Bool} {a : Act} {w : World} (act : X → Act → Act) (F : X → World → Prop)
    (h1 : Hid (∀ x a' w', F x w' → a' = act x a → Q .normal a' w') → wpAnyH P md ops Q S n l a w)
    (h2 : ∀ x w', F x w' → Q .normal (act x a) w') : wpAnyH P md ops Q S n l a w := h1 (Lib.hid fun x a' w' hf e => e ▸ h2 x w' hf)
theorem yields_rowS {P : Program} {ops : Array Oper} {S : World → Prop} {o : Oper} {a : Act} (hw : Region.wanted o (yielded ops a.tmps) = true) (ty : TypeId) (x : Operand) (ho : o.op = .load ty x) (b off : Nat)
    (hx : a.eval x = .pointer (some ⟨b, off, none⟩)) (arr : Array Value) (d : TypeDesc)
    (hc : ∀ w', S w' → w'.rangeAt b off arr.toList) (hu : P.underlying ty = some d) (hd : d.isRow = true) (hi : (P.info? ty).map (·.size) = some arr.size) :
    YieldsIf P ops S o (.agg arr) a := by
  have := yieldsIf_load_mid (P := P) (S := S) hw ty x ho b off hx arr.toList d hc hu hd (by simpa using hi)
  rwa [Array.toArray_toList] at this
end Go.Proofs.YtbehakabglegjaaGreatDoor
namespace Go.Proofs.YtbehakabglegjaaGreatDoor
open Go.RowKit
set_option linter.unusedVariables false
section
variable {P : Program} {md : Region.Mode} {ops : Array Oper} {Q : Exit → Act → World → Prop} {S : World → Prop} {op : Op} {tt : TypeId} {ps : String} {af : Array Edge} {gd : Option (Nat × Bool)} {fuel : Nat} {listed : Array Bool} {a : Act} {w : World}
theorem TKN (i d : Nat) (hi : ops[i]? = some ⟨some d, op, tt, ps, af, gd⟩)
    (h : wpAnyH P md ops Q S fuel (listed.setIfInBounds i true) (a.put (some d) undef) w)
    (hs : Region.noSelect ops = true := by kernel_rfl) (hf : Region.free md ops listed i = true := by kernel_rfl)
    (hr : (Region.ready md ops listed).contains i = true := by kernel_rfl) (hQ : ∀ c a w, Q (.panic c) (a.put (some d) undef) w → Q (.panic c) a w := by exact fun _ _ _ h => h)
    (hw : Region.wanted ⟨some d, op, tt, ps, af, gd⟩ (yielded ops a.tmps) = false := by kernel_rfl) (hS : S w := by assumption) : wpAnyH P md ops Q S (fuel + 1) listed a w :=
  wpAnyH_take (v := undef) hi hs hf hr hQ (Or.inr ⟨hw, rfl⟩) hS h
end
end Go.Proofs.YtbehakabglegjaaGreatDoor
