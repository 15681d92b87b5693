/- A store into one cell of a box; a row of structs built at once. Worlds as letters. Layer 16: the examples at the head of the statements, as plain data, and what the rules say of them. Layer 16: the examples at the head of the statements, walked. Layer 16: the head of the statements: the examples hold. Layer 16: the head of the statements: the examples hold. -/
import Derived.Test.YtpmdpfgaafaceaaMemL
import Derived.Great.BuildSlice
import Derived.Deep.MidRow
import Derived.Test.YtpmdpfgaafaceaaAuthV
import Derived.Test.YtpmdpfgaafaceaaAuthR
namespace Go.Proofs.Ytpmdpfgaafaceaa
section
open Go.RowKit
set_option linter.unusedVariables false
variable {P : Program} {ops : Array Oper} {rest : List Oper} {o : Oper} {a : Act} {w : World} {Q : Exit → Act → World → Prop}

theorem wpl_store_cell (hgd : o.guard = none) (ty : TypeId) (x y : Operand) (ho : o.op = .store ty x y) (g off : Nat) (hx : a.eval x = .pointer (some ⟨g, off, none⟩)) (v : Value) (hy : a.eval y = v)
    (t : TypeId) (old : Array Value) (hg : IBox w g t old) (hoff : off < old.size) (hi : (P.info? ty).map (·.size) = some 1) (h1 : v.oneCell' = true)
    (h : ∀ w', Hid (w' = w.setRow g (old.setIfInBounds off v)) → wpList P ops Q rest (a.put o.dst undef) w') : wpList P ops Q (o :: rest) a w := by
  have hc : v.cells = #[v] := by cases v <;> first | rfl | cases h1
  have ht : w.there g off 1 := fun j hj => by
    obtain rfl : j = 0 := by omega
    refine ⟨?_, hg.frozen off⟩
    rw [Nat.add_zero, hg.cell off, Array.getElem?_eq_getElem hoff]
    rfl
  have hrun : (storeVar ty ⟨g, off, none⟩ v).run P w = .ok () (w.setCells g off [v]) := by
    have := run_storeVar_mid (P := P) w g off ty #[v] ht hi (by simp [h1])
    unfold storeVar at this ⊢
    rw [hc]
    exact this
  have hset : w.setCells g off [v] = w.setRow g (old.setIfInBounds off v) := by
    rw [← setCell_eq_setRow w g off old t (0, 0) v hg]
    simp [World.setCells]
  refine wpList_plain hgd fun _ hK => ?_
  unfold Oper.wp execOp
  simp only [ho, hx, hy, Instr.storeAt, Instr.sureAddr, Sem.run_bind, Sem.run_pure, Result.andThen_ok, hrun]
  rw [hset]
  exact hK _ _ (h _ rfl)

theorem parts_vals (parts : Array (Nat × Operand)) (vals : List (Nat × Value)) (hv : parts.toList.map (fun x => (x.1, a.eval x.2)) = vals) : (parts.map fun (i, x) => (i, a.eval x)) = vals.toArray := by
  apply Array.ext'
  rw [Array.toList_map, ← hv]
theorem wpl_slice_at (len : Nat) (vals : List (Nat × Value)) (cells : Array Value) (ie : TypeInfo) (z : Value)
    (hf : Instr.fill (fun i => some (i * ie.size, ie.size)) ((Array.range (len * ie.size)).map (z.cells[· % z.cells.size]!)) vals = some cells)
    (hgd : o.guard = none) (t e : TypeId) (parts : Array (Nat × Operand)) (ho : o.op = .buildSlice t len parts) (hv : parts.toList.map (fun x => (x.1, a.eval x.2)) = vals)
    (hu : P.underlying t = some (.slice e)) (hie : P.info? e = some ie) (hz : ie.zero = some z) (hsmall : ¬ len * ie.size > 2 ^ 24) (hpos : ¬ len * ie.size = 0)
    (h : ∀ w', Hid (w' = w.alloc (.cells cells e)) → wpList P ops Q rest (a.put o.dst (.slice (some ⟨w.heap.size, 0, none⟩) len len)) w') : wpList P ops Q (o :: rest) a w :=
  wpList_buildSlice hgd t e len parts ho cells ie z hu hie hz hsmall hpos (by rw [parts_vals parts vals hv]; exact hf) (h _ rfl)
theorem wpl_build_at {t : TypeId} {vals : List (Nat × Value)} {cells : Array Value} (hrun : ∀ w, (Instr.build t vals.toArray).run P w = .ok (.agg cells) w) (hgd : o.guard = none) (parts : Array (Nat × Operand)) (ho : o.op = .build t parts)
    (hv : parts.toList.map (fun x => (x.1, a.eval x.2)) = vals)
    (h : wpList P ops Q rest (a.put o.dst (.agg cells)) w) : wpList P ops Q (o :: rest) a w := by
  refine wpList_plain hgd fun _ hK => ?_
  unfold Oper.wp execOp
  simp only [ho, parts_vals parts vals hv, Sem.run_bind, hrun, Result.andThen_ok, Sem.run_pure]
  exact hK _ _ h
/-! Cheap guards ahead of the laws: which operation comes next. -/
theorem is_store {d : Option Tmp} {ty : TypeId} {x y : Operand} {tt : TypeId} {ps : String} {af : Array Edge} {gd : Option (Nat × Bool)} (h : wpList P ops Q (⟨d, .store ty x y, tt, ps, af, gd⟩ :: rest) a w) : wpList P ops Q (⟨d, .store ty x y, tt, ps, af, gd⟩ :: rest) a w := h
theorem is_build {d : Option Tmp} {ty : TypeId} {x : Array (Nat × Operand)} {tt : TypeId} {ps : String} {af : Array Edge} {gd : Option (Nat × Bool)} (h : wpList P ops Q (⟨d, .build ty x, tt, ps, af, gd⟩ :: rest) a w) : wpList P ops Q (⟨d, .build ty x, tt, ps, af, gd⟩ :: rest) a w := h
theorem is_slice {d : Option Tmp} {ty : TypeId} {n : Nat} {x : Array (Nat × Operand)} {tt : TypeId} {ps : String} {af : Array Edge} {gd : Option (Nat × Bool)} (h : wpList P ops Q (⟨d, .buildSlice ty n x, tt, ps, af, gd⟩ :: rest) a w) : wpList P ops Q (⟨d, .buildSlice ty n x, tt, ps, af, gd⟩ :: rest) a w := h
theorem is_alloc {d : Option Tmp} {ty : TypeId} {tt : TypeId} {ps : String} {af : Array Edge} {gd : Option (Nat × Bool)} (h : wpList P ops Q (⟨d, .alloc ty, tt, ps, af, gd⟩ :: rest) a w) : wpList P ops Q (⟨d, .alloc ty, tt, ps, af, gd⟩ :: rest) a w := h
theorem is_load {d : Option Tmp} {ty : TypeId} {x : Operand} {tt : TypeId} {ps : String} {af : Array Edge} {gd : Option (Nat × Bool)} (h : wpList P ops Q (⟨d, .load ty x, tt, ps, af, gd⟩ :: rest) a w) : wpList P ops Q (⟨d, .load ty x, tt, ps, af, gd⟩ :: rest) a w := h
end
end Go.Proofs.Ytpmdpfgaafaceaa
namespace Go.Proofs.Ytpmdpfgaafaceaa
section
open Go.RowKit Go.PlainAid
set_option linter.unusedVariables false

def exText (s : ByteArray) : JV := .mk ⟨3, false, 0, s, none, 0, 0, none, 0, 0⟩ [] [] []
/-- An object of one field, that lies in block g. -/
def exContent (n s : ByteArray) (g : Nat) : JV := .mk ⟨5, false, 0, ⟨#[]⟩, none, 0, 0, some ⟨g, 0, none⟩, 1, 1⟩ [] [n] [exText s]
def exC (g : Nat) : Ev := ⟨⟨#[99]⟩, ⟨#[109, 46, 114, 111, 111, 109, 46, 99, 114, 101, 97, 116, 101]⟩, ⟨#[33, 114, 58, 120]⟩, ⟨#[64, 97, 58, 120]⟩, true, ⟨#[]⟩, none, 0, 0, [], none, 0, 0, [], 0, 0, exContent ⟨#[114, 111, 111, 109, 95, 118, 101, 114, 115, 105, 111, 110]⟩ ⟨#[49, 49]⟩ g, JV.zero⟩
def exJ (p g : Nat) (who : ByteArray) : Ev := ⟨⟨#[106]⟩, ⟨#[109, 46, 114, 111, 111, 109, 46, 109, 101, 109, 98, 101, 114]⟩, ⟨#[33, 114, 58, 120]⟩, who, true, who, some ⟨p, 0, none⟩, 1, 1, [⟨#[99]⟩], none, 0, 0, [], 0, 0, exContent ⟨#[109, 101, 109, 98, 101, 114, 115, 104, 105, 112]⟩ ⟨#[106, 111, 105, 110]⟩ g, JV.zero⟩
def exM : Ev := ⟨⟨#[109]⟩, ⟨#[109, 46, 114, 111, 111, 109, 46, 109, 101, 115, 115, 97, 103, 101]⟩, ⟨#[33, 114, 58, 120]⟩, ⟨#[64, 97, 58, 120]⟩, false, ⟨#[]⟩, none, 0, 0, [], none, 0, 0, [], 0, 0, JV.zero, JV.zero⟩
theorem ex1 (g : Nat) : checkS (exC g) [] = 0 := by kernel_rfl
theorem ex2 (g p q : Nat) : checkS (exJ p q ⟨#[64, 97, 58, 120]⟩) [exC g] = 0 := by kernel_rfl
theorem ex3 (g p q : Nat) : checkS exM [exC g, exJ p q ⟨#[64, 97, 58, 120]⟩] = 0 := by kernel_rfl
theorem ex4 (g p q : Nat) : checkS (exJ p q ⟨#[64, 98, 58, 120]⟩) [exC g] = 23 := by kernel_rfl
theorem ex5 (g p q : Nat) : levelS [exC g, exJ p q ⟨#[64, 97, 58, 120]⟩] ⟨#[64, 97, 58, 120]⟩ = 100 := by kernel_rfl
theorem ex6 : (selL exM).length = 3 := by kernel_rfl
end
end Go.Proofs.Ytpmdpfgaafaceaa
namespace Go.Proofs.Ytpmdpfgaafaceaa
section
open Go.RowKit Go.PlainAid
set_option linter.unusedVariables false
set_option linter.unusedSimpArgs false

set_option maxRecDepth 10000 in
theorem text_any (s : ByteArray) (w : World) : Calls Try.prog 15 #[.string s] w fun e w' => e = .returned (.agg (exText s).cells) ∧ Below w.heap.size w w' := by
  have HB := Below.refl w.heap.size w
  go_enter Try.func15, Try.ntmps15
  go_wp2_with (first
    | (refine wpl_alloc_at rfl 30 rfl _ zeroV ?_; intro w1 hw; have B2 := hid_alloc0 hw; have hb := hid_grow hw; have G2 := HB.size; replace HB := HB.trans (hb.mono HB.size); clear hw hb)
    | (refine wpl_store_at rfl 30 (.tmp 2) (.tmp 4) rfl _ (exText s).cells rfl rfl _ _ B2 info_value rfl (jv_one _) ?_; intro w2 hw; have hq := hid_row_below hw G2 HB; replace HB := hq.1; replace B2 := hid_row hw B2; clear hw hq))
  exact bodyPost_ret (results_box rfl _ _ w.heap.size 30 (exText s).cells _ rfl B2 Try.underlying30 rfl info_value) rfl ⟨rfl, HB⟩

theorem i0 : I64 0 := by unfold I64; decide
theorem i3 : I64 3 := by unfold I64; decide
theorem i5 : I64 5 := by unfold I64; decide
theorem z80 : 0 * 80 ≤ reach := by decide
theorem z96 : 0 * 96 ≤ reach := by decide
theorem o96 : 1 * 96 ≤ reach := by decide
theorem z16 : 0 * 16 ≤ reach := by decide
theorem o16 : 1 * 16 ≤ reach := by decide
theorem exText_is (w : World) {s : ByteArray} (hs : s.size ≤ reach) : IsJV w (exText s) := by
  unfold exText IsJV
  refine ⟨⟨i3, i0, hs, rfl, rfl, rfl, z80, z96, ?_⟩, ?_, ?_⟩
  · unfold NamesAt; exact True.intro
  · unfold IsRow; exact True.intro
  · unfold IsRow; exact True.intro
theorem exContent_is {w : World} {g : Nat} {t : TypeId} {n s : ByteArray} (h : IBox w g t #[.string n, .int .i64 3, .bool false, .int .i64 0, .string s, .slice none 0 0, .slice none 0 0]) (hn : n.size ≤ reach) (hs : s.size ≤ reach) : IsJV w (exContent n s g) := by
  unfold exContent IsJV
  refine ⟨⟨i5, i0, (show (⟨#[]⟩ : ByteArray).size ≤ reach by decide), rfl, rfl, rfl, z80, o96, ?_⟩, ?_, ?_⟩
  · unfold NamesAt
    refine ⟨⟨g, 0, rfl, ?_⟩, hn, ?_⟩
    · rw [h.cell]; rfl
    · unfold NamesAt; exact True.intro
  · unfold IsRow; exact True.intro
  · unfold IsRow
    refine ⟨⟨g, 0, rfl, fun k v hv => ?_⟩, exText_is w hs, ?_⟩
    · rw [h.cell]
      have e : (#[.string n, .int .i64 3, .bool false, .int .i64 0, .string s, .slice none 0 0, .slice none 0 0] : Array Value)[0 + 0 * 7 + 1 + k]? = (exText s).cells.toList[k]? := by
        rw [show 0 + 0 * 7 + 1 + k = k + 1 from by omega]
        show _ = (#[.int .i64 3, .bool false, .int .i64 0, .string s, .slice none 0 0, .slice none 0 0] : Array Value).toList[k]?
        simp
      rw [e, hv]
    · unfold IsRow; exact True.intro
def GivesContent (e : Ending) (n s : ByteArray) (w w' : World) : Prop := ∃ g, e = .returned (.agg (exContent n s g).cells) ∧ IsJV w' (exContent n s g) ∧ Below w.heap.size w w'
set_option maxRecDepth 10000 in
theorem content_any (n s : ByteArray) (w : World) (hn : n.size ≤ reach) (hs : s.size ≤ reach) : Calls Try.prog 14 #[.string n, .agg (exText s).cells] w fun e w' => GivesContent e n s w w' := by
  show Calls Try.prog 14 #[.string n, .agg #[.int .i64 3, .bool false, .int .i64 0, .string s, .slice none 0 0, .slice none 0 0]] w fun e w' => GivesContent e n s w w'
  have HB := Below.refl w.heap.size w
  go_enter Try.func14, Try.ntmps14
  go_wp2_with (first
    | (refine wpl_box_at rfl 30 (.tmp 1) rfl _ rfl ?_; intro w1 hw; have hb := hid_grow hw; have B3 := (hid_alloc hw).1; replace HB := HB.trans (hb.mono HB.size); clear hb hw)
    | (refine wpl_alloc_at rfl 30 rfl _ zeroV ?_; intro w2 hw; have B4 := hid_alloc0 hw; have hb := hid_grow hw; have G4 := HB.size; have L4 := IBox.lt B4; replace HB := HB.trans (hb.mono HB.size); replace B3 := IBox.below B3 hb (IBox.lt B3); clear hw hb)
    | (refine wpl_load_box rfl 30 (.tmp 3) rfl _ rfl _ _ _ B3 Try.underlying30 rfl info_value ?_)
    | (refine wpl_store_at rfl 30 (.tmp 4) (.tmp 9) rfl _ (exContent n s w2.heap.size).cells rfl rfl _ _ (B4.alloc _) info_value rfl (jv_one _) ?_; intro w3 hw; have hq := hid_row_below hw G4 (HB.alloc HB.size _); replace HB := hq.1; have BN := hid_row_other hw (Nat.ne_of_gt L4) (IBox.new w2 _ _); have B5 := hid_row hw (B4.alloc _); clear hw hq))
  exact bodyPost_ret (results_box rfl _ _ w1.heap.size 30 (exContent n s w2.heap.size).cells _ rfl B5 Try.underlying30 rfl info_value) rfl ⟨w2.heap.size, rfl, exContent_is BN hn hs, HB⟩
theorem content2_any (n s : ByteArray) (w : World) (hn : n.size ≤ reach) (hs : s.size ≤ reach) : Calls Try.prog 14 #[.string n, .agg (exText s).cells] w fun e w' => ∃ g, e = .returned (.agg (exContent n s g).cells) ∧ IsJV w' (exContent n s g) ∧ Below w.heap.size w w' := content_any n s w hn hs

theorem exC_is {w : World} {g : Nat} (h : IsJV w (exContent ⟨#[114, 111, 111, 109, 95, 118, 101, 114, 115, 105, 111, 110]⟩ ⟨#[49, 49]⟩ g)) : IsEv w (exC g) := by
  unfold exC
  refine ⟨(show (⟨#[99]⟩ : ByteArray).size ≤ reach by decide), (show (⟨#[109, 46, 114, 111, 111, 109, 46, 99, 114, 101, 97, 116, 101]⟩ : ByteArray).size ≤ reach by decide), (show (⟨#[33, 114, 58, 120]⟩ : ByteArray).size ≤ reach by decide), (show (⟨#[64, 97, 58, 120]⟩ : ByteArray).size ≤ reach by decide), (show (⟨#[]⟩ : ByteArray).size ≤ reach by decide), rfl, ?_, z16, rfl, ?_, z16, i0, i0, h, jv_zero w⟩
  · show NamesAt w none 1 0 []
    unfold NamesAt; exact True.intro
  · show NamesAt w none 1 0 []
    unfold NamesAt; exact True.intro
theorem exJ_is {w : World} {p g : Nat} {t : TypeId} {who : ByteArray} (hw : who.size ≤ reach) (hp : IBox w p t #[.string ⟨#[99]⟩]) (h : IsJV w (exContent ⟨#[109, 101, 109, 98, 101, 114, 115, 104, 105, 112]⟩ ⟨#[106, 111, 105, 110]⟩ g)) : IsEv w (exJ p g who) := by
  unfold exJ
  refine ⟨(show (⟨#[106]⟩ : ByteArray).size ≤ reach by decide), (show (⟨#[109, 46, 114, 111, 111, 109, 46, 109, 101, 109, 98, 101, 114]⟩ : ByteArray).size ≤ reach by decide), (show (⟨#[33, 114, 58, 120]⟩ : ByteArray).size ≤ reach by decide), hw, hw, rfl, ?_, o16, rfl, ?_, z16, i0, i0, h, jv_zero w⟩
  · show NamesAt w (some ⟨p, 0, none⟩) 1 0 [⟨#[99]⟩]
    unfold NamesAt
    refine ⟨⟨p, 0, rfl, ?_⟩, (show (⟨#[99]⟩ : ByteArray).size ≤ reach by decide), ?_⟩
    · rw [hp.cell]; rfl
    · unfold NamesAt; exact True.intro
  · show NamesAt w none 1 0 []
    unfold NamesAt; exact True.intro
theorem exM_is (w : World) : IsEv w exM := by
  unfold exM
  refine ⟨(show (⟨#[109]⟩ : ByteArray).size ≤ reach by decide), (show (⟨#[109, 46, 114, 111, 111, 109, 46, 109, 101, 115, 115, 97, 103, 101]⟩ : ByteArray).size ≤ reach by decide), (show (⟨#[33, 114, 58, 120]⟩ : ByteArray).size ≤ reach by decide), (show (⟨#[64, 97, 58, 120]⟩ : ByteArray).size ≤ reach by decide), (show (⟨#[]⟩ : ByteArray).size ≤ reach by decide), rfl, ?_, z16, rfl, ?_, z16, i0, i0, jv_zero w, jv_zero w⟩
  · show NamesAt w none 1 0 []
    unfold NamesAt; exact True.intro
  · show NamesAt w none 1 0 []
    unfold NamesAt; exact True.intro
theorem evs_one {w : World} {g : Nat} {t : TypeId} {x : Ev} (h : IBox w g t x.cells) (hx : IsEv w x) : IsEvs w (some ⟨g, 0, none⟩) 0 [x] := by
  unfold IsEvs
  refine ⟨⟨g, 0, rfl, fun k v hv => ?_⟩, hx, ?_⟩
  · rw [Nat.zero_mul, Nat.zero_add, h.cell]
    simpa using hv
  · unfold IsEvs; exact True.intro
theorem evs_two {w : World} {g : Nat} {t : TypeId} {x y : Ev} (h : IBox w g t (x.cells ++ y.cells)) (hx : IsEv w x) (hy : IsEv w y) : IsEvs w (some ⟨g, 0, none⟩) 0 [x, y] := by
  have h22 : x.cells.size = 22 := rfl
  unfold IsEvs
  refine ⟨⟨g, 0, rfl, fun k v hv => ?_⟩, hx, ?_⟩
  · rw [Nat.zero_mul, Nat.zero_add, h.cell]
    have hk : k < x.cells.size := by simpa using (List.getElem?_eq_some_iff.1 hv).1
    rw [Array.getElem?_append_left hk]
    simpa using hv
  · unfold IsEvs
    refine ⟨⟨g, 0, rfl, fun k v hv => ?_⟩, hy, ?_⟩
    · rw [h.cell, Array.getElem?_append_right (by omega), show 0 + (0 + 1) * 22 + k - x.cells.size = k from by omega]
      simpa using hv
    · unfold IsEvs; exact True.intro
theorem noevs (w : World) : IsEvs w none 0 [] := by unfold IsEvs; exact True.intro
theorem alev_any (l : List Ev) (A : Option Addr) (n c : Nat) (user : ByteArray) (w : World) (EV : IsEvs w A 0 l) (hn : n = l.length) (hnb : n ≤ 9223372036854775807) :
    Calls Try.prog 7 #[.string user, .slice A n c] w fun e w' => e = .returned (.int .i64 (levelS l user)) ∧ Below w.heap.size w w' := by
  have HN := Lib.hid hn
  clear hn
  go_enter Try.func7, Try.ntmps7
  go_wp2_with (go_at_call 17; (with_reducible refine (level_any l A n c _ _ EV HN.out hnb).mono ?_); rintro e w1 ⟨rfl, hb⟩)
  go_ret
  exact ⟨rfl, hb⟩
theorem info_ev3 : (Try.prog.info? 32).map (fun i => (i.zero, i.size, i.bytes)) = some (some (.agg Ev.zero.cells), 22, Try.prog.bytesOf 32) := by kernel_rfl
theorem info_str1 : (Try.prog.info? 9).map (·.size) = some 1 := by kernel_rfl
theorem many22a {α : Type} : ∀ {l : List α}, l.length = 22 → ∃ c0 c1 c2 c3 c4 c5 c6 c7 c8 c9 c10 c11 c12 c13 c14 c15 c16 c17 c18 c19 c20 c21, l = [c0, c1, c2, c3, c4, c5, c6, c7, c8, c9, c10, c11, c12, c13, c14, c15, c16, c17, c18, c19, c20, c21]
  | [c0, c1, c2, c3, c4, c5, c6, c7, c8, c9, c10, c11, c12, c13, c14, c15, c16, c17, c18, c19, c20, c21], _ => ⟨c0, c1, c2, c3, c4, c5, c6, c7, c8, c9, c10, c11, c12, c13, c14, c15, c16, c17, c18, c19, c20, c21, rfl⟩
theorem fill_one (x : Array Value) (h : x.size = 22) (z : Value) (hz : z = .agg Ev.zero.cells) : Instr.fill (fun i => some (i * 22, 22)) ((Array.range (1 * 22)).map (z.cells[· % z.cells.size]!)) [(0, Value.agg x)] = some x := by
  subst hz
  obtain ⟨l⟩ := x
  obtain ⟨c0, c1, c2, c3, c4, c5, c6, c7, c8, c9, c10, c11, c12, c13, c14, c15, c16, c17, c18, c19, c20, c21, rfl⟩ := many22a (show l.length = 22 from h)
  kernel_rfl
theorem fill_two (x y : Array Value) (h : x.size = 22) (h2 : y.size = 22) (z : Value) (hz : z = .agg Ev.zero.cells) : Instr.fill (fun i => some (i * 22, 22)) ((Array.range (2 * 22)).map (z.cells[· % z.cells.size]!)) [(0, Value.agg x), (1, Value.agg y)] = some (x ++ y) := by
  subst hz
  obtain ⟨l⟩ := x
  obtain ⟨m⟩ := y
  obtain ⟨c0, c1, c2, c3, c4, c5, c6, c7, c8, c9, c10, c11, c12, c13, c14, c15, c16, c17, c18, c19, c20, c21, rfl⟩ := many22a (show l.length = 22 from h)
  obtain ⟨d0, d1, d2, d3, d4, d5, d6, d7, d8, d9, d10, d11, d12, d13, d14, d15, d16, d17, d18, d19, d20, d21, rfl⟩ := many22a (show m.length = 22 from h2)
  kernel_rfl
end
end Go.Proofs.Ytpmdpfgaafaceaa
namespace Go.Proofs.Ytpmdpfgaafaceaa
section
open Go.RowKit Go.PlainAid
set_option linter.unusedVariables false
set_option linter.unusedSimpArgs false

theorem chk1 (g : Nat) (w : World) (h : IsEv w (exC g)) (hm : HasMax w) : Calls Try.prog 9 #[.agg (exC g).cells, .slice none 0 0] w fun e w' => e = .returned (.int .i64 0) ∧ Below w.heap.size w w' :=
  (check_any (exC g) [] none 0 0 w h hm (noevs w) rfl (by decide)).mono fun e w' ⟨he, hb⟩ => ⟨by rw [he, ex1], hb⟩
theorem chk2 (g p q : Nat) (A : Option Addr) (c : Nat) (w : World) (h : IsEv w (exJ p q ⟨#[64, 97, 58, 120]⟩)) (hm : HasMax w) (hl : IsEvs w A 0 [exC g]) : Calls Try.prog 9 #[.agg (exJ p q ⟨#[64, 97, 58, 120]⟩).cells, .slice A 1 c] w fun e w' => e = .returned (.int .i64 0) ∧ Below w.heap.size w w' :=
  (check_any (exJ p q ⟨#[64, 97, 58, 120]⟩) [exC g] A 1 c w h hm hl rfl (by decide)).mono fun e w' ⟨he, hb⟩ => ⟨by rw [he, ex2], hb⟩
theorem chk3 (g p q : Nat) (A : Option Addr) (c : Nat) (w : World) (hm : HasMax w) (hl : IsEvs w A 0 [exC g, exJ p q ⟨#[64, 97, 58, 120]⟩]) : Calls Try.prog 9 #[.agg exM.cells, .slice A 2 c] w fun e w' => e = .returned (.int .i64 0) ∧ Below w.heap.size w w' :=
  (check_any exM [exC g, exJ p q ⟨#[64, 97, 58, 120]⟩] A 2 c w (exM_is w) hm hl rfl (by decide)).mono fun e w' ⟨he, hb⟩ => ⟨by rw [he, ex3], hb⟩
theorem chk4 (g p q : Nat) (A : Option Addr) (c : Nat) (w : World) (h : IsEv w (exJ p q ⟨#[64, 98, 58, 120]⟩)) (hm : HasMax w) (hl : IsEvs w A 0 [exC g]) : Calls Try.prog 9 #[.agg (exJ p q ⟨#[64, 98, 58, 120]⟩).cells, .slice A 1 c] w fun e w' => e = .returned (.int .i64 23) ∧ Below w.heap.size w w' :=
  (check_any (exJ p q ⟨#[64, 98, 58, 120]⟩) [exC g] A 1 c w h hm hl rfl (by decide)).mono fun e w' ⟨he, hb⟩ => ⟨by rw [he, ex4], hb⟩
theorem chk5 (g p q : Nat) (A : Option Addr) (c : Nat) (w : World) (hl : IsEvs w A 0 [exC g, exJ p q ⟨#[64, 97, 58, 120]⟩]) : Calls Try.prog 7 #[.string ⟨#[64, 97, 58, 120]⟩, .slice A 2 c] w fun e w' => e = .returned (.int .i64 100) ∧ Below w.heap.size w w' :=
  (alev_any [exC g, exJ p q ⟨#[64, 97, 58, 120]⟩] A 2 c _ w hl rfl (by decide)).mono fun e w' ⟨he, hb⟩ => ⟨by rw [he, ex5], hb⟩
theorem chk6 (w : World) : Calls Try.prog 16 #[.agg exM.cells] w fun e w' => ∃ A c, e = .returned (.slice A 3 c) ∧ Below w.heap.size w w' :=
  (aselect_any exM w (exM_is w)).mono fun e w' ⟨A, c, he, _, hb⟩ => ⟨A, c, by rw [he, ex6], hb⟩
theorem szJ (p g : Nat) (who : ByteArray) : (exJ p g who).cells.size = 22 := rfl
theorem lt3 {a : Array Value} (h : a.size = 22) : 3 < a.size := by omega
theorem lt5 {a : Array Value} {v : Value} (h : a.size = 22) : 5 < (a.setIfInBounds 3 v).size := by rw [Array.size_setIfInBounds]; omega
theorem exB_cells (p g : Nat) : ((exJ p g ⟨#[64, 97, 58, 120]⟩).cells.setIfInBounds 3 (.string ⟨#[64, 98, 58, 120]⟩)).setIfInBounds 5 (.string ⟨#[64, 98, 58, 120]⟩) = (exJ p g ⟨#[64, 98, 58, 120]⟩).cells := by kernel_rfl
theorem bldC (g : Nat) (w : World) : (Instr.build 32 ([(0, .string ⟨#[99]⟩), (1, .string ⟨#[109, 46, 114, 111, 111, 109, 46, 99, 114, 101, 97, 116, 101]⟩), (2, .string ⟨#[33, 114, 58, 120]⟩), (3, .string ⟨#[64, 97, 58, 120]⟩), (4, .bool true), (10, .agg (exContent ⟨#[114, 111, 111, 109, 95, 118, 101, 114, 115, 105, 111, 110]⟩ ⟨#[49, 49]⟩ g).cells)] : List (Nat × Value)).toArray).run Try.prog w = .ok (.agg (exC g).cells) w := run_build w 32 _ _ (by kernel_rfl)
theorem bldJ (p g : Nat) (w : World) : (Instr.build 32 ([(0, .string ⟨#[106]⟩), (1, .string ⟨#[109, 46, 114, 111, 111, 109, 46, 109, 101, 109, 98, 101, 114]⟩), (2, .string ⟨#[33, 114, 58, 120]⟩), (3, .string ⟨#[64, 97, 58, 120]⟩), (4, .bool true), (5, .string ⟨#[64, 97, 58, 120]⟩), (6, .slice (some ⟨p, 0, none⟩) 1 1), (10, .agg (exContent ⟨#[109, 101, 109, 98, 101, 114, 115, 104, 105, 112]⟩ ⟨#[106, 111, 105, 110]⟩ g).cells)] : List (Nat × Value)).toArray).run Try.prog w = .ok (.agg (exJ p g ⟨#[64, 97, 58, 120]⟩).cells) w := run_build w 32 _ _ (by kernel_rfl)
theorem bldM (w : World) : (Instr.build 32 ([(0, .string ⟨#[109]⟩), (1, .string ⟨#[109, 46, 114, 111, 111, 109, 46, 109, 101, 115, 115, 97, 103, 101]⟩), (2, .string ⟨#[33, 114, 58, 120]⟩), (3, .string ⟨#[64, 97, 58, 120]⟩)] : List (Nat × Value)).toArray).run Try.prog w = .ok (.agg exM.cells) w := run_build w 32 _ _ (by kernel_rfl)

end
end Go.Proofs.Ytpmdpfgaafaceaa
namespace Go.Proofs.Ytpmdpfgaafaceaa
section
open Go.RowKit Go.PlainAid
set_option linter.unusedVariables false
set_option linter.unusedSimpArgs false

set_option maxRecDepth 100000 in
set_option maxHeartbeats 8000000 in
theorem up_any (w : World) (HM : HasMax w) : Calls Try.prog 6 #[] w fun e w' => e = .returned (.bool true) ∧ Below w.heap.size w w' := by
  obtain ⟨is0, his, hsz, hs1, hs2⟩ := info_parts info_string
  obtain ⟨ie0, hie, hez, he1, he2⟩ := info_parts info_ev3
  have HB := Below.refl w.heap.size w
  go_enter Try.func6, Try.ntmps6
  go_wp2_with (first
      | (go_at_call 15; (with_reducible refine (text_any _ _).mono ?_); rintro e w1 ⟨rfl, hb⟩; replace HB := HB.trans (hb.mono HB.size); (try replace HM := HM.below hb); (try replace HEC := HEC.below hb); (try replace HEJ := HEJ.below hb); (try replace HEB := HEB.below hb); (try replace HL := HL.below hb); (try replace HS := HS.below hb); (try replace B1 := IBox.below B1 hb (IBox.lt B1)); (try replace B2 := IBox.below B2 hb (IBox.lt B2)); (try replace B3 := IBox.below B3 hb (IBox.lt B3)); (try replace B4 := IBox.below B4 hb (IBox.lt B4)); (try replace BP := IBox.below BP hb (IBox.lt BP)); (try replace BL := IBox.below BL hb (IBox.lt BL)); clear hb)
      | (go_at_call 14; (with_reducible refine (content2_any ⟨#[114, 111, 111, 109, 95, 118, 101, 114, 115, 105, 111, 110]⟩ _ _ (show (⟨#[114, 111, 111, 109, 95, 118, 101, 114, 115, 105, 111, 110]⟩ : ByteArray).size ≤ reach by decide) (show (⟨#[49, 49]⟩ : ByteArray).size ≤ reach by decide)).mono ?_); rintro e w1 ⟨gC, rfl, HJC, hb⟩; replace HB := HB.trans (hb.mono HB.size); (try replace HM := HM.below hb); (try replace HEC := HEC.below hb); (try replace HEJ := HEJ.below hb); (try replace HEB := HEB.below hb); (try replace HL := HL.below hb); (try replace HS := HS.below hb); (try replace B1 := IBox.below B1 hb (IBox.lt B1)); (try replace B2 := IBox.below B2 hb (IBox.lt B2)); (try replace B3 := IBox.below B3 hb (IBox.lt B3)); (try replace B4 := IBox.below B4 hb (IBox.lt B4)); (try replace BP := IBox.below BP hb (IBox.lt BP)); (try replace BL := IBox.below BL hb (IBox.lt BL)); have HEC := exC_is HJC; clear hb HJC)
      | (go_at_call 14; (with_reducible refine (content2_any ⟨#[109, 101, 109, 98, 101, 114, 115, 104, 105, 112]⟩ _ _ (show (⟨#[109, 101, 109, 98, 101, 114, 115, 104, 105, 112]⟩ : ByteArray).size ≤ reach by decide) (show (⟨#[106, 111, 105, 110]⟩ : ByteArray).size ≤ reach by decide)).mono ?_); rintro e w1 ⟨gJ, rfl, HJJ, hb⟩; replace HB := HB.trans (hb.mono HB.size); (try replace HM := HM.below hb); (try replace HEC := HEC.below hb); (try replace HEJ := HEJ.below hb); (try replace HEB := HEB.below hb); (try replace HL := HL.below hb); (try replace HS := HS.below hb); (try replace B1 := IBox.below B1 hb (IBox.lt B1)); (try replace B2 := IBox.below B2 hb (IBox.lt B2)); (try replace B3 := IBox.below B3 hb (IBox.lt B3)); (try replace B4 := IBox.below B4 hb (IBox.lt B4)); (try replace BP := IBox.below BP hb (IBox.lt BP)); (try replace BL := IBox.below BL hb (IBox.lt BL)); have HEJ := exJ_is (show (⟨#[64, 97, 58, 120]⟩ : ByteArray).size ≤ reach by decide) BP HJJ; have HEB := exJ_is (show (⟨#[64, 98, 58, 120]⟩ : ByteArray).size ≤ reach by decide) BP HJJ; clear hb HJJ)
      | ((with_reducible refine is_build ?_); refine wpl_build_at (bldC gC) rfl _ rfl rfl ?_)
      | ((with_reducible refine is_alloc ?_); refine wpl_newbox 1 rfl rfl 32 rfl rfl (.tmp 8) rfl _ zeroE _ rfl rfl info_event rfl (ev_one _) ?_; intro wp hw; have hb := hid_grow hw; have B1 := (hid_alloc hw).1; replace HB := HB.trans (hb.mono HB.size); (try replace HM := HM.below hb); (try replace HEC := HEC.below hb); (try replace HEJ := HEJ.below hb); (try replace HEB := HEB.below hb); (try replace HL := HL.below hb); (try replace HS := HS.below hb); (try replace B2 := IBox.below B2 hb (IBox.lt B2)); (try replace B3 := IBox.below B3 hb (IBox.lt B3)); (try replace B4 := IBox.below B4 hb (IBox.lt B4)); (try replace BP := IBox.below BP hb (IBox.lt BP)); (try replace BL := IBox.below BL hb (IBox.lt BL)); clear hb hw)
      | ((with_reducible refine is_slice ?_); refine wpl_slice_at 1 [(0, .string ⟨#[99]⟩)] #[.string ⟨#[99]⟩] is0 (.string ⟨#[]⟩) (by rw [hs1]; kernel_rfl) rfl 26 9 _ rfl rfl Try.underlying26 his hsz (by rw [hs1]; decide) (by rw [hs1]; decide) ?_; intro w1 hw; have hb := hid_grow hw; replace HB := HB.trans (hb.mono HB.size); (try replace HM := HM.below hb); (try replace HEC := HEC.below hb); (try replace HEJ := HEJ.below hb); (try replace HEB := HEB.below hb); (try replace HL := HL.below hb); (try replace HS := HS.below hb); (try replace B1 := IBox.below B1 hb (IBox.lt B1)); (try replace B2 := IBox.below B2 hb (IBox.lt B2)); (try replace B3 := IBox.below B3 hb (IBox.lt B3)); (try replace B4 := IBox.below B4 hb (IBox.lt B4)); (try replace BP := IBox.below BP hb (IBox.lt BP)); (try replace BL := IBox.below BL hb (IBox.lt BL)); have BP := (hid_alloc hw).1; clear hb hw)
      | ((with_reducible refine is_build ?_); refine wpl_build_at (bldJ wp.heap.size gJ) rfl _ rfl rfl ?_)
      | ((with_reducible refine is_alloc ?_); refine wpl_newbox 2 rfl rfl 32 rfl rfl (.tmp 12) rfl _ zeroE _ rfl rfl info_event rfl (ev_one _) ?_; intro w1 hw; have hb := hid_grow hw; have B2 := (hid_alloc hw).1; replace HB := HB.trans (hb.mono HB.size); (try replace HM := HM.below hb); (try replace HEC := HEC.below hb); (try replace HEJ := HEJ.below hb); (try replace HEB := HEB.below hb); (try replace HL := HL.below hb); (try replace HS := HS.below hb); (try replace B1 := IBox.below B1 hb (IBox.lt B1)); (try replace B3 := IBox.below B3 hb (IBox.lt B3)); (try replace B4 := IBox.below B4 hb (IBox.lt B4)); (try replace BP := IBox.below BP hb (IBox.lt BP)); (try replace BL := IBox.below BL hb (IBox.lt BL)); clear hb hw)
      | ((with_reducible refine is_load ?_); refine wpl_load_box rfl 32 (.tmp 2) rfl _ rfl _ _ _ B2 Try.underlying32 rfl info_event ?_)
      | ((with_reducible refine is_alloc ?_); refine wpl_newbox 3 rfl rfl 32 rfl rfl (.tmp 13) rfl _ zeroE _ rfl rfl info_event rfl (ev_one _) ?_; intro w1 hw; have hb := hid_grow hw; have HA := hb; have AB := HB; have AM := HM; have AEC := HEC; have AEJ := HEJ; have AEB := HEB; have A1 := B1; have A2 := B2; have B3 := (hid_alloc hw).1; replace HB := HB.trans (hb.mono HB.size); (try replace HM := HM.below hb); (try replace HEC := HEC.below hb); (try replace HEJ := HEJ.below hb); (try replace HEB := HEB.below hb); (try replace HL := HL.below hb); (try replace HS := HS.below hb); (try replace B1 := IBox.below B1 hb (IBox.lt B1)); (try replace B2 := IBox.below B2 hb (IBox.lt B2)); (try replace B4 := IBox.below B4 hb (IBox.lt B4)); (try replace BP := IBox.below BP hb (IBox.lt BP)); (try replace BL := IBox.below BL hb (IBox.lt BL)); clear hb hw)
      | ((with_reducible refine is_store ?_); refine wpl_store_cell rfl 9 (.tmp 14) _ rfl _ 3 rfl (.string ⟨#[64, 98, 58, 120]⟩) rfl _ _ B3 (lt3 (szJ _ _ _)) info_str1 rfl ?_; intro w1 hw; have hq := hid_row_below hw (Nat.le_refl _) HA; replace HA := hq.1; replace B3 := hid_row hw B3; replace HB := AB.trans (HA.mono AB.size); replace HM := AM.below HA; replace HEC := AEC.below HA; replace HEJ := AEJ.below HA; replace HEB := AEB.below HA; replace B1 := IBox.below A1 HA (IBox.lt A1); replace B2 := IBox.below A2 HA (IBox.lt A2); clear hw hq)
      | ((with_reducible refine is_store ?_); refine wpl_store_cell rfl 9 (.tmp 15) _ rfl _ 5 rfl (.string ⟨#[64, 98, 58, 120]⟩) rfl _ _ B3 (lt5 (szJ _ _ _)) info_str1 rfl ?_; intro w1 hw; have hq := hid_row_below hw (Nat.le_refl _) HA; replace HA := hq.1; replace B3 := hid_row hw B3; rw [exB_cells] at B3; replace HB := AB.trans (HA.mono AB.size); replace HM := AM.below HA; replace HEC := AEC.below HA; replace HEJ := AEJ.below HA; replace HEB := AEB.below HA; replace B1 := IBox.below A1 HA (IBox.lt A1); replace B2 := IBox.below A2 HA (IBox.lt A2); clear hw hq HA AB AM AEC AEJ AEB A1 A2)
      | ((with_reducible refine is_build ?_); refine wpl_build_at bldM rfl _ rfl rfl ?_)
      | ((with_reducible refine is_alloc ?_); refine wpl_newbox 4 rfl rfl 32 rfl rfl (.tmp 16) rfl _ zeroE _ rfl rfl info_event rfl (ev_one _) ?_; intro w1 hw; have hb := hid_grow hw; have B4 := (hid_alloc hw).1; replace HB := HB.trans (hb.mono HB.size); (try replace HM := HM.below hb); (try replace HEC := HEC.below hb); (try replace HEJ := HEJ.below hb); (try replace HEB := HEB.below hb); (try replace HL := HL.below hb); (try replace HS := HS.below hb); (try replace B1 := IBox.below B1 hb (IBox.lt B1)); (try replace B2 := IBox.below B2 hb (IBox.lt B2)); (try replace B3 := IBox.below B3 hb (IBox.lt B3)); (try replace BP := IBox.below BP hb (IBox.lt BP)); (try replace BL := IBox.below BL hb (IBox.lt BL)); clear hb hw)
      | ((with_reducible refine is_load ?_); refine wpl_load_box rfl 32 (.tmp 1) rfl _ rfl _ _ _ B1 Try.underlying32 rfl info_event ?_)
      | ((with_reducible refine is_slice ?_); refine wpl_slice_at 2 [(0, .agg (exC gC).cells), (1, .agg (exJ wp.heap.size gJ ⟨#[64, 97, 58, 120]⟩).cells)] ((exC gC).cells ++ (exJ wp.heap.size gJ ⟨#[64, 97, 58, 120]⟩).cells) ie0 (.agg Ev.zero.cells) (by rw [he1]; exact fill_two _ _ rfl rfl _ rfl) rfl 22 32 _ rfl rfl Try.underlying22 hie hez (by rw [he1]; decide) (by rw [he1]; decide) ?_; intro w1 hw; have hb := hid_grow hw; replace HB := HB.trans (hb.mono HB.size); (try replace HM := HM.below hb); (try replace HEC := HEC.below hb); (try replace HEJ := HEJ.below hb); (try replace HEB := HEB.below hb); (try replace HL := HL.below hb); (try replace HS := HS.below hb); (try replace B1 := IBox.below B1 hb (IBox.lt B1)); (try replace B2 := IBox.below B2 hb (IBox.lt B2)); (try replace B3 := IBox.below B3 hb (IBox.lt B3)); (try replace B4 := IBox.below B4 hb (IBox.lt B4)); (try replace BP := IBox.below BP hb (IBox.lt BP)); (try replace BL := IBox.below BL hb (IBox.lt BL)); have BL := (hid_alloc hw).1; have HL := evs_two BL HEC HEJ; clear hb hw)
      | (go_at_call 9; (with_reducible refine (chk1 _ _ HEC HM).mono ?_); rintro e w1 ⟨rfl, hb⟩; replace HB := HB.trans (hb.mono HB.size); (try replace HM := HM.below hb); (try replace HEC := HEC.below hb); (try replace HEJ := HEJ.below hb); (try replace HEB := HEB.below hb); (try replace HL := HL.below hb); (try replace HS := HS.below hb); (try replace B1 := IBox.below B1 hb (IBox.lt B1)); (try replace B2 := IBox.below B2 hb (IBox.lt B2)); (try replace B3 := IBox.below B3 hb (IBox.lt B3)); (try replace B4 := IBox.below B4 hb (IBox.lt B4)); (try replace BP := IBox.below BP hb (IBox.lt BP)); (try replace BL := IBox.below BL hb (IBox.lt BL)); clear hb)
      | ((with_reducible refine is_load ?_); refine wpl_wanted rfl ?_; refine wpl_load_box rfl 32 (.tmp 1) rfl _ rfl _ _ _ B1 Try.underlying32 rfl info_event ?_)
      | ((with_reducible refine is_load ?_); refine wpl_wanted rfl ?_; refine wpl_load_box rfl 32 (.tmp 2) rfl _ rfl _ _ _ B2 Try.underlying32 rfl info_event ?_)
      | ((with_reducible refine is_load ?_); refine wpl_wanted rfl ?_; refine wpl_load_box rfl 32 (.tmp 3) rfl _ rfl _ _ _ B3 Try.underlying32 rfl info_event ?_)
      | ((with_reducible refine is_load ?_); refine wpl_wanted rfl ?_; refine wpl_load_box rfl 32 (.tmp 4) rfl _ rfl _ _ _ B4 Try.underlying32 rfl info_event ?_)
      | ((with_reducible refine is_slice ?_); refine wpl_wanted rfl ?_; refine wpl_slice_at 1 [(0, .agg (exC gC).cells)] (exC gC).cells ie0 (.agg Ev.zero.cells) (by rw [he1]; exact fill_one _ rfl _ rfl) rfl 22 32 _ rfl rfl Try.underlying22 hie hez (by rw [he1]; decide) (by rw [he1]; decide) ?_; intro w1 hw; have hb := hid_grow hw; replace HB := HB.trans (hb.mono HB.size); (try replace HM := HM.below hb); (try replace HEC := HEC.below hb); (try replace HEJ := HEJ.below hb); (try replace HEB := HEB.below hb); (try replace HL := HL.below hb); (try replace HS := HS.below hb); (try replace B1 := IBox.below B1 hb (IBox.lt B1)); (try replace B2 := IBox.below B2 hb (IBox.lt B2)); (try replace B3 := IBox.below B3 hb (IBox.lt B3)); (try replace B4 := IBox.below B4 hb (IBox.lt B4)); (try replace BP := IBox.below BP hb (IBox.lt BP)); (try replace BL := IBox.below BL hb (IBox.lt BL)); have BS := (hid_alloc hw).1; have HS := evs_one BS HEC; clear hb hw BS)
      | (go_at_call 9; (with_reducible refine (chk2 _ _ _ _ _ _ HEJ HM HS).mono ?_); rintro e w1 ⟨rfl, hb⟩; replace HB := HB.trans (hb.mono HB.size); (try replace HM := HM.below hb); (try replace HEC := HEC.below hb); (try replace HEJ := HEJ.below hb); (try replace HEB := HEB.below hb); (try replace HL := HL.below hb); (try replace HS := HS.below hb); (try replace B1 := IBox.below B1 hb (IBox.lt B1)); (try replace B2 := IBox.below B2 hb (IBox.lt B2)); (try replace B3 := IBox.below B3 hb (IBox.lt B3)); (try replace B4 := IBox.below B4 hb (IBox.lt B4)); (try replace BP := IBox.below BP hb (IBox.lt BP)); (try replace BL := IBox.below BL hb (IBox.lt BL)); clear hb)
      | (go_at_call 9; (with_reducible refine (chk3 _ _ _ _ _ _ HM HL).mono ?_); rintro e w1 ⟨rfl, hb⟩; replace HB := HB.trans (hb.mono HB.size); (try replace HM := HM.below hb); (try replace HEC := HEC.below hb); (try replace HEJ := HEJ.below hb); (try replace HEB := HEB.below hb); (try replace HL := HL.below hb); (try replace HS := HS.below hb); (try replace B1 := IBox.below B1 hb (IBox.lt B1)); (try replace B2 := IBox.below B2 hb (IBox.lt B2)); (try replace B3 := IBox.below B3 hb (IBox.lt B3)); (try replace B4 := IBox.below B4 hb (IBox.lt B4)); (try replace BP := IBox.below BP hb (IBox.lt BP)); (try replace BL := IBox.below BL hb (IBox.lt BL)); clear hb)
      | (go_at_call 9; (with_reducible refine (chk4 _ _ _ _ _ _ HEB HM HS).mono ?_); rintro e w1 ⟨rfl, hb⟩; replace HB := HB.trans (hb.mono HB.size); (try replace HM := HM.below hb); (try replace HEC := HEC.below hb); (try replace HEJ := HEJ.below hb); (try replace HEB := HEB.below hb); (try replace HL := HL.below hb); (try replace HS := HS.below hb); (try replace B1 := IBox.below B1 hb (IBox.lt B1)); (try replace B2 := IBox.below B2 hb (IBox.lt B2)); (try replace B3 := IBox.below B3 hb (IBox.lt B3)); (try replace B4 := IBox.below B4 hb (IBox.lt B4)); (try replace BP := IBox.below BP hb (IBox.lt BP)); (try replace BL := IBox.below BL hb (IBox.lt BL)); clear hb)
      | (go_at_call 7; (with_reducible refine (chk5 _ _ _ _ _ _ HL).mono ?_); rintro e w1 ⟨rfl, hb⟩; replace HB := HB.trans (hb.mono HB.size); (try replace HM := HM.below hb); (try replace HEC := HEC.below hb); (try replace HEJ := HEJ.below hb); (try replace HEB := HEB.below hb); (try replace HL := HL.below hb); (try replace HS := HS.below hb); (try replace B1 := IBox.below B1 hb (IBox.lt B1)); (try replace B2 := IBox.below B2 hb (IBox.lt B2)); (try replace B3 := IBox.below B3 hb (IBox.lt B3)); (try replace B4 := IBox.below B4 hb (IBox.lt B4)); (try replace BP := IBox.below BP hb (IBox.lt BP)); (try replace BL := IBox.below BL hb (IBox.lt BL)); clear hb)
      | (go_at_call 16; (with_reducible refine (chk6 _).mono ?_); rintro e w1 ⟨AS, cS, rfl, hb⟩; replace HB := HB.trans (hb.mono HB.size); (try replace HM := HM.below hb); (try replace HEC := HEC.below hb); (try replace HEJ := HEJ.below hb); (try replace HEB := HEB.below hb); (try replace HL := HL.below hb); (try replace HS := HS.below hb); (try replace B1 := IBox.below B1 hb (IBox.lt B1)); (try replace B2 := IBox.below B2 hb (IBox.lt B2)); (try replace B3 := IBox.below B3 hb (IBox.lt B3)); (try replace B4 := IBox.below B4 hb (IBox.lt B4)); (try replace BP := IBox.below BP hb (IBox.lt BP)); (try replace BL := IBox.below BL hb (IBox.lt BL)); clear hb))
  go_ret
  exact ⟨rfl, HB⟩
end
end Go.Proofs.Ytpmdpfgaafaceaa
