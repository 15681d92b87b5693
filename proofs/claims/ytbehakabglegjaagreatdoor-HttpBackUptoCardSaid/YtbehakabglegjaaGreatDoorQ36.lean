/- Layer 9: from what the rows list of the library's variables to what the walks ask of the world. Layer 9: how long a message is as it is written (plain). Layer 9: parts that are sound come back from their target (plain). Layer 9: what holds in the rounds of the law HttpBack. -/
import Derived.Test.YtbehakabglegjaaGreatDoorCards
import Derived.Test.YtbehakabglegjaaGreatDoorTie
import Derived.PinnedBridge
import Derived.Lib.LaidU8T
import Derived.LaidHandle
import Derived.LaidLaws
import Derived.Lay
import Derived.SevenTiedAt
import Derived.Test.YtbehakabglegjaaGreatDoorQ13
import Derived.Test.YtbehakabglegjaaGreatDoorQ33
import Derived.Test.YtbehakabglegjaaGreatDoorQ34
import Derived.Test.YtbehakabglegjaaGreatDoorQ24
import Derived.Test.YtbehakabglegjaaGreatDoorQ06
import Derived.Test.YtbehakabglegjaaGreatDoorQ35
import Derived.Test.YtbehakabglegjaaGreatDoorQ23
import Derived.Test.YtbehakabglegjaaGreatDoorQ27
import Derived.Test.YtbehakabglegjaaGreatDoorQ28
import Derived.Test.YtbehakabglegjaaGreatDoorQ02
namespace Go.Proofs.YtbehakabglegjaaGreatDoor
open Go.RowKit Go.Shelf Go.Lib
set_option linter.unusedVariables false
set_option linter.unusedSimpArgs false

theorem laid_both {P : Program} {l : List (String × DataW Unit)} {W : World} (h : laidMetH P l W) : laidMet P (l.filter fun x => x.2.handleName?.isNone) W ∧ handlesMet P (l.filter fun x => x.2.handleName?.isSome) W := by
  unfold laidMetH at h
  generalize hf : (l.filter fun x => x.2.handleName?.isSome) = fl at h
  cases fl with
  | nil =>
    have e : (l.filter fun x => x.2.handleName?.isNone) = l := by
      rw [List.filter_eq_self]
      intro x hx
      cases hn : x.2.handleName? with
      | none => rfl
      | some y =>
        have := List.filter_eq_nil_iff.1 hf x hx
        rw [hn] at this
        simp at this
    rw [e]
    exact ⟨h, fun x hx => by cases hx⟩
  | cons a r => exact h
theorem mem_none {l : List (String × DataW Unit)} {n : String} {d : DataW Unit} (hm : (n, d) ∈ l) (hd : d.handleName?.isNone = true) : (n, d) ∈ l.filter fun x => x.2.handleName?.isNone := List.mem_filter.2 ⟨hm, hd⟩
abbrev renU8 : Ren := ⟨fun x => x, fun k => if k = 5 then 5 else if k = 119 then 179 else if k = 138 then 181 else 182, fun k => if k = 3 then 2 else 3⟩
theorem typesU8 : U8Types Tryz.prog renU8 := ⟨Tryz.underlying5, Tryz.underlying179, Tryz.underlying181, Tryz.underlying182⟩
theorem extraU8 : U8Extra Tryz.prog renU8 := ⟨by kernel_rfl, by kernel_rfl, by kernel_rfl, by kernel_rfl, by kernel_rfl, by kernel_rfl, by kernel_rfl⟩
theorem accept_is : (Rows.laid_unicode_utf8_acceptRanges : DataW Unit) = acceptData := by kernel_rfl
theorem err_at {W : World} {n nm : String} {g : Nat} {d : DataW Unit} (hg : Tryz.prog.globalNamed n = some g) (ht : (Tryz.prog.globals[g]?).map (·.type) = some 28) (h : VarReads Tryz.prog W n (.iface nm d)) : EV W g := by
  obtain ⟨g', t, cs, fuel, p, h1, h2, h3, h4⟩ := h
  obtain rfl := Option.some.inj (hg.symm.trans h1)
  obtain rfl := Option.some.inj (ht.symm.trans h2)
  obtain ⟨f1, u, v, e, _⟩ := iface_of_trod Tryz.underlying28 h4
  refine ⟨.iface u v, ?_, .inr ⟨u, v, rfl⟩⟩
  rw [World.var?_cell h1 h3 0, ← Array.getElem?_toList, e]
  rfl
abbrev LL : List (String × DataW Unit) := [("math/bits.deBruijn32tab", Rows.laid_math_bits_deBruijn32tab), ("math/bits.deBruijn64tab", Rows.laid_math_bits_deBruijn64tab), ("internal/strconv.uint64pow10", Rows.laid_internal_strconv_uint64pow10), ("unicode/utf8.acceptRanges", Rows.laid_unicode_utf8_acceptRanges), ("strconv.ErrRange", Rows.laid_strconv_ErrRange), ("strconv.ErrSyntax", Rows.laid_strconv_ErrSyntax), ("unicode/utf8.first", Rows.laid_unicode_utf8_first)]
theorem tab_is : (Rows.laid_internal_strconv_uint64pow10 : DataW Unit) = Lib.tabData .u64 Lib.pow10Tab := by kernel_rfl
theorem cell_bl {w w' : World} {a : Addr} {v : Value} (hb : Below w.heap.size w w') (h : w.cell? a = some v) : w'.cell? a = some v := cell_later hb h
theorem EV.below {w w' : World} {g : Nat} (h : EV w g) (hb : Below w.heap.size w w') : EV w' g := by
  obtain ⟨ev, h1, h2⟩ := h
  exact ⟨ev, cell_bl hb h1, h2⟩
/-- The world's condition out of the rows' list. -/
theorem wh_of {W : World} (h : laidMetH Tryz.prog LL W) : Wh W W.heap.size := by
  obtain ⟨h1, h2⟩ := laid_both h
  have r1 := laidMet.reads h1 (mem_none (show ("unicode/utf8.first", Rows.laid_unicode_utf8_first) ∈ LL by simp [LL]) (by kernel_rfl))
  have r2 := laidMet.reads h1 (mem_none (show ("unicode/utf8.acceptRanges", Rows.laid_unicode_utf8_acceptRanges) ∈ LL by simp [LL]) (by kernel_rfl))
  have r3 := laidMet.reads h1 (mem_none (show ("strconv.ErrSyntax", Rows.laid_strconv_ErrSyntax) ∈ LL by simp [LL]) (by kernel_rfl))
  have r4 := laidMet.reads h1 (mem_none (show ("strconv.ErrRange", Rows.laid_strconv_ErrRange) ∈ LL by simp [LL]) (by kernel_rfl))
  have r := laidMet.reads h1 (mem_none (show ("internal/strconv.uint64pow10", Rows.laid_internal_strconv_uint64pow10) ∈ LL by simp [LL]) (by kernel_rfl))
  have hT : Lib.Utf8Tabs 2 3 W := utf8Tabs_of_readsT typesU8 extraU8 (Pinned.utf8First_eq ▸ r1) (accept_is ▸ r2)
  have E1 : EV W 7 := err_at (by kernel_rfl) (by kernel_rfl) r3
  have E2 : EV W 8 := err_at (by kernel_rfl) (by kernel_rfl) r4
  obtain ⟨g', t', cs, fuel, p, hg', ht', hvar, hd⟩ := r
  obtain rfl := Option.some.inj ((show Tryz.prog.globalNamed "internal/strconv.uint64pow10" = some 4 by kernel_rfl).symm.trans hg')
  obtain rfl := Option.some.inj ((show (Tryz.prog.globals[4]?).map (·.type) = some 187 by kernel_rfl).symm.trans ht')
  rw [tab_is] at hd
  have hc := Lib.cells_of_tab (n := 20) Tryz.underlying187 Tryz.underlying157 (by kernel_rfl) (by kernel_rfl) hd
  have hW : Lib.TabIs Tryz.prog W "internal/strconv.uint64pow10" .u64 Lib.pow10Tab := by
    show W.var? Tryz.prog "internal/strconv.uint64pow10" = _
    rw [hvar, ← hc]
  have c0 := Lib.TabIs.cell hW (g := 4) (by kernel_rfl) 0 (by decide)
  have hlt := World.block_lt_of_cell? W _ c0
  refine fun W' hb => ⟨E1.below hb, E2.below hb, ⟨fun c hc => cell_bl hb (hT.1 c hc), fun i hi => ⟨cell_bl hb (hT.2 i hi).1, cell_bl hb (hT.2 i hi).2⟩⟩, ?_⟩
  show W'.var? Tryz.prog "internal/strconv.uint64pow10" = _
  rw [← show W.var? Tryz.prog "internal/strconv.uint64pow10" = _ from hW]
  have hb2 := hb.block 4 hlt
  unfold World.var?
  rw [show Tryz.prog.globalNamed "internal/strconv.uint64pow10" = some 4 by kernel_rfl]
  simp [hb2]
/-- A world in which the listed variables lie as the rows say (the witness). -/
noncomputable def laidW (os : Os) : World := (World.holding Tryz.prog os ⟨#[], #[], []⟩).layVars Tryz.prog LL
theorem laidW_os (os : Os) : (laidW os).os = os := World.layVars_os _ _ _
theorem laidW_shaped (os : Os) : (laidW os).Shaped Tryz.prog := World.shaped_of_ZipB (by kernel_rfl) (by kernel_rfl)
theorem ll_is : (LL.filter fun x => x.2.handleName?.isNone) = LL := by kernel_rfl
theorem laid_data (os : Os) : laidMet Tryz.prog LL (laidW os) := by
  have e1 : (LL.filter fun x => (LL.map (·.1)).contains x.1) = LL := List.filter_eq_self.2 fun x hx => List.contains_iff_mem.2 (List.mem_map.2 ⟨x, hx, rfl⟩)
  have e2 : (LL.filter fun x => !(LL.map (·.1)).contains x.1) = [] := List.filter_eq_nil_iff.2 fun x hx => by rw [List.contains_iff_mem.2 (List.mem_map.2 ⟨x, hx, rfl⟩)]; simp
  exact laidMet_layVars (w0 := World.holding Tryz.prog os ⟨#[], #[], []⟩) (LL.map (·.1)) [] (by rw [e1]; rfl) (by rw [e1]; kernel_rfl) (by rw [e1]; kernel_rfl) (by rw [e2]; exact LaidIn.none)
theorem laid_met (os : Os) (args : Array Value) : laidMetH Tryz.prog LL ((laidW os).forCall (fun _ _ => 0) ⟨#[], args, []⟩).memory := by
  refine laidMetH_of_parts (l := LL) ?_ (by kernel_rfl)
  rw [ll_is]
  exact (laid_data os).of_heap (by simp [World.memory, World.forCall, Input.heap])
end Go.Proofs.YtbehakabglegjaaGreatDoor
namespace Go.Proofs.YtbehakabglegjaaGreatDoor
set_option linter.unusedVariables false
set_option linter.unusedSimpArgs false
theorem writeS_three (m : Ms) : (∃ bs, writeS m = (0, bs)) ∨ writeS m = (1, []) ∨ writeS m = (2, []) := by
  unfold writeS
  split
  · exact .inr (.inl rfl)
  · split
    · exact .inr (.inr rfl)
    · split
      · exact .inr (.inr rfl)
      · exact .inl ⟨_, rfl⟩
theorem flat_small : ∀ (l : List (ByteArray × ByteArray)), (l.flatMap headL).length ≤ 2 * hdSz l
  | [] => Nat.zero_le _
  | p :: r => by
    have h := flat_small r
    have e : hdSz (p :: r) = p.1.size + p.2.size + 3 + hdSz r := by unfold hdSz; rw [List.map_cons, List.sum_cons]
    have e2 : (headL p).length = p.1.size + p.2.size + 4 := by unfold headL; simp [bl_len, crlf]; omega
    rw [List.flatMap_cons, List.length_append, e, e2]
    omega
theorem top_small {m : Ms} (hs : -9223372036854775808 ≤ m.stat ∧ m.stat ≤ 9223372036854775807) (hb : m.body.length ≤ 9223372036854775807) : (topL m).length + m.body.length ≤ 2 * msSz m + 200 := by
  have h1 := flat_small m.heads
  have h2 := itoa_len hs
  have h3 := itoa_len (n := (m.body.length : Int)) (by omega)
  have h4 : (startL m).length ≤ m.meth.size + m.targ.size + m.reas.size + 40 := by
    unfold startL
    split <;> simp [bl_len, protoL] <;> omega
  unfold topL msSz
  simp only [List.length_append]
  have h5 : lengthL.length = 14 := rfl
  have h6 : crlf.length = 2 := rfl
  have h7 : ([58, 32] : List UInt8).length = 2 := rfl
  rw [h5, h6, h7]
  omega
end Go.Proofs.YtbehakabglegjaaGreatDoor
namespace Go.Proofs.YtbehakabglegjaaGreatDoor
set_option linter.unusedVariables false
set_option linter.unusedSimpArgs false
theorem esc_tab : ∀ n : Fin 256, let c := UInt8.ofNat n.val
    ((isWordB c || plainMarks.contains c) = true → (([47, 63, 61, 38] : List UInt8).contains c = false ∧ 33 ≤ c.toNat ∧ c.toNat ≤ 126 ∧ c.toNat ≠ 35 ∧ c.toNat ≠ 37)) ∧
    (0 ≤ hexB (digU (c.toNat / 16)) ∧ 0 ≤ hexB (digU (c.toNat % 16)) ∧ UInt8.ofNat (hexB (digU (c.toNat / 16)) * 16 + hexB (digU (c.toNat % 16))).toNat = c) := by decide +kernel
theorem esc_one (c : UInt8) : ((isWordB c || plainMarks.contains c) = true → (([47, 63, 61, 38] : List UInt8).contains c = false ∧ 33 ≤ c.toNat ∧ c.toNat ≤ 126 ∧ c.toNat ≠ 35 ∧ c.toNat ≠ 37)) ∧
    (0 ≤ hexB (digU (c.toNat / 16)) ∧ 0 ≤ hexB (digU (c.toNat % 16)) ∧ UInt8.ofNat (hexB (digU (c.toNat / 16)) * 16 + hexB (digU (c.toNat % 16))).toNat = c) := by
  have h := esc_tab ⟨c.toNat, c.toNat_lt⟩
  simp only [UInt8.ofNat_toNat] at h
  exact h
/-- What may end a part. -/
def Ends (ends : List UInt8) : Prop := ∀ c, ends.contains c = true → ([47, 63, 61, 38] : List UInt8).contains c = true
def Stops (ends rest : List UInt8) : Prop := rest = [] ∨ ∃ c r, rest = c :: r ∧ ends.contains c = true
theorem ends_not {ends : List UInt8} (h : Ends ends) {c : UInt8} (hc : ([47, 63, 61, 38] : List UInt8).contains c = false) : ends.contains c = false := by
  cases he : ends.contains c with
  | false => rfl
  | true => rw [h c he] at hc; cases hc
theorem partL_esc {ends rest : List UInt8} (hE : Ends ends) (hS : Stops ends rest) : ∀ (l : List UInt8) (n i : Nat) (acc : List UInt8), (l.flatMap escB).length < n → partL ends n (l.flatMap escB ++ rest) i acc = .inr (acc ++ l, i + (l.flatMap escB).length)
  | [], n, i, acc, hn => by
    cases n with
    | zero => cases hn
    | succ n =>
      rcases hS with rfl | ⟨c, r, rfl, hc⟩
      · simp [partL]
      · simp only [List.flatMap_nil, List.nil_append, List.append_nil, List.length_nil, Nat.add_zero]
        unfold partL
        rw [if_pos hc]
  | c :: l, n, i, acc, hn => by
    obtain ⟨h1, h2, h3, h4⟩ := esc_one c
    rw [List.flatMap_cons] at hn ⊢
    cases n with
    | zero => cases hn
    | succ n =>
      by_cases hp : (isWordB c || plainMarks.contains c) = true
      · obtain ⟨p1, p2, p3, p4, p5⟩ := h1 hp
        have e : escB c = [c] := by unfold escB; rw [if_pos hp]
        rw [e] at hn ⊢
        rw [List.append_assoc, List.singleton_append]
        unfold partL
        rw [if_neg (by rw [ends_not hE p1]; decide), if_neg (by omega), if_neg p5, partL_esc hE hS l n (i + 1) (acc ++ [c]) (by simp only [List.length_append, List.length_singleton] at hn; omega)]
        simp only [List.append_assoc, List.singleton_append, List.length_cons]
        rw [show i + 1 + (l.flatMap escB).length = i + ((l.flatMap escB).length + 1) by omega]
      · have e : escB c = [37, digU (c.toNat / 16), digU (c.toNat % 16)] := by unfold escB; rw [if_neg hp]
        rw [e] at hn ⊢
        show partL ends (n + 1) (37 :: digU (c.toNat / 16) :: digU (c.toNat % 16) :: (l.flatMap escB ++ rest)) i acc = _
        unfold partL
        rw [if_neg (by rw [ends_not hE (by decide)]; decide), if_neg (by decide), if_pos (by decide)]
        simp only
        rw [if_neg (by omega), h4, partL_esc hE hS l n (i + 3) (acc ++ [c]) (by simp only [List.length_append, List.length_cons, List.length_nil] at hn; omega)]
        simp only [List.append_assoc, List.singleton_append, List.length_append, List.length_cons, List.length_nil]
        rw [show i + 3 + (l.flatMap escB).length = i + (0 + 1 + 1 + 1 + (l.flatMap escB).length) by omega]
theorem txt_bl' (s : ByteArray) : txt (bl s) = s := by cases s; rfl
/-- A sound text. -/
def SoundT (t : ByteArray) : Prop := badI t < 0
theorem partS_esc {ends rest s : List UInt8} {t : ByteArray} {i : Nat} (hE : Ends ends) (hS : Stops ends rest) (hs : s.drop i = escL t ++ rest) (ht : SoundT t) : partS ends s i = .inr (t, i + (escL t).length) := by
  unfold partS
  have hl : (escL t).length < s.length + 1 := by
    have := congrArg List.length hs
    rw [List.length_drop, List.length_append] at this
    omega
  rw [hs]
  have h := partL_esc hE hS (bl t) (s.length + 1) i [] hl
  unfold escL
  rw [h, List.nil_append]
  show (if badI (txt (bl t)) < 0 then Sum.inr (txt (bl t), i + ((bl t).flatMap escB).length) else Sum.inl (7, i)) = _
  rw [txt_bl']
  exact if_pos ht
theorem ends_a : Ends [47, 63] := fun c h => by simp only [List.contains_cons, List.contains_nil, Bool.or_false, Bool.or_eq_true, beq_iff_eq] at h ⊢; (try simp only [h, true_or, or_true]); try (rcases h with h | h <;> simp [h])
theorem ends_b : Ends [61, 38] := fun c h => by simp only [List.contains_cons, List.contains_nil, Bool.or_false, Bool.or_eq_true, beq_iff_eq] at h ⊢; (try simp only [h, true_or, or_true]); try (rcases h with h | h <;> simp [h])
theorem ends_c : Ends [38] := fun c h => by simp only [List.contains_cons, List.contains_nil, Bool.or_false, Bool.or_eq_true, beq_iff_eq] at h ⊢; (try simp only [h, true_or, or_true]); try (rcases h with h | h <;> simp [h])
theorem drop_head {s r : List UInt8} {i : Nat} {c : UInt8} (h : s.drop i = c :: r) : s[i]? = some c ∧ s.drop (i + 1) = r ∧ i < s.length := by
  have h1 : s[i]? = some c := by
    have : (s.drop i)[0]? = some c := by rw [h]; rfl
    rw [List.getElem?_drop] at this
    simpa using this
  refine ⟨h1, ?_, ?_⟩
  · rw [← List.drop_drop, h]; rfl
  · rw [List.getElem?_eq_some_iff] at h1
    exact h1.1
theorem drop_more {s a r : List UInt8} {i : Nat} (h : s.drop i = a ++ r) : s.drop (i + a.length) = r := by
  rw [← List.drop_drop, h, List.drop_left']
  rfl
def slashL (l : List ByteArray) : List UInt8 := l.flatMap fun q => 47 :: escL q
theorem pathS_esc {s Q : List UInt8} (hQ : Q = [] ∨ ∃ r, Q = 63 :: r) : ∀ (l : List ByteArray) (n i : Nat) (acc : List ByteArray), (∀ t ∈ l, SoundT t) → s.drop i = slashL l ++ Q → (slashL l).length < n → ∃ k, pathS s n i acc = .inr (acc ++ l, k) ∧ s.drop k = Q
  | [], n, i, acc, _, hs, hn => by
    cases n with
    | zero => cases hn
    | succ n =>
      refine ⟨i, ?_, hs⟩
      unfold pathS
      have : s[i]? ≠ some 47 := by
        rcases hQ with e | ⟨r, e⟩
        · rw [e] at hs
          have hl : s.length ≤ i := List.drop_eq_nil_iff.1 hs
          rw [List.getElem?_eq_none hl]
          simp
        · rw [e] at hs
          rw [(drop_head (c := 63) (r := r) hs).1]
          decide
      rw [if_neg this, List.append_nil]
  | t :: l, n, i, acc, ht, hs, hn => by
    cases n with
    | zero => cases hn
    | succ n =>
      have e : slashL (t :: l) = 47 :: (escL t ++ slashL l) := rfl
      rw [e] at hs hn
      rw [List.cons_append, List.append_assoc] at hs
      obtain ⟨h1, h2, _⟩ := drop_head hs
      unfold pathS
      have hst : Stops [47, 63] (slashL l ++ Q) := by
        cases l with
        | nil =>
          rcases hQ with e | ⟨r, e⟩
          · exact .inl (by rw [e]; rfl)
          · exact .inr ⟨63, r, by rw [e]; rfl, by decide⟩
        | cons u l => exact .inr ⟨47, escL u ++ slashL l ++ Q, rfl, by decide⟩
      rw [if_pos h1, partS_esc ends_a hst h2 (ht t (by simp))]
      simp only
      simp only [List.length_cons, List.length_append] at hn
      obtain ⟨k, hk, hd⟩ := pathS_esc hQ l n (i + 1 + (escL t).length) (acc ++ [t]) (fun u hu => ht u (by simp [hu])) (drop_more h2) (by omega)
      exact ⟨k, by rw [hk]; simp, hd⟩
theorem paramS_esc {s rest : List UInt8} {p : ByteArray × ByteArray} {i : Nat} (h1 : SoundT p.1) (h2 : SoundT p.2) (hR : rest = [] ∨ ∃ r, rest = 38 :: r) (hs : s.drop i = parmL p ++ rest) : paramS s i = .inr (p, i + (parmL p).length) := by
  unfold parmL at hs ⊢
  rw [List.append_assoc, List.cons_append] at hs
  unfold paramS
  rw [partS_esc ends_b (.inr ⟨61, escL p.2 ++ rest, rfl, by decide⟩) hs h1]
  simp only
  obtain ⟨e1, e2, _⟩ := drop_head (drop_more hs)
  have hst : Stops [38] rest := by
    rcases hR with e | ⟨r, e⟩
    · exact .inl e
    · exact .inr ⟨38, r, e, by decide⟩
  rw [if_pos e1, partS_esc ends_c hst e2 h2]
  simp only [List.length_append, List.length_cons]
  rw [show i + (escL p.1).length + 1 + (escL p.2).length = i + ((escL p.1).length + ((escL p.2).length + 1)) by omega]
def ampL (l : List (ByteArray × ByteArray)) : List UInt8 := l.flatMap fun q => 38 :: parmL q
theorem queryS_esc {s : List UInt8} : ∀ (l : List (ByteArray × ByteArray)) (p : ByteArray × ByteArray) (n i : Nat) (acc : List (ByteArray × ByteArray)), SoundT p.1 → SoundT p.2 → (∀ t ∈ l, SoundT t.1 ∧ SoundT t.2) → s.drop i = parmL p ++ ampL l → (parmL p ++ ampL l).length < n → queryS s n i acc = .inr (acc ++ p :: l)
  | [], p, n, i, acc, h1, h2, _, hs, hn => by
    cases n with
    | zero => cases hn
    | succ n =>
      unfold queryS
      rw [paramS_esc h1 h2 (.inl rfl) hs]
      simp only
      have hd : s.drop (i + (parmL p).length) = [] := drop_more hs
      rw [if_neg (by rw [List.getElem?_eq_none (List.drop_eq_nil_iff.1 hd)]; simp)]
  | q :: l, p, n, i, acc, h1, h2, h3, hs, hn => by
    cases n with
    | zero => cases hn
    | succ n =>
      unfold queryS
      rw [paramS_esc h1 h2 (.inr ⟨_, rfl⟩) hs]
      simp only
      have hd : s.drop (i + (parmL p).length) = 38 :: (parmL q ++ ampL l) := drop_more hs
      obtain ⟨e1, e2, _⟩ := drop_head hd
      rw [if_pos e1, queryS_esc l q n _ (acc ++ [p]) (h3 q (by simp)).1 (h3 q (by simp)).2 (fun t ht => h3 t (by simp [ht])) e2 (by
        have e : ampL (q :: l) = 38 :: (parmL q ++ ampL l) := rfl
        rw [e] at hn
        simp only [List.length_append, List.length_cons] at hn ⊢
        omega)]
      simp
/-- Parts come back from their target. -/
theorem split_join {path : List ByteArray} {query : List (ByteArray × ByteArray)} (h0 : path ≠ []) (h1 : ∀ t ∈ path, SoundT t) (h2 : ∀ t ∈ query, SoundT t.1 ∧ SoundT t.2) : splitS (joinS path query) = .inr (path, query) := by
  have hj : joinS path query = slashL path ++ queryL query := by
    cases path with
    | nil => exact absurd rfl h0
    | cons p r => unfold joinS pathL slashL; simp
  have hQ : queryL query = [] ∨ ∃ r, queryL query = 63 :: r := by
    cases query with
    | nil => exact .inl rfl
    | cons p r => exact .inr ⟨_, rfl⟩
  generalize hs : joinS path query = s at hj
  unfold splitS
  obtain ⟨k, hk, hd⟩ := pathS_esc (s := s) hQ path (s.length + 1) 0 [] h1 hj (by rw [hj, List.length_append]; omega)
  rw [hk, List.nil_append]
  cases path with
  | nil => exact absurd rfl h0
  | cons p r =>
    simp only
    cases query with
    | nil =>
      have : s[k]? = none := List.getElem?_eq_none (List.drop_eq_nil_iff.1 hd)
      rw [if_pos (.inl (by rw [this]; simp))]
    | cons q l =>
      have hd2 : s.drop k = 63 :: (parmL q ++ ampL l) := hd
      obtain ⟨e1, e2, e3⟩ := drop_head hd2
      have hlen := congrArg List.length e2
      have hpos : 0 < (parmL q).length := by unfold parmL; rw [List.length_append, List.length_cons]; omega
      rw [List.length_drop, List.length_append] at hlen
      rw [if_neg (by
        rintro (h | h)
        · exact h e1
        · omega), queryS_esc l q (s.length + 1) (k + 1) [] (h2 q (by simp)).1 (h2 q (by simp)).2 (fun t ht => h2 t (by simp [ht])) e2 (by rw [List.length_append]; omega)]
      simp
end Go.Proofs.YtbehakabglegjaaGreatDoor
namespace Go.Proofs.YtbehakabglegjaaGreatDoor
open Go.RowKit
set_option linter.unusedVariables false
set_option linter.unusedSimpArgs false
/-- A feed that stands between two messages. -/
def BkI (ans : Bool) (g : Nat) (k : Nat) (w : World) : Prop := ∃ (G : Fs) (nx tk hs bd wh : Value) (L : List Mm), FdM ⟨g, fun _ => False⟩ g G nx tk hs bd wh L w ∧ nx = stepV G.next ∧ FI G ∧ HZ G ∧ Idle G ∧ G.ans = ans ∧ G.pos ≤ k * 73728
theorem BkI.later {ans : Bool} {g k : Nat} {w w' : World} (h : BkI ans g k w) (hb : Below w.heap.size w w') : BkI ans g k w' := by
  obtain ⟨G, nx, tk, hs, bd, wh, L, h1, h2⟩ := h
  exact ⟨G, nx, tk, hs, bd, wh, L, h1.later hb, h2⟩
theorem BkI.up {ans : Bool} {g k : Nat} {w : World} (h : BkI ans g k w) : BkI ans g (k + 1) w := by
  obtain ⟨G, nx, tk, hs, bd, wh, L, h1, h2, h3, h4, h5, h6, h7⟩ := h
  exact ⟨G, nx, tk, hs, bd, wh, L, h1, h2, h3, h4, h5, h6, Nat.le_trans h7 (Nat.mul_le_mul_right _ (Nat.le_succ k))⟩
theorem writeS_len {m : Ms} {bs : List UInt8} (h : writeS m = (0, bs)) : bs.length ≤ 73728 ∧ m.heads.length < 64 ∧ m.body.length ≤ 65536 := by
  unfold writeS at h
  split at h
  · injection h with h _; exact absurd h (by decide)
  · split at h
    · injection h with h _; exact absurd h (by decide)
    · rename_i h2
      split at h
      · injection h with h _; exact absurd h (by decide)
      · injection h with _ h
        rw [← h, List.length_append]
        omega
theorem BkI.fed {ans : Bool} {g k : Nat} {wr w3 : World} {b : Value} {bs : List UInt8} {m : Ms} (h : BkI ans g k wr) (hb : Below wr.heap.size wr w3) (ho : OwnM w3 wr.heap.size b bs) (hv : writeS m = (0, bs)) (ha : ans = decide (m.meth.size = 0)) (hk : k ≤ 1048576) :
    ∃ (G : Fs) (nx tk hs bd wh : Value) (L : List Mm) (G2 : Fs), FdM ⟨g, fun q => b.ownBlock = some q⟩ g G nx tk hs bd wh L w3 ∧ nx = stepV G.next ∧ FI G ∧ HZ G ∧ G.pos + bs.length ≤ 4611686018427387904 ∧ bs.length ≤ 73728 ∧ feedS G bs = .inl G2 ∧ G2.whole = [{ m with heads := m.heads ++ [lenH m.body.length] }] ∧
      (∀ w', Bl ⟨g, fun q => b.ownBlock = some q⟩ w3 w' → BtAt w' b bs) ∧ ∀ w5 nx tk hs bd wh L, FdM ⟨g, fun q => b.ownBlock = some q⟩ g G2 nx tk hs bd wh L w5 → nx = stepV G2.next → FI G2 → HZ G2 → BkI ans g (k + 1) w5 := by
  obtain ⟨G, nx, tk, hs, bd, wh, L, h1, h2, h3, h4, h5, h6, h7⟩ := h
  obtain ⟨hl1, _, _⟩ := writeS_len hv
  obtain ⟨G2, e1, e2, e3, e4⟩ := back_one (f := { G with whole := [] }) hv ⟨by have := h5.beg; unfold Fs.begin at this ⊢; simp only at this ⊢; have e := congrArg (fun f : Fs => ({ f with whole := [] } : Fs)) this; exact e, h5.shut⟩ (by show G.ans = _; rw [h6]; exact ha)
  have hd := h1.later hb
  have hav : ∀ q, b.ownBlock = some q → q < w3.heap.size ∧ ¬ Live g tk hs bd wh q := fun q e => by
    obtain ⟨k1, k2, _⟩ := ho.lt q e
    exact ⟨k2, fun y => by have := h1.live q y; omega⟩
  have hpos := ((run_count bs { G with whole := [] } h3.drop h4).1 G2 e1).2.2.2.2
  refine ⟨G, nx, tk, hs, bd, wh, L, G2, hd.lets hav, h2, h3, h4, (by have hk2 : k * 73728 ≤ 1048576 * 73728 := Nat.mul_le_mul_right _ hk; omega), hl1, e1, by rw [e4]; rfl, fun w' hbl => ?_, fun w5 nx5 tk5 hs5 bd5 wh5 L5 k1 k2 k3 k4 => ?_⟩
  · have hbs : Bes (fun q => b.ownBlock ≠ some q) w3 w' := hbl.as_bes (fun q _ hn => Classical.byContradiction hn)
    exact ho.bt.bes hbs (fun q e y => y e)
  · exact ⟨G2, nx5, tk5, hs5, bd5, wh5, L5, k1.lets (fun q h => h.elim), k2, k3, k4, e2, e3.trans h6, by
      change G2.pos = G.pos + bs.length at hpos
      rw [hpos, Nat.succ_mul]
      exact Nat.add_le_add h7 hl1⟩
/-- The one message that came. -/
theorem back_got {base : Bs} {g : Nat} {G : Fs} {nx tk hs bd wh : Value} {L : List Mm} {w : World} {M : Ms} (h : FdM base g G nx tk hs bd wh L w) (hw : G.whole = [M]) :
    ∃ mb mc y, wh = .slice (some ⟨mb, 0, none⟩) 1 mc ∧ y.m = M ∧ MgB w y ∧ CapOk y.hs ∧ w.rangeAt mb 0 y.cells.toList := by
  have hl := h.2.wl
  rw [hw] at hl
  have hl1 : L.length = 1 := by
    have := congrArg List.length hl
    simpa using this
  obtain ⟨y, rfl⟩ := List.length_eq_one_iff.1 hl1
  have hy : y.m = M := by simpa using hl
  obtain ⟨A, c, e1, hcells⟩ := h.mms
  obtain ⟨mb, off, e2, h1, h2⟩ := hcells 0 y rfl
  obtain ⟨A2, c2, e3, hc2⟩ := own_slice h.2.rw_
  obtain ⟨b2, e4, _⟩ := hc2 0 (.string y.m.meth) rfl
  rw [e1] at e3
  injection e3 with e5 _ e6
  rw [← e5, e2] at e4
  injection e4 with e4
  injection e4 with e7 e8
  subst e8
  refine ⟨mb, c, y, by rw [e1, e2]; rfl, hy, h2, (h.2.ms y (by simp)).1.2.2.2.2.2.2.2, ?_⟩
  simpa using h1
theorem zeroMg (w : World) : (zeroValue 25).run Tryz.prog w = .ok (.agg zeroM) w := by kernel_rfl
def sndB (t : ByteArray) : Bool := decide (badI t < 0)
theorem all_next {α : Type} {l : List α} {i : Nat} {a : α} (P : α → Bool) (h : l[i]? = some a) : (l.take (i + 1)).all P = ((l.take i).all P && P a) := by
  rw [List.take_add_one, h]
  simp [List.all_append]
theorem join_len (path : List ByteArray) (query : List (ByteArray × ByteArray)) : (joinS path query).length ≤ 1 + (path.map pSz).sum + (query.map qSz).sum := by
  have h1 := pathL_le path
  have h2 := queryL_le query
  unfold joinS
  rw [List.length_append, List.length_cons]
  omega
theorem lenT_is : txt lengthL = (⟨#[67, 111, 110, 116, 101, 110, 116, 45, 76, 101, 110, 103, 116, 104]⟩ : ByteArray) := by decide +kernel
end Go.Proofs.YtbehakabglegjaaGreatDoor
