/- Layer 9: rows of bytes that a conversion made; a text in small letters; two texts that are alike but for their cases. -/
import Derived.Lib.AtoiErrMem
import Derived.Lib.BufferMore
import Derived.Test.YtbehakabglegjaaGreatDoorQ07
import Derived.Test.YtbehakabglegjaaGreatDoorQZip
namespace Go.Proofs.YtbehakabglegjaaGreatDoor
open Go.RowKit Go.PlainAid
set_option linter.unusedVariables false
set_option linter.unusedSimpArgs false
set_option maxRecDepth 100000
/-- A row of bytes that may be written, whatever its mark. -/
def BR (w : World) (g : Nat) (l : List UInt8) : Prop := ∃ (cs : Array Value) (fr : Nat × Nat), w.heap[g]? = some (.cells cs 5 fr) ∧ l.length ≤ fr.1 ∧ ∀ (j : Nat) (u : UInt8), l[j]? = some u → cs[j]? = some (Value.int .u8 (u.toNat : Int))
theorem BR.cell {w : World} {g : Nat} {l : List UInt8} (h : BR w g l) {j : Nat} {u : UInt8} (hu : l[j]? = some u) : w.cell? ⟨g, j, none⟩ = some (.int .u8 (u.toNat : Int)) := by
  obtain ⟨cs, fr, h1, _, h3⟩ := h
  unfold World.cell?
  simp [h1, h3 j u hu]
theorem BR.lt {w : World} {g : Nat} {l : List UInt8} (h : BR w g l) : g < w.heap.size := by
  obtain ⟨cs, fr, h1, _⟩ := h
  exact (Array.getElem?_eq_some_iff.1 h1).1
theorem BR.below {w w' : World} {g : Nat} {l : List UInt8} (h : BR w g l) (hb : Below w.heap.size w w') : BR w' g l := by
  have hl := h.lt
  obtain ⟨cs, fr, h1, h2⟩ := h
  exact ⟨cs, fr, (hb.block g hl).trans h1, h2⟩
theorem BR.there {w : World} {g : Nat} {l : List UInt8} (h : BR w g l) {i : Nat} (hi : i < l.length) : w.there g i 1 := fun j hj => by
  obtain rfl : j = 0 := by omega
  refine ⟨?_, ?_⟩
  · rw [Nat.add_zero, h.cell (List.getElem?_eq_getElem hi)]; rfl
  · obtain ⟨cs, fr, h1, h2, _⟩ := h
    unfold World.frozen?
    simp [h1]
    omega
section
variable {ops : Array Oper} {rest : List Oper} {o : Oper} {a : Act} {w : World} {Q : Exit → Act → World → Prop}
theorem BR.set {g : Nat} {l : List UInt8} (h : BR w g l) {i : Nat} (c : UInt8) : BR (w.setCells g i [.int .u8 (c.toNat : Int)]) g (l.set i c) := by
  obtain ⟨cs, fr, h1, h2, h3⟩ := h
  refine ⟨cs.setIfInBounds i (.int .u8 (c.toNat : Int)), fr, ?_, by rw [List.length_set]; exact h2, fun j u hu => ?_⟩
  · show (w.setCell ⟨g, i, none⟩ _).heap[g]? = _
    exact Lib.heap_setCell_same h1 _
  · rw [List.getElem?_set] at hu
    rw [Array.getElem?_setIfInBounds]
    split at hu
    · rename_i hij
      subst hij
      split at hu
      · rename_i hl
        obtain rfl := Option.some.inj hu
        have h4 := h3 i _ (List.getElem?_eq_getElem hl)
        rw [if_pos rfl, if_pos (Array.getElem?_eq_some_iff.1 h4).1]
      · cases hu
    · rename_i hij
      rw [if_neg hij]
      exact h3 j u hu
theorem wpl_store_br (hgd : o.guard = none) (x y : Operand) (ho : o.op = .store 5 x y) {g i : Nat} {l : List UInt8} (h : BR w g l) (hi : i < l.length) (c : UInt8) (hx : a.eval x = .pointer (some ⟨g, i, none⟩)) (hy : a.eval y = .int .u8 (c.toNat : Int))
    (hQ : ∀ w', BR w' g (l.set i c) → Below g w w' → wpList Tryz.prog ops Q rest (a.put o.dst undef) w') : wpList Tryz.prog ops Q (o :: rest) a w :=
  wpList_plain hgd fun _ hK => by
    have hrun : (storeVar 5 ⟨g, i, none⟩ (.int .u8 (c.toNat : Int))).run Tryz.prog w = .ok () (w.setCells g i [.int .u8 (c.toNat : Int)]) := by
      have := run_storeVar_mid (P := Tryz.prog) w g i 5 #[.int .u8 (c.toNat : Int)] (h.there hi) (by kernel_rfl) (by simp [Value.oneCell'])
      unfold storeVar at this ⊢
      exact this
    have hK2 := hK _ _ (hQ _ (h.set c) ((Below.refl g w).setCell (p := ⟨g, i, none⟩) (Nat.le_refl _) _))
    generalize hP : Tryz.prog = P at *
    unfold Oper.wp execOp
    simp only [ho, hx, hy, Instr.storeAt, Instr.sureAddr, Sem.run_bind, Sem.run_pure, Result.andThen_ok, hrun]
    exact hK2
/-- A text's bytes in a new row. -/
theorem wpl_bytes_of (hgd : o.guard = none) (x : Operand) (ho : o.op = .convert 9 23 x) (s : ByteArray) (hx : a.eval x = .string s)
    (hQ : ∀ w' c, BR w' w.heap.size s.data.toList → Below w.heap.size w w' → wpList Tryz.prog ops Q rest (a.put o.dst (.slice (some ⟨w.heap.size, 0, none⟩) s.size c)) w') : wpList Tryz.prog ops Q (o :: rest) a w :=
  wpList_plain hgd fun _ hK => by
    have e := Lib.run_convert_string_bytes (P := Tryz.prog) w 9 23 5 s Tryz.underlying9 Tryz.underlying23 Tryz.underlying5
    have hr : BR (Lib.bytesWorld w 5 s) w.heap.size s.data.toList := ⟨_, _, Lib.bytesWorld_at_new w 5 s, by
      show s.data.toList.length ≤ (Lib.bytesCells w 5 s).size
      unfold Lib.bytesCells
      rw [Array.size_append, Array.size_map]
      have : s.data.toList.length = s.data.size := rfl
      omega, fun j u hu => by
      have hj := (List.getElem?_eq_some_iff.1 hu).1
      have hj2 : j < s.data.size := by simpa using hj
      unfold Lib.bytesCells
      rw [Array.getElem?_append_left (by rw [Array.size_map]; exact hj2), Array.getElem?_map]
      rw [Array.getElem?_toList] at hu
      rw [hu]
      rfl⟩
    have hb : Below w.heap.size w (Lib.bytesWorld w 5 s) := Lib.bytesWorld_below w 5 s
    generalize Lib.bytesWorld w 5 s = w9 at *
    generalize hP : Tryz.prog = P at *
    unfold Oper.wp execOp
    simp only [ho, hx, Sem.run_bind, e, Result.andThen_ok, Sem.run_pure]
    exact hK _ _ (hQ w9 _ hr hb)
/-- A row of bytes as a text. -/
theorem wpl_text_of (hgd : o.guard = none) (x : Operand) (ho : o.op = .convert 23 9 x) {g n c : Nat} {l : List UInt8} (h : BR w g l) (hn : n = l.length) (hx : a.eval x = .slice (some ⟨g, 0, none⟩) n c)
    (hQ : wpList Tryz.prog ops Q rest (a.put o.dst (.string ⟨l.toArray⟩)) w) : wpList Tryz.prog ops Q (o :: rest) a w :=
  wpList_plain hgd fun _ hK => by
    subst hn
    have e := run_convert_bytes_back (P := Tryz.prog) w 23 9 5 ⟨g, 0, none⟩ c l Tryz.underlying23 Tryz.underlying5 Tryz.underlying9 (fun j hj => by
      have hadd : (⟨g, 0, none⟩ : Addr).add j = ⟨g, j, none⟩ := by unfold Addr.add; split <;> simp_all
      rw [hadd]
      exact h.cell (List.getElem?_eq_getElem hj))
    generalize hP : Tryz.prog = P at *
    unfold Oper.wp execOp
    simp only [ho, hx, Sem.run_bind, e, Result.andThen_ok, Sem.run_pure]
    exact hK _ _ hQ
end
/-- The first i bytes made small. -/
def lowTo (l : List UInt8) (i : Nat) : List UInt8 := lowL (l.take i) ++ l.drop i
theorem lowTo_len (l : List UInt8) (i : Nat) : (lowTo l i).length = l.length := by
  unfold lowTo lowL
  rw [List.length_append, List.length_map, ← List.length_append, List.take_append_drop]
theorem lowTo_get {l : List UInt8} {i : Nat} (hi : i < l.length) : (lowTo l i)[i]? = some l[i] := by
  unfold lowTo lowL
  rw [List.getElem?_append_right (by rw [List.length_map, List.length_take]; omega), List.getElem?_drop, List.length_map, List.length_take, ← List.getElem?_eq_getElem hi]
  congr 1
  omega
theorem lowTo_next {l : List UInt8} {i : Nat} (hi : i < l.length) : lowTo l (i + 1) = (lowTo l i).set i (lowB l[i]) := by
  apply List.ext_getElem?
  intro k
  have hl := lowTo_len l i
  rw [List.getElem?_set, hl]
  unfold lowTo lowL
  by_cases h1 : i = k
  · subst h1
    rw [if_pos rfl, if_pos (by omega), List.getElem?_append_left (by rw [List.length_map, List.length_take]; omega), List.getElem?_map, List.getElem?_take, if_pos (by omega), List.getElem?_eq_getElem hi]
    rfl
  · rw [if_neg h1]
    by_cases h2 : k < i
    · rw [List.getElem?_append_left (by rw [List.length_map, List.length_take]; omega), List.getElem?_append_left (by rw [List.length_map, List.length_take]; omega), List.getElem?_map, List.getElem?_map, List.getElem?_take, List.getElem?_take, if_pos (by omega), if_pos h2]
    · rw [List.getElem?_append_right (by rw [List.length_map, List.length_take]; omega), List.getElem?_append_right (by rw [List.length_map, List.length_take]; omega), List.length_map, List.length_map, List.length_take, List.length_take, List.getElem?_drop, List.getElem?_drop]
      congr 1
      omega
theorem lowTo_all (l : List UInt8) : lowTo l l.length = lowL l := by unfold lowTo; rw [List.take_length, List.drop_length, List.append_nil]
theorem lowB_up {c : UInt8} (h1 : 65 ≤ c.toNat) (h2 : c.toNat ≤ 90) : ((lowB c).toNat : Int) = (c.toNat : Int) + 32 := by
  unfold lowB
  rw [if_pos (by simp [h1, h2]), UInt8.toNat_add]
  have : (32 : UInt8).toNat = 32 := rfl
  omega
theorem lowB_same {c : UInt8} (h : ¬ (65 ≤ c.toNat ∧ c.toNat ≤ 90)) : lowB c = c := by
  unfold lowB
  rw [if_neg (by simp; omega)]
theorem set_same {l : List UInt8} {i : Nat} {c : UInt8} (h : l[i]? = some c) : l.set i c = l := by
  apply List.ext_getElem?
  intro k
  rw [List.getElem?_set]
  split
  · rename_i e; subst e
    rw [if_pos (List.getElem?_eq_some_iff.1 h).1, h]
  · rfl
set_option maxHeartbeats 4000000 in
theorem lower_any (s : ByteArray) (w : World) (hs : s.size ≤ 9223372036854775806) : Calls Tryz.prog 66 #[.string s] w fun e w' => e = .returned (.string (txt (lowL s.data.toList))) ∧ Below w.heap.size w w' := by
  have hlen : s.data.toList.length = s.size := rfl
  have hlow : ∀ i, (lowTo s.data.toList i).length = s.size := fun i => lowTo_len _ _
  have hll : (lowL s.data.toList).length = s.size := by unfold lowL; rw [List.length_map]; rfl
  have hlr : lowTo s.data.toList s.size = lowL s.data.toList := lowTo_all _
  have HG : Hid (∀ i, i < s.size → ∃ c, (lowTo s.data.toList i)[i]? = some c ∧ lowTo s.data.toList (i + 1) = (lowTo s.data.toList i).set i (lowB c)) := Lib.hid fun i hi => ⟨_, lowTo_get hi, lowTo_next hi⟩
  have H0 : lowTo s.data.toList 0 = s.data.toList := by simp [lowTo, lowL]
  have HLL := Lib.hid hll
  have HLR := Lib.hid hlr
  have HLO := Lib.hid hlow
  have HH0 := Lib.hid H0
  clear hlen hlow hll hlr H0
  go_enter Tryz.func66, Tryz.ntmps66
  go_wp2_with ((with_reducible refine is_convert ?_); refine wpl_bytes_of rfl (.tmp 6) rfl s rfl ?_; intro w1 c1 B hb)
  go_loopw [10, 4, 5] (fun iv kv cv wr => ∃ i : Nat, iv = .int .i64 (i : Int) ∧ i ≤ s.size ∧ BR wr w.heap.size (lowTo s.data.toList i) ∧ Below w.heap.size w wr) (fun iv _ _ _ => match iv with | .int _ i => (s.size - i.toNat) | _ => 0)
  case atStart => exact ⟨0, rfl, Nat.zero_le _, by rw [HH0.out]; exact B, hb⟩
  case round =>
    obtain ⟨i, rfl, hi, B, HB⟩ := hrel
    by_cases hlt : i < s.size
    · obtain ⟨c, hget, hnx⟩ := HG.out i hlt
      have hc := B.cell hget
      have HGT := Lib.hid hget
      clear hget
      by_cases h1 : 65 ≤ c.toNat ∧ c.toNat ≤ 90
      · have HUP := Lib.hid (lowB_up h1.1 h1.2)
        obtain ⟨a1, a2⟩ := h1
        have HN := Lib.hid hnx
        clear hnx
        go_wp2_with ((with_reducible refine is_store ?_); refine wpl_store_br rfl (.tmp 26) (.tmp 25) rfl B (by rw [HLO.out]; exact hlt) (lowB c) rfl (by rw [HUP.out]; show Value.int .u8 ((c.toNat : Int) + 97 - 65) = _; congr 1; omega) ?_; intro w3 B3 hb3; replace B := B3; replace HB := HB.trans hb3; clear B3 hb3)
        go_roundw
        case rel => exact ⟨i + 1, rfl, by omega, HN.out ▸ B, HB⟩
        case measure => (simp only; omega)
      · have hsm : lowTo s.data.toList (i + 1) = lowTo s.data.toList i := by rw [hnx, lowB_same h1]; exact set_same HGT.out
        have HN := Lib.hid hsm
        clear hnx hsm
        by_cases a1 : 65 ≤ c.toNat <;> by_cases a2 : c.toNat ≤ 90
        all_goals first
          | (exfalso; omega)
          | skip
        all_goals
          clear h1
          go_wp2
          go_roundw
          case rel => exact ⟨i + 1, rfl, by omega, HN.out ▸ B, HB⟩
          case measure => (simp only; omega)
    · obtain rfl : i = s.size := by omega
      rw [HLR.out] at B
      go_wp2_with ((with_reducible refine is_convert ?_); refine wpl_text_of rfl (.tmp 28) rfl B HLL.out.symm rfl ?_)
      go_ret
      exact ⟨rfl, HB⟩
theorem alike_any (a b : ByteArray) (w : World) (ha : a.size ≤ 9223372036854775806) (hb : b.size ≤ 9223372036854775806) : Calls Tryz.prog 36 #[.string a, .string b] w fun e w' => e = .returned (.bool (alikeB a.data.toList b.data.toList)) ∧ Below w.heap.size w w' := by
  have HA : Hid ((lowL a.data.toList == lowL b.data.toList) = alikeB a.data.toList b.data.toList) := Lib.hid rfl
  have HX := Lib.hid (lower_any a w ha)
  generalize lowL a.data.toList = x at *
  have HY := Lib.hid (fun w1 => lower_any b w1 hb)
  generalize lowL b.data.toList = y at *
  go_enter Tryz.func36, Tryz.ntmps36
  go_wp2_with (first
    | (go_at_call 66; (with_reducible refine HX.out.mono ?_); rintro e w1 ⟨rfl, hb1⟩)
    | (go_at_call 66; (with_reducible refine (HY.out _).mono ?_); rintro e w2 ⟨rfl, hb2⟩))
  all_goals
    go_ret
    exact ⟨ret_bool (by rw [← HA.out, Bool.eq_iff_iff]; simp [ba_toList, txt]), zT hb1 hb2⟩
end Go.Proofs.YtbehakabglegjaaGreatDoor
