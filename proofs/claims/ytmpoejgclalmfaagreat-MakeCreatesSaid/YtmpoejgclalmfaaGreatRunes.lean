/- The library's strings.IndexRune and ContainsRune at a rune that is not ASCII, in an ASCII text: not found. -/
import Derived.Test.YtmpoejgclalmfaaGreatBase
import Derived.Test.YtmpoejgclalmfaaGreatShelf
import Derived.Deep.QuietTactic
import Derived.Deep.LoopGhost
import Derived.Laws.Runes
import Derived.PlainAid
import Derived.LoopN
namespace Go.Proofs.YtmpoejgclalmfaaGreat
open Go.RowKit Go.PlainAid
set_option linter.unusedVariables false

theorem enc_form (c : Int) (h0 : 128 ≤ c) : ∃ (pre : Array UInt8) (b : UInt8), Utf8.encode c = ⟨pre.push b⟩ ∧ 1 ≤ pre.size ∧ pre.size ≤ 3 ∧ 128 ≤ b.toNat := by
  unfold Utf8.encode
  simp only []
  generalize hx : (if Utf8.valid c = true then c.toNat else Utf8.runeError) = x
  have hx' : 128 ≤ x := by
    rw [← hx]
    split
    · omega
    · decide
  have hn : ¬ x < 128 := by omega
  have hb : 128 ≤ (UInt8.ofNat (128 + x % 64)).toNat := by simp; omega
  simp only [hn, if_false]
  split
  · exact ⟨#[_], _, rfl, by simp, by simp, hb⟩
  · split
    · exact ⟨#[_, _], _, rfl, by simp, by simp, hb⟩
    · exact ⟨#[_, _, _], _, rfl, by simp, by simp, hb⟩
theorem enc_size (c : Int) (h0 : 128 ≤ c) : 2 ≤ (Utf8.encode c).size ∧ (Utf8.encode c).size ≤ 4 := by
  obtain ⟨pre, b, he, h1, h2, _⟩ := enc_form c h0
  rw [he]
  have : (ByteArray.mk (pre.push b)).size = pre.size + 1 := by simp [ByteArray.size]
  omega
theorem enc_last (c : Int) (h0 : 128 ≤ c) (h : (Utf8.encode c).size - 1 < (Utf8.encode c).size) : 128 ≤ ((Utf8.encode c)[(Utf8.encode c).size - 1]'h).toNat := by
  obtain ⟨pre, b, he, h1, h2, hb⟩ := enc_form c h0
  have hs : (ByteArray.mk (pre.push b)).size = pre.size + 1 := by simp [ByteArray.size]
  have : ∀ (s : ByteArray) (hs : s = ⟨pre.push b⟩) (h : s.size - 1 < s.size), (s[s.size - 1]'h) = b := by
    intro s hs h
    subst hs
    have e2 : ∀ h, (pre.push b)[(pre.push b).size - 1]'h = b := by intro h; simp
    exact e2 _
  rw [this _ he h]
  exact hb

set_option maxRecDepth 100000 in
theorem indexRune_bad (s : ByteArray) (c : Int) (w : World) (h0 : 128 ≤ c) (hne : (c == 65533) = false) (hv : Lib.validRune c = false) :
    Calls Tryz.prog 52 #[.string s, .int .i32 c] w fun e w' => e = .returned (.int .i64 (-1)) ∧ w = w' := by
  have HV := Lib.hid hv
  clear hv
  go_enter Tryz.func52, Tryz.ntmps52
  go_wp2_with (go_at_call 65; refine (Tryz.utf8_ValidRune _ _).mono ?_; rintro e w' ⟨rfl, rfl⟩; rw [HV.out])
  go_ret
  exact ⟨rfl, rfl⟩

theorem far_none (l : List UInt8) (c : UInt8) (h : ∀ b ∈ l, b.toNat < 128) (hc : 128 ≤ c.toNat) : Lib.indexByte l c = -1 := by
  induction l with
  | nil => rfl
  | cons b l ih =>
    unfold Lib.indexByte
    have hne : (b == c) = false := by
      rw [beq_eq_false_iff_ne]
      rintro rfl
      have := h b (by simp)
      omega
    rw [hne, ih (fun x hx => h x (List.mem_cons_of_mem _ hx))]
    rfl

theorem idx_far (s : ByteArray) (a b : Nat) (c : Int) (w : World) (ha : ∀ x ∈ s.data.toList, x.toNat < 128) (h0 : 128 ≤ c) (h1 : c ≤ 255) :
    Calls Tryz.prog 64 #[.string (s.extract a b), .int .u8 c] w fun e w' => e = .returned (.int .i64 (-1)) ∧ w' = w := by
  refine (Tryz.strings_IndexByte (s.extract a b) c w).mono fun e w' ⟨he, hw⟩ => ⟨?_, hw⟩
  rw [he, far_none]
  · intro x hx
    rw [Lib.extract_data] at hx
    exact ha x (List.mem_of_mem_drop (List.mem_of_mem_take hx))
  · have : c.toNat.toUInt8.toNat = c.toNat := by simp; omega
    rw [this]; omega

set_option maxRecDepth 100000 in
theorem indexRune_far (s : ByteArray) (c : Int) (w : World) (h0 : 128 ≤ c) (h1 : c ≤ 2147483647) (hne : (c == 65533) = false) (hv : Lib.validRune c = true) (hs : s.size ≤ 140737488355328) (hs4 : 4 ≤ s.size) (ha : ∀ x ∈ s.data.toList, x.toNat < 128) :
    Calls Tryz.prog 52 #[.string s, .int .i32 c] w fun e w' => e = .returned (.int .i64 (-1)) ∧ ∃ n, w' = w.drewN n := by
  have HV := Lib.hid hv
  clear hv
  obtain ⟨g1, g2⟩ := enc_size c h0
  obtain ⟨n, hn⟩ : ∃ n, (Utf8.encode c).size = n + 1 := ⟨(Utf8.encode c).size - 1, by omega⟩
  have hlast : 128 ≤ bt (Utf8.encode c) n := by
    unfold bt
    have hh := enc_last c h0 (by omega)
    simp only [hn, Nat.add_sub_cancel] at hh
    rw [dif_pos (by omega)]
    omega
  have hlast2 := bt_le (Utf8.encode c) n
  have hfirst : bt s n < 128 := by
    unfold bt
    rw [dif_pos (by omega)]
    have := ha (s[n]'(by omega)) (by simp [ByteArray.getElem_eq_getElem_data])
    omega
  have hdiff : (bt s n != bt (Utf8.encode c) n) = true := by rw [bne_iff_ne]; omega
  have HA := Lib.hid ha
  clear ha
  have hb1 := get_bt s
  have hb2 := get_bt (Utf8.encode c)
  have hn3 : n ≤ 3 := by omega
  have hlt : decide (n < s.size) = true := decide_eq_true (by omega)
  go_enter Tryz.func52, Tryz.ntmps52
  go_wp2_with (go_at_call 65; refine (Tryz.utf8_ValidRune _ _).mono ?_; rintro e w' ⟨rfl, rfl⟩; rw [HV.out])
  go_step3
  go_wp2_with fail
  refine wp_loop_rounds 1 ?_
  rw [rounds_succ]
  go_wp2_with fail
  go_step3
  go_wp2_with fail
  go_quiet (fail)
  go_wp2_with fail
  have k1 : IntKind.i64.wrap ((n : Int) + 1) = (n : Int) + 1 := IntWalk.i64_in _ (by omega)
  have k2 : (0 : Int) ≤ (n : Int) + 1 := by omega
  have k3 : ((n : Int) + 1).toNat = n + 1 := by omega
  go_quiet ((go_at_call 64; first | exact quiet_add_same (idx_far _ _ _ _ _ HA.out hlast (by omega)) | exact Calls.quiet_of_same (idx_far _ _ _ _ _ HA.out hlast (by omega))))
  go_wp2_with fail
  repeat (first | rw [Exit.noGoto_ret] | simp only [Exit.inBlock, Exit.then])
  go_ret
  exact ⟨rfl, _, rfl⟩

set_option maxRecDepth 100000 in
theorem indexRune_err (s : ByteArray) (w : World) (hs : s.size ≤ 140737488355328) (ha : ∀ x ∈ s.data.toList, x.toNat < 128) :
    Calls Tryz.prog 52 #[.string s, .int .i32 65533] w fun e w' => e = .returned (.int .i64 (-1)) ∧ Below w.heap.size w w' := by
  have HA := Lib.hid ha
  clear ha
  go_enter Tryz.func52, Tryz.ntmps52
  go_wp2_with fail
  go_loopw [5, 6] (fun _ _ w' => ∃ pos, w' = w.iter s pos) (fun _ _ w' => s.size - w'.iterPos w.heap.size)
  case atStart => exact ⟨0, rfl⟩
  case round =>
    obtain ⟨pos, rfl⟩ := hrel
    by_cases hp : pos < s.size
    · have hlt : (s[pos]'hp).toNat < 128 := HA.out _ (by simp [ByteArray.getElem_eq_getElem_data])
      have hnx : ∀ ty, (Instr.next (.pointer (some ⟨w.heap.size, 0, none⟩)) true ty).run Tryz.prog (w.iter s pos) = _ := fun ty => run_next_ascii w s pos ty hp hlt
      have hne : (((s[pos]'hp).toNat : Int) == 65533) = false := by rw [beq_eq_false_iff_ne]; omega
      go_wp2_with fail
      go_roundw
      case rel => exact ⟨_, rfl⟩
      case measure =>
        simp
        omega
    · have hnx : ∀ ty, (Instr.next (.pointer (some ⟨w.heap.size, 0, none⟩)) true ty).run Tryz.prog (w.iter s pos) = _ := fun ty => run_next_end w s pos ty hp
      go_wp2_with fail
      go_ret
      exact ⟨rfl, below_iter (Below.refl _ _) (Nat.le_refl _) _ _⟩

/-- strings.IndexRune, ContainsRune at a rune beyond ASCII, in an ASCII text of four bytes or more. -/
theorem indexRune_high (s : ByteArray) (c : Int) (w : World) (h0 : 128 ≤ c) (h1 : c ≤ 2147483647) (hs : s.size ≤ 140737488355328) (hs4 : 4 ≤ s.size) (ha : ∀ x ∈ s.data.toList, x.toNat < 128) :
    Calls Tryz.prog 52 #[.string s, .int .i32 c] w fun e w' => e = .returned (.int .i64 (-1)) ∧ Below w.heap.size w w' := by
  by_cases hc : c = 65533
  · subst hc
    exact indexRune_err s w hs ha
  · have hne : (c == 65533) = false := by rw [beq_eq_false_iff_ne]; exact hc
    cases hv : Lib.validRune c
    · exact (indexRune_bad s c w h0 hne hv).mono fun e w' ⟨he, hw⟩ => ⟨he, by rw [← hw]; exact Below.refl _ _⟩
    · exact (indexRune_far s c w h0 h1 hne hv hs hs4 ha).mono fun e w' ⟨he, n, hw⟩ => ⟨he, by rw [hw]; exact below_drewN (Below.refl _ _) n⟩
theorem containsRune_high (s : ByteArray) (c : Int) (w : World) (h0 : 128 ≤ c) (h1 : c ≤ 2147483647) (hs : s.size ≤ 140737488355328) (hs4 : 4 ≤ s.size) (ha : ∀ x ∈ s.data.toList, x.toNat < 128) :
    Calls Tryz.prog 31 #[.string s, .int .i32 c] w fun e w' => e = .returned (.bool false) ∧ Below w.heap.size w w' := by
  have HA := Lib.hid ha
  clear ha
  go_enter Tryz.func31, Tryz.ntmps31
  go_wp2_with (go_at_call 52; refine (indexRune_high _ _ _ h0 h1 hs hs4 HA.out).mono ?_; rintro e w' ⟨rfl, hb⟩)
  go_ret
  exact ⟨rfl, hb⟩
end Go.Proofs.YtmpoejgclalmfaaGreat
