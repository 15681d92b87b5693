/- Layer 9: Open; a feed that is shut; whether a text's bytes are all of a kind. Layer 9: the first header of a name: the program's and the document's. Layer 9: the target of some parts. Layer 9: are two lists of texts alike; two lists of pairs? -/
import Derived.Test.YtbehakabglegjaaGreatDoorQ20
import Derived.Test.YtbehakabglegjaaGreatDoorQ23
import Derived.Test.YtbehakabglegjaaGreatDoorQZip
namespace Go.Proofs.YtbehakabglegjaaGreatDoor
open Go.RowKit Go.PlainAid
set_option linter.unusedVariables false
set_option linter.unusedSimpArgs false
set_option maxRecDepth 100000
def openB (F : Fs) : Bool := !F.shut && decide (F.head ≠ 0)
theorem open_any {base : Bs} {g : Nat} {F : Fs} {nx tk hs bd wh : Value} {L : List Mm} {w : World} (h : FdM base g F nx tk hs bd wh L w) : Calls Tryz.prog 16 #[.pointer (some ⟨g, 0, none⟩)] w fun e w' => e = .returned (.bool (openB F)) ∧ w' = w := by
  have c1 : w.cell? ⟨g, 1, none⟩ = some (.bool F.shut) := h.1.cell 1
  have c3 : w.cell? ⟨g, 3, none⟩ = some (.int .i64 F.head) := h.1.cell 3
  clear h
  have HO : Hid (openB F = (!F.shut && decide (F.head ≠ 0))) := Lib.hid rfl
  generalize openB F = O at *
  generalize F.shut = S at *
  generalize F.head = n at *
  cases S
  all_goals
    go_enter Tryz.func16, Tryz.ntmps16
    go_wp2
    all_goals
      go_ret
      exact ⟨ret_bool (by rw [HO.out, Bool.eq_iff_iff]; simp), rfl⟩
theorem feed_shut {base : Bs} {g : Nat} {F : Fs} {nx tk hs bd wh v : Value} {L : List Mm} {w : World} (h : FdM base g F nx tk hs bd wh L w) (hs : F.shut = true) : Calls Tryz.prog 14 #[.pointer (some ⟨g, 0, none⟩), v] w fun e w' => e = .returned (.tuple #[.slice none 0 0, .iface 31 (.int .i64 30)]) ∧ w' = w := by
  have c1 : w.cell? ⟨g, 1, none⟩ = some (.bool true) := by rw [← hs]; exact h.1.cell 1
  clear h
  go_enter Tryz.func14, Tryz.ntmps14
  go_wp2
  go_ret2
  exact ⟨rfl, rfl⟩
theorem up_any (c : UInt8) (w : World) : Calls Tryz.prog 54 #[.int .u8 (c.toNat : Int)] w fun e w' => e = .returned (.bool (isUpB c)) ∧ w = w' := by
  go_enter Tryz.func54, Tryz.ntmps54
  go_wp2
  all_goals
    go_ret
    exact ⟨ret_bool (by unfold isUpB; rw [Bool.eq_iff_iff]; simp only [Bool.or_eq_true, Bool.and_eq_true, decide_eq_true_eq, true_iff, false_iff, Bool.false_eq_true, Bool.true_eq_false]; omega), rfl⟩
theorem seen_any (c : UInt8) (w : World) : Calls Tryz.prog 55 #[.int .u8 (c.toNat : Int)] w fun e w' => e = .returned (.bool (isSeenB c)) ∧ w = w' := by
  go_enter Tryz.func55, Tryz.ntmps55
  go_wp2
  all_goals
    go_ret
    exact ⟨ret_bool (by unfold isSeenB; rw [Bool.eq_iff_iff]; simp only [Bool.or_eq_true, Bool.and_eq_true, decide_eq_true_eq, true_iff, false_iff, Bool.false_eq_true, Bool.true_eq_false]; omega), rfl⟩
theorem texts_any (c : UInt8) (w : World) : Calls Tryz.prog 56 #[.int .u8 (c.toNat : Int)] w fun e w' => e = .returned (.bool (isTextB c)) ∧ w = w' := by
  go_enter Tryz.func56, Tryz.ntmps56
  go_wp2
  all_goals
    go_ret
    exact ⟨ret_bool (by unfold isTextB; rw [Bool.eq_iff_iff]; simp only [Bool.or_eq_true, Bool.and_eq_true, decide_eq_true_eq, true_iff, false_iff, Bool.false_eq_true, Bool.true_eq_false]; omega), rfl⟩
/-- A function that is called through its value. -/
theorem enter_of (k : Nat) (h : (Tryz.prog.funcs[k]?).any (fun fn => fn.body.isSome && fn.name != "runtime.NumGoroutine") = true) : ∀ (args : Array Value) (w : World), (callFunc k args).run Tryz.prog w = .ok (.enter k args) w := fun args w => by
  cases hf : Tryz.prog.funcs[k]? with
  | none => rw [hf] at h; cases h
  | some fn =>
    rw [hf] at h
    cases hb : fn.body with
    | none => rw [Option.any_some, hb] at h; simp at h
    | some b =>
      have hn : ¬ fn.name = "runtime.NumGoroutine" := by rw [Option.any_some, Bool.and_eq_true] at h; simpa using h.2
      generalize Tryz.prog = P at *
      simp [callFunc, go_sem, hf, hb, hn]
theorem bt_at {s : ByteArray} {i : Nat} {c : UInt8} (h : s.data.toList[i]? = some c) : bt s i = (c.toNat : Int) := by
  obtain ⟨h1, h2⟩ := List.getElem?_eq_some_iff.1 h
  unfold bt
  rw [dif_pos (show i < s.size from h1), ← h2]
  rfl
set_option maxHeartbeats 4000000 in
theorem every_any (k : Nat) (P : UInt8 → Bool) (hk : ∀ c w, Calls Tryz.prog k #[.int .u8 (c.toNat : Int)] w fun e w' => e = .returned (.bool (P c)) ∧ w = w') (he : (Tryz.prog.funcs[k]?).any (fun fn => fn.body.isSome && fn.name != "runtime.NumGoroutine") = true)
    (s : ByteArray) (w : World) (hs : s.size ≤ 9223372036854775806) : Calls Tryz.prog 32 #[.string s, .func (.func k) #[] #[]] w fun e w' => e = .returned (.bool (s.data.toList.all P)) ∧ w = w' := by
  have eg := enter_of k he
  have HK := Lib.hid hk
  have hbs := get_bt s
  have HA : Hid (∀ i, i < s.size → ∃ c, s.data.toList[i]? = some c ∧ (s.data.toList.take (i + 1)).all P = ((s.data.toList.take i).all P && P c) ∧ (P c = false → s.data.toList.all P = false)) := Lib.hid fun i hi => by
    have hl : i < s.data.toList.length := hi
    refine ⟨_, List.getElem?_eq_getElem hl, ?_, fun hp => ?_⟩
    · rw [List.take_add_one, List.getElem?_eq_getElem hl, List.all_append]
      simp
    · rw [List.all_eq_false]
      exact ⟨_, List.getElem_mem hl, by rw [hp]; simp⟩
  have HE : Hid ((s.data.toList.take s.size).all P = s.data.toList.all P) := Lib.hid (by rw [show s.size = s.data.toList.length from rfl, List.take_length])
  clear he hk
  go_enter Tryz.func32, Tryz.ntmps32
  go_wp2
  go_loopw [8] (fun iv wr => ∃ i : Nat, iv = .int .i64 (i : Int) ∧ i ≤ s.size ∧ (s.data.toList.take i).all P = true ∧ w = wr) (fun iv _ => match iv with | .int _ i => (s.size - i.toNat) | _ => 0)
  case atStart => exact ⟨0, rfl, Nat.zero_le _, rfl, rfl⟩
  case round =>
    obtain ⟨i, rfl, hi, ha, rfl⟩ := hrel
    have HAL := Lib.hid ha
    clear ha
    by_cases hlt : i < s.size
    · obtain ⟨c, hc, hn, hf⟩ := HA.out i hlt
      have hcb := bt_at hc
      have HN := Lib.hid hn
      have HF := Lib.hid hf
      clear hc hn hf
      cases hp : P c
      · have HP := Lib.hid hp
        clear hp
        go_wp2_with ((with_reducible refine is_calls ?_); refine (HK.out c _).mono ?_; rintro e w9 ⟨rfl, rfl⟩; rw [HP.out])
        go_ret
        exact ⟨ret_bool (HF.out HP.out).symm, rfl⟩
      · have HP := Lib.hid hp
        clear hp
        go_wp2_with ((with_reducible refine is_calls ?_); refine (HK.out c _).mono ?_; rintro e w9 ⟨rfl, rfl⟩; rw [HP.out])
        go_roundw
        case rel => exact ⟨i + 1, rfl, by omega, by rw [HN.out, HAL.out, HP.out]; rfl, by first | rfl | trivial⟩
        case measure => (simp only; omega)
    · obtain rfl : i = s.size := by omega
      go_wp2
      go_ret
      exact ⟨ret_bool (by rw [← HE.out, HAL.out]), rfl⟩
end Go.Proofs.YtbehakabglegjaaGreatDoor
namespace Go.Proofs.YtbehakabglegjaaGreatDoor
open Go.RowKit Go.PlainAid
set_option linter.unusedVariables false
set_option linter.unusedSimpArgs false
section
variable {ops : Array Oper} {rest : List Oper} {o : Oper} {a : Act} {w : World} {Q : Exit → Act → World → Prop}
/-- A row of the call's own grows by a byte. -/
theorem wpl_own1 (hgd : o.guard = none) (s x : Operand) (ho : o.op = .call { callee := .builtin .append, args := #[s, x], argTypes := #[23, 23] }) {base : Nat} {v : Value} {l : List UInt8} (HO : OwnB w base v l) (hn : l.length ≤ 140737488355327) (hb : base ≤ w.heap.size)
    {g1 : Nat} {c : UInt8} (IB : IBox w g1 5 #[.int .u8 (c.toNat : Int)]) (h1 : a.eval s = v) (h2 : a.eval x = .slice (some ⟨g1, 0, none⟩) 1 1)
    (h : ∀ v' w', OwnB w' base v' (l ++ [c]) → Below base w w' → wpList Tryz.prog ops Q rest (a.put o.dst v') w') : wpList Tryz.prog ops Q (o :: rest) a w := by
  refine wpl_append_bytes hgd s x 23 ho Tryz.underlying23 base v l h1 HO g1 1 [c] 5 1 rfl h2 ?_ (by simp; omega) hb ?_
  · intro j u hu
    have := one_byte IB j u (by simpa [Lib.byteCells] using hu)
    have hadd : (⟨g1, 0, none⟩ : Addr).add j = ⟨g1, j, none⟩ := by unfold Addr.add; split <;> simp_all
    rw [hadd] at this
    exact this
  · intro v' w' h3 _ h5
    exact h v' w' h3 h5
end
/-- What the walks ask of a message among the arguments. -/
structure MgAt (w : World) (x : Mm) : Prop where
  hd : HdAt w x.hs x.m.heads
  bt : BtAt w x.bd x.m.body
  hl : x.m.heads.length ≤ 140737488355328
  bz : x.m.body.length ≤ 140737488355328
  hz : ∀ p ∈ x.m.heads, p.1.size ≤ 140737488355328 ∧ p.2.size ≤ 140737488355328
  mz : x.m.meth.size ≤ 140737488355328 ∧ x.m.targ.size ≤ 140737488355328 ∧ x.m.reas.size ≤ 140737488355328
  st : -9223372036854775808 ≤ x.m.stat ∧ x.m.stat ≤ 9223372036854775807
theorem HdAt.below {w w' : World} {v : Value} {l : List (ByteArray × ByteArray)} (h : HdAt w v l) (hb : Below w.heap.size w w') : HdAt w' v l := h.bes (X := fun _ => False) (Bes.of_below hb) (fun _ _ z => z)
theorem MgAt.below {w w' : World} {x : Mm} (h : MgAt w x) (hb : Below w.heap.size w w') : MgAt w' x := ⟨h.hd.below hb, h.bt.bes (X := fun _ => False) (Bes.of_below hb) (fun _ _ z => z), h.hl, h.bz, h.hz, h.mz, h.st⟩
/-- What Header gives. -/
def hdAns (o : Option ByteArray) : Value := match o with | some v => .tuple #[.string v, .bool true] | none => .tuple #[.string ⟨#[]⟩, .bool false]
/-- The document's text in small letters. -/
theorem low_take {l : List UInt8} {i : Nat} {c : UInt8} (h : l[i]? = some c) : lowL (l.take (i + 1)) = lowL (l.take i) ++ [lowB c] := by
  rw [List.take_add_one, h]
  unfold lowL
  rw [List.map_append]
  rfl
set_option maxRecDepth 100000 in
set_option maxHeartbeats 8000000 in
theorem rlower_any (s : ByteArray) (w : World) (hs : s.size ≤ 140737488355328) : Calls Tryz.prog 43 #[.string s] w fun e w' => e = .returned (.string (txt (lowL s.data.toList))) ∧ Below w.heap.size w w' := by
  have hbs := get_bt s
  have HS := Lib.hid hs
  clear hs
  have HE : Hid (lowL (s.data.toList.take s.size) = lowL s.data.toList) := Lib.hid (by rw [show s.size = s.data.toList.length from rfl, List.take_length])
  go_enter Tryz.func43, Tryz.ntmps43
  go_wp2
  go_loopw [4, 3, 5] (fun iv tv cv wr => ∃ i : Nat, iv = .int .i64 (i : Int) ∧ i ≤ s.size ∧ OwnB wr w.heap.size tv (lowL (s.data.toList.take i)) ∧ Below w.heap.size w wr) (fun iv _ _ _ => match iv with | .int _ i => (s.size - i.toNat) | _ => 0)
  case atStart => exact ⟨0, rfl, Nat.zero_le _, OwnB.nil _ _, Below.refl _ _⟩
  case round =>
    obtain ⟨i, rfl, hi, HO, HB⟩ := hrel
    have hs := HS.out
    have hlen : (lowL (s.data.toList.take i)).length = i := by unfold lowL; rw [List.length_map, List.length_take]; exact Nat.min_eq_left hi
    by_cases hlt : i < s.size
    · obtain ⟨c, hc⟩ : ∃ c, s.data.toList[i]? = some c := ⟨_, List.getElem?_eq_getElem (show i < s.data.toList.length from hlt)⟩
      have hcb := bt_at hc
      have HN := Lib.hid (low_take hc)
      have HLN := Lib.hid hlen
      clear hc hlen
      by_cases h1 : 65 ≤ c.toNat ∧ c.toNat ≤ 90
      · have HUP := Lib.hid (lowB_up h1.1 h1.2)
        obtain ⟨a1, a2⟩ := h1
        go_wp2_with (first
          | ((with_reducible refine is_slice ?_); refine wpl_u8 rfl (.tmp 24) rfl (lowB c) (by rw [HUP.out]; rfl) ?_; intro w1 hb B9; replace HO := HO.below hb; replace HB := zT HB hb; clear hb)
          | (at_builtin; refine wpl_own1 rfl (.tmp 23) (.tmp 25) rfl HO (by rw [HLN.out]; omega) HB.size B9 rfl rfl ?_; intro v3 w3 ho hb; replace HO := ho; replace HB := HB.trans hb; clear ho hb B9))
        go_roundw
        case rel => exact ⟨i + 1, rfl, by omega, by rw [HN.out]; exact HO, HB⟩
        case measure => (simp only; omega)
      · have HSM := Lib.hid (lowB_same h1)
        by_cases a1 : 65 ≤ c.toNat <;> by_cases a2 : c.toNat ≤ 90
        all_goals first
          | (exfalso; omega)
          | skip
        all_goals
          clear h1
          go_wp2_with (first
            | ((with_reducible refine is_slice ?_); refine wpl_u8 rfl (.tmp 24) rfl c rfl ?_; intro w1 hb B9; replace HO := HO.below hb; replace HB := zT HB hb; clear hb)
            | (at_builtin; refine wpl_own1 rfl (.tmp 23) (.tmp 25) rfl HO (by rw [HLN.out]; omega) HB.size B9 rfl rfl ?_; intro v3 w3 ho hb; replace HO := ho; replace HB := HB.trans hb; clear ho hb B9))
          go_roundw
          case rel => exact ⟨i + 1, rfl, by omega, by rw [HN.out, HSM.out]; exact HO, HB⟩
          case measure => (simp only; omega)
    · obtain rfl : i = s.size := by omega
      rw [HE.out] at HO
      go_wp2_with ((with_reducible refine is_convert ?_); refine wpl_own_text rfl (.tmp 27) 23 9 rfl Tryz.underlying23 Tryz.underlying9 _ _ _ rfl HO ?_)
      go_ret
      exact ⟨rfl, HB⟩
end Go.Proofs.YtbehakabglegjaaGreatDoor
namespace Go.Proofs.YtbehakabglegjaaGreatDoor
open Go.RowKit Go.PlainAid
set_option linter.unusedVariables false
set_option linter.unusedSimpArgs false
/-- Texts that can be read. -/
def TxAt (w : World) (v : Value) (l : List ByteArray) : Prop := ∃ A c, v = .slice A l.length c ∧ ∀ i s, l[i]? = some s → ∃ b off, A = some ⟨b, off, none⟩ ∧ w.cell? ⟨b, off + i, none⟩ = some (.string s)
theorem TxAt.below {w w' : World} {v : Value} {l : List ByteArray} (h : TxAt w v l) (hb : Below w.heap.size w w') : TxAt w' v l := by
  obtain ⟨A, c, hv, hc⟩ := h
  refine ⟨A, c, hv, fun i s hi => ?_⟩
  obtain ⟨b, off, hA, h1⟩ := hc i s hi
  exact ⟨b, off, hA, cell_later hb h1⟩
def pSz (p : ByteArray) : Nat := 3 * p.size + 1
def qSz (p : ByteArray × ByteArray) : Nat := 3 * p.1.size + 3 * p.2.size + 2
end Go.Proofs.YtbehakabglegjaaGreatDoor
namespace Go.Proofs.YtbehakabglegjaaGreatDoor
open Go.RowKit Go.PlainAid
set_option linter.unusedVariables false
set_option linter.unusedSimpArgs false
theorem cell_heap {w w' : World} {a : Addr} {v : Value} (e : w'.heap = w.heap) (h : w.cell? a = some v) : w'.cell? a = some v := by
  unfold World.cell? at *
  rw [e]
  exact h
theorem rangeAt_heap {w w' : World} {b o : Nat} {l : List Value} (e : w'.heap = w.heap) (h : w.rangeAt b o l) : w'.rangeAt b o l := fun j v hv => cell_heap e (h j v hv)
theorem row_two {w : World} {g o : Nat} {a b : ByteArray} (h1 : w.cell? ⟨g, o, none⟩ = some (.string a)) (h2 : w.cell? ⟨g, o + 1, none⟩ = some (.string b)) : w.rangeAt g o (hdA a b).toList := fun j v hv => by
  have hj : j = 0 ∨ j = 1 := by
    have := (List.getElem?_eq_some_iff.1 hv).1
    have e : (hdA a b).toList.length = 2 := rfl
    omega
  rcases hj with rfl | rfl
  · have : v = .string a := (Option.some.inj hv).symm
    rw [this]; exact h1
  · have : v = .string b := (Option.some.inj hv).symm
    rw [this]; exact h2
end Go.Proofs.YtbehakabglegjaaGreatDoor
