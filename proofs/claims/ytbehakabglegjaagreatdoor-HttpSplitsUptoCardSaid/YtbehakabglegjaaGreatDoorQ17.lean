/- Layer 9: Open; a feed that is shut; whether a text's bytes are all of a kind. Regions that draw their order and only read: their steps behind a wall. Layer 9: a request's first line, as it is written. -/
import Derived.Test.YtbehakabglegjaaGreatDoorQ15
import Derived.Deep.QuietTactic
import Derived.Test.YtbehakabglegjaaGreatDoorQ00
namespace Go.Proofs.YtbehakabglegjaaGreatDoor
open Go.RowKit Go.PlainAid
set_option linter.unusedVariables false
set_option linter.unusedSimpArgs false
set_option maxRecDepth 100000
def openB (F : Fs) : Bool := !F.shut && decide (F.head ≠ 0)
theorem open_any {base : Bs} {g : Nat} {F : Fs} {nx tk hs bd wh : Value} {L : List Mm} {w : World} (h : FdM base g F nx tk hs bd wh L w) : Calls Tryz.prog 16 #[.pointer (some ⟨g, 0, none⟩)] w fun e w' => e = .returned (.bool (openB F)) ∧ w' = w := by
  have c1 : w.cell? ⟨g, 1, none⟩ = some (.bool F.shut) := h.1.cell 1
  have c3 : w.cell? ⟨g, 3, none⟩ = some (.int .i64 F.head) := h.1.cell 3
  clear h
  have HO : Hid (openB F = (!F.shut && decide (F.head ≠ 0))) := Lib.hid rfl
  generalize openB F = O at *
  generalize F.shut = S at *
  generalize F.head = n at *
  cases S
  all_goals
    go_enter Tryz.func16, Tryz.ntmps16
    go_wp2
    all_goals
      go_ret
      exact ⟨ret_bool (by rw [HO.out, Bool.eq_iff_iff]; simp), rfl⟩
theorem feed_shut {base : Bs} {g : Nat} {F : Fs} {nx tk hs bd wh v : Value} {L : List Mm} {w : World} (h : FdM base g F nx tk hs bd wh L w) (hs : F.shut = true) : Calls Tryz.prog 14 #[.pointer (some ⟨g, 0, none⟩), v] w fun e w' => e = .returned (.tuple #[.slice none 0 0, .iface 31 (.int .i64 30)]) ∧ w' = w := by
  have c1 : w.cell? ⟨g, 1, none⟩ = some (.bool true) := by rw [← hs]; exact h.1.cell 1
  clear h
  go_enter Tryz.func14, Tryz.ntmps14
  go_wp2
  go_ret2
  exact ⟨rfl, rfl⟩
theorem up_any (c : UInt8) (w : World) : Calls Tryz.prog 54 #[.int .u8 (c.toNat : Int)] w fun e w' => e = .returned (.bool (isUpB c)) ∧ w = w' := by
  go_enter Tryz.func54, Tryz.ntmps54
  go_wp2
  all_goals
    go_ret
    exact ⟨ret_bool (by unfold isUpB; rw [Bool.eq_iff_iff]; simp only [Bool.or_eq_true, Bool.and_eq_true, decide_eq_true_eq, true_iff, false_iff, Bool.false_eq_true, Bool.true_eq_false]; omega), rfl⟩
theorem seen_any (c : UInt8) (w : World) : Calls Tryz.prog 55 #[.int .u8 (c.toNat : Int)] w fun e w' => e = .returned (.bool (isSeenB c)) ∧ w = w' := by
  go_enter Tryz.func55, Tryz.ntmps55
  go_wp2
  all_goals
    go_ret
    exact ⟨ret_bool (by unfold isSeenB; rw [Bool.eq_iff_iff]; simp only [Bool.or_eq_true, Bool.and_eq_true, decide_eq_true_eq, true_iff, false_iff, Bool.false_eq_true, Bool.true_eq_false]; omega), rfl⟩
theorem texts_any (c : UInt8) (w : World) : Calls Tryz.prog 56 #[.int .u8 (c.toNat : Int)] w fun e w' => e = .returned (.bool (isTextB c)) ∧ w = w' := by
  go_enter Tryz.func56, Tryz.ntmps56
  go_wp2
  all_goals
    go_ret
    exact ⟨ret_bool (by unfold isTextB; rw [Bool.eq_iff_iff]; simp only [Bool.or_eq_true, Bool.and_eq_true, decide_eq_true_eq, true_iff, false_iff, Bool.false_eq_true, Bool.true_eq_false]; omega), rfl⟩
/-- A function that is called through its value. -/
theorem enter_of (k : Nat) (h : (Tryz.prog.funcs[k]?).any (fun fn => fn.body.isSome && fn.name != "runtime.NumGoroutine") = true) : ∀ (args : Array Value) (w : World), (callFunc k args).run Tryz.prog w = .ok (.enter k args) w := fun args w => by
  cases hf : Tryz.prog.funcs[k]? with
  | none => rw [hf] at h; cases h
  | some fn =>
    rw [hf] at h
    cases hb : fn.body with
    | none => rw [Option.any_some, hb] at h; simp at h
    | some b =>
      have hn : ¬ fn.name = "runtime.NumGoroutine" := by rw [Option.any_some, Bool.and_eq_true] at h; simpa using h.2
      generalize Tryz.prog = P at *
      simp [callFunc, go_sem, hf, hb, hn]
theorem bt_at {s : ByteArray} {i : Nat} {c : UInt8} (h : s.data.toList[i]? = some c) : bt s i = (c.toNat : Int) := by
  obtain ⟨h1, h2⟩ := List.getElem?_eq_some_iff.1 h
  unfold bt
  rw [dif_pos (show i < s.size from h1), ← h2]
  rfl
set_option maxHeartbeats 4000000 in
theorem every_any (k : Nat) (P : UInt8 → Bool) (hk : ∀ c w, Calls Tryz.prog k #[.int .u8 (c.toNat : Int)] w fun e w' => e = .returned (.bool (P c)) ∧ w = w') (he : (Tryz.prog.funcs[k]?).any (fun fn => fn.body.isSome && fn.name != "runtime.NumGoroutine") = true)
    (s : ByteArray) (w : World) (hs : s.size ≤ 9223372036854775806) : Calls Tryz.prog 32 #[.string s, .func (.func k) #[] #[]] w fun e w' => e = .returned (.bool (s.data.toList.all P)) ∧ w = w' := by
  have eg := enter_of k he
  have HK := Lib.hid hk
  have hbs := get_bt s
  have HA : Hid (∀ i, i < s.size → ∃ c, s.data.toList[i]? = some c ∧ (s.data.toList.take (i + 1)).all P = ((s.data.toList.take i).all P && P c) ∧ (P c = false → s.data.toList.all P = false)) := Lib.hid fun i hi => by
    have hl : i < s.data.toList.length := hi
    refine ⟨_, List.getElem?_eq_getElem hl, ?_, fun hp => ?_⟩
    · rw [List.take_add_one, List.getElem?_eq_getElem hl, List.all_append]
      simp
    · rw [List.all_eq_false]
      exact ⟨_, List.getElem_mem hl, by rw [hp]; simp⟩
  have HE : Hid ((s.data.toList.take s.size).all P = s.data.toList.all P) := Lib.hid (by rw [show s.size = s.data.toList.length from rfl, List.take_length])
  clear he hk
  go_enter Tryz.func32, Tryz.ntmps32
  go_wp2
  go_loopw [8] (fun iv wr => ∃ i : Nat, iv = .int .i64 (i : Int) ∧ i ≤ s.size ∧ (s.data.toList.take i).all P = true ∧ w = wr) (fun iv _ => match iv with | .int _ i => (s.size - i.toNat) | _ => 0)
  case atStart => exact ⟨0, rfl, Nat.zero_le _, rfl, rfl⟩
  case round =>
    obtain ⟨i, rfl, hi, ha, rfl⟩ := hrel
    have HAL := Lib.hid ha
    clear ha
    by_cases hlt : i < s.size
    · obtain ⟨c, hc, hn, hf⟩ := HA.out i hlt
      have hcb := bt_at hc
      have HN := Lib.hid hn
      have HF := Lib.hid hf
      clear hc hn hf
      cases hp : P c
      · have HP := Lib.hid hp
        clear hp
        go_wp2_with ((with_reducible refine is_calls ?_); refine (HK.out c _).mono ?_; rintro e w9 ⟨rfl, rfl⟩; rw [HP.out])
        go_ret
        exact ⟨ret_bool (HF.out HP.out).symm, rfl⟩
      · have HP := Lib.hid hp
        clear hp
        go_wp2_with ((with_reducible refine is_calls ?_); refine (HK.out c _).mono ?_; rintro e w9 ⟨rfl, rfl⟩; rw [HP.out])
        go_roundw
        case rel => exact ⟨i + 1, rfl, by omega, by rw [HN.out, HAL.out, HP.out]; rfl, by first | rfl | trivial⟩
        case measure => (simp only; omega)
    · obtain rfl : i = s.size := by omega
      go_wp2
      go_ret
      exact ⟨ret_bool (by rw [← HE.out, HAL.out]), rfl⟩
end Go.Proofs.YtbehakabglegjaaGreatDoor
namespace Go.Proofs.YtbehakabglegjaaGreatDoor
section
open Go.RowKit
set_option linter.unusedVariables false
structure QL (P : Program) (ops : Array Oper) (C : World → Prop) (Q : Act → Prop) (l : List Oper) (a : Act) : Prop where
  out : wpQuiet P ops C Q l a
theorem QL.step {P : Program} {ops : Array Oper} {C : World → Prop} {Q : Act → Prop} {o : Oper} {rest : List Oper} {a : Act}
    (h : ∀ K : Act → Prop, (∀ a, QL P ops C Q rest a → K a) → if Region.wanted o (yielded ops a.tmps) then o.quiet P a C K else K (a.put o.dst undef)) : QL P ops C Q (o :: rest) a :=
  ⟨wpQuiet_step fun K hK => h K (fun a hh => hK a hh.out)⟩
theorem QL.nil {P : Program} {ops : Array Oper} {C : World → Prop} {Q : Act → Prop} {a : Act} (h : Q a) : QL P ops C Q [] a := ⟨wpQuiet_nil h⟩
theorem wp_region_QL {P : Program} {id : Nat} {Q : Exit → Act → World → Prop} {a : Act} {w : World} {l : List Oper} (hm : P.follows .mixedOrders = true) (hB : Region.lexB .any l.toArray = true)
    (h : QL P l.toArray (fun w' => ∃ n, w' = w.drewN n) (fun a' => ∀ w', (∃ n, w' = w.drewN n) → Q .normal a' w') l a) : (Code.region id l.toArray true).wp P Q a w := wp_region_quiet_lit hm hB h.out
end
end Go.Proofs.YtbehakabglegjaaGreatDoor
namespace Go.Proofs.YtbehakabglegjaaGreatDoor
open Go.RowKit Go.PlainAid
set_option linter.unusedVariables false
set_option linter.unusedSimpArgs false
theorem ne_empty {s : ByteArray} (h0 : s.size ≠ 0) : s.toList.isEmpty = false := by
  rw [← decide_eq_emptyBytes]
  exact decide_eq_false (fun h => by rw [h] at h0; exact h0 rfl)
theorem is_empty {s : ByteArray} (h0 : s.size = 0) : s.toList.isEmpty = true := by
  rw [← decide_eq_emptyBytes]
  exact decide_eq_true (by cases s with | mk d => rw [Array.eq_empty_of_size_eq_zero h0]; rfl)
theorem ext_bytes {a b : ByteArray} (h : a.data.toList = b.data.toList) : a = b := by
  cases a; cases b
  simp only at h
  rw [Array.toList_inj.1 h]
set_option maxRecDepth 100000 in
set_option maxHeartbeats 8000000 in
theorem start_req {me ta re : ByteArray} {sn : Int} {hd : List (ByteArray × ByteArray)} {bo : List UInt8} {hs bd : Value} {w : World} (h1 : me.size ≤ 1099511627776) (h2 : ta.size ≤ 1099511627776) (h0 : me.size ≠ 0) :
    Calls Tryz.prog 31 #[.agg (Mm.cells ⟨⟨me, ta, sn, re, hd, bo⟩, hs, bd⟩)] w fun e w' => e = .returned (.tuple #[.string (txt (startL ⟨me, ta, sn, re, hd, bo⟩)), .bool (startB ⟨me, ta, sn, re, hd, bo⟩)]) ∧ Below w.heap.size w w' := by
  have HL : Hid (txt (startL ⟨me, ta, sn, re, hd, bo⟩) = me ++ ⟨#[32]⟩ ++ ta ++ ⟨#[32, 72, 84, 84, 80, 47, 49, 46, 49]⟩) := Lib.hid (by
    unfold startL
    rw [if_pos h0]
    refine ext_bytes ?_
    simp [txt, bl, protoL])
  have HSB : Hid (startB ⟨me, ta, sn, re, hd, bo⟩ = ((decide (me.size ≤ 16) && (bl me).all isUpB) && ((decide (ta.size ≠ 0) && decide (ta.size ≤ 2048)) && (bl ta).all isSeenB) && (decide (sn = 0) && decide (re.size = 0)))) := Lib.hid (by unfold startB; rw [if_pos h0])
  have hme : me.toList.isEmpty = false := ne_empty h0
  have g1 : ¬ 9223372036854775807 < me.size + 1 := by omega
  have g2 : ¬ 9223372036854775807 < me.size + 1 + ta.size := by omega
  have g3 : ¬ 9223372036854775807 < me.size + 1 + ta.size + 9 := by omega
  have HF1 := Lib.hid (fun w => every_any 54 isUpB up_any (by kernel_rfl) me w (by omega))
  have HF2 := Lib.hid (fun w => every_any 55 isSeenB seen_any (by kernel_rfl) ta w (by omega))
  clear h1 h2 h0
  by_cases a1 : me.size ≤ 16
  · by_cases a2 : (bl me).all isUpB = true
    · have HE1 : Hid (∀ w, Calls Tryz.prog 32 #[.string me, .func (.func 54) #[] #[]] w fun e w' => e = .returned (.bool true) ∧ w = w') := Lib.hid (fun w => by have h := HF1.out w; rw [show me.data.toList.all isUpB = true from a2] at h; exact h)
      by_cases a3 : ta.size = 0
      · have hta := is_empty a3
        have HS : Hid (startB ⟨me, ta, sn, re, hd, bo⟩ = false) := Lib.hid (by rw [HSB.out]; simp [a3])
        clear HSB a3
        go_enter Tryz.func31, Tryz.ntmps31
        go_wp2_with (first
          | (refine wpl_box_at rfl 25 (.tmp 0) rfl _ rfl ?_; intro w1 hw; have B1 := hid_alloc0 hw; have HB := hid_grow hw; clear hw; have c0 : w1.cell? ⟨w.heap.size, 0, none⟩ = some (.string me) := B1.cell 0; have c1 : w1.cell? ⟨w.heap.size, 1, none⟩ = some (.string ta) := B1.cell 1; have c2 : w1.cell? ⟨w.heap.size, 2, none⟩ = some (.int .i64 sn) := B1.cell 2; have c3 : w1.cell? ⟨w.heap.size, 3, none⟩ = some (.string re) := B1.cell 3)
          | (go_at_call 32; (with_reducible refine (HE1.out _).mono ?_); rintro e w9 ⟨rfl, rfl⟩))
        refine wp_region_QL (by kernel_rfl) (by kernel_rfl) ?_
        repeat (refine QL.step (fun K hK => ?_); go_simp; first | (refine hK _ ?_; clear hK K) | (apply Exists.intro; refine ⟨fun _ => ?_, hK _ ?_⟩; clear hK K))
        refine QL.nil ?_
        intro _ hw'
        obtain ⟨nq, hw''⟩ := hw'
        subst hw''
        generalize hw2 : World.drewN _ nq = w10
        have hb4 := HB.trans ((below_dq hw2).mono HB.size)
        clear hw2
        go_wp2
        go_ret2
        exact ⟨by rw [HL.out, HS.out]; rfl, hb4⟩
      · have hta := ne_empty a3
        by_cases a4 : ta.size ≤ 2048
        · by_cases a5 : (bl ta).all isSeenB = true
          · have HE2 : Hid (∀ w, Calls Tryz.prog 32 #[.string ta, .func (.func 55) #[] #[]] w fun e w' => e = .returned (.bool true) ∧ w = w') := Lib.hid (fun w => by have h := HF2.out w; rw [show ta.data.toList.all isSeenB = true from a5] at h; exact h)
            by_cases a0 : sn = 0
            · have hsn : (sn == 0) = true := by simpa using a0
              by_cases a6 : re.size = 0
              · have hre := is_empty a6
                have HS : Hid (startB ⟨me, ta, sn, re, hd, bo⟩ = true) := Lib.hid (by rw [HSB.out]; simp [a0, a1, a2, a3, a4, a5, a6])
                clear HSB a0
                go_enter Tryz.func31, Tryz.ntmps31
                go_wp2_with (first
                  | (refine wpl_box_at rfl 25 (.tmp 0) rfl _ rfl ?_; intro w1 hw; have B1 := hid_alloc0 hw; have HB := hid_grow hw; clear hw; have c0 : w1.cell? ⟨w.heap.size, 0, none⟩ = some (.string me) := B1.cell 0; have c1 : w1.cell? ⟨w.heap.size, 1, none⟩ = some (.string ta) := B1.cell 1; have c2 : w1.cell? ⟨w.heap.size, 2, none⟩ = some (.int .i64 sn) := B1.cell 2; have c3 : w1.cell? ⟨w.heap.size, 3, none⟩ = some (.string re) := B1.cell 3)
                  | (go_at_call 32; (with_reducible refine (HE1.out _).mono ?_); rintro e w9 ⟨rfl, rfl⟩)
                  | (go_at_call 32; (with_reducible refine (HE2.out _).mono ?_); rintro e w10 ⟨rfl, rfl⟩))
                refine wp_region_QL (by kernel_rfl) (by kernel_rfl) ?_
                repeat (refine QL.step (fun K hK => ?_); go_simp; first | (refine hK _ ?_; clear hK K) | (apply Exists.intro; refine ⟨fun _ => ?_, hK _ ?_⟩; clear hK K))
                refine QL.nil ?_
                intro _ hw'
                obtain ⟨nq, hw''⟩ := hw'
                subst hw''
                generalize hw2 : World.drewN _ nq = w10
                have hb4 := HB.trans ((below_dq hw2).mono HB.size)
                clear hw2
                go_wp2
                go_ret2
                exact ⟨by rw [HL.out, HS.out]; rfl, hb4⟩
              · have hre := ne_empty a6
                have HS : Hid (startB ⟨me, ta, sn, re, hd, bo⟩ = false) := Lib.hid (by rw [HSB.out]; simp [a6])
                clear HSB a0
                go_enter Tryz.func31, Tryz.ntmps31
                go_wp2_with (first
                  | (refine wpl_box_at rfl 25 (.tmp 0) rfl _ rfl ?_; intro w1 hw; have B1 := hid_alloc0 hw; have HB := hid_grow hw; clear hw; have c0 : w1.cell? ⟨w.heap.size, 0, none⟩ = some (.string me) := B1.cell 0; have c1 : w1.cell? ⟨w.heap.size, 1, none⟩ = some (.string ta) := B1.cell 1; have c2 : w1.cell? ⟨w.heap.size, 2, none⟩ = some (.int .i64 sn) := B1.cell 2; have c3 : w1.cell? ⟨w.heap.size, 3, none⟩ = some (.string re) := B1.cell 3)
                  | (go_at_call 32; (with_reducible refine (HE1.out _).mono ?_); rintro e w9 ⟨rfl, rfl⟩)
                  | (go_at_call 32; (with_reducible refine (HE2.out _).mono ?_); rintro e w10 ⟨rfl, rfl⟩))
                refine wp_region_QL (by kernel_rfl) (by kernel_rfl) ?_
                repeat (refine QL.step (fun K hK => ?_); go_simp; first | (refine hK _ ?_; clear hK K) | (apply Exists.intro; refine ⟨fun _ => ?_, hK _ ?_⟩; clear hK K))
                refine QL.nil ?_
                intro _ hw'
                obtain ⟨nq, hw''⟩ := hw'
                subst hw''
                generalize hw2 : World.drewN _ nq = w10
                have hb4 := HB.trans ((below_dq hw2).mono HB.size)
                clear hw2
                go_wp2
                go_ret2
                exact ⟨by rw [HL.out, HS.out]; rfl, hb4⟩
            · have hsn : (sn == 0) = false := by simpa using a0
              have HS : Hid (startB ⟨me, ta, sn, re, hd, bo⟩ = false) := Lib.hid (by rw [HSB.out]; simp [a0])
              clear HSB
              go_enter Tryz.func31, Tryz.ntmps31
              go_wp2_with (first
                | (refine wpl_box_at rfl 25 (.tmp 0) rfl _ rfl ?_; intro w1 hw; have B1 := hid_alloc0 hw; have HB := hid_grow hw; clear hw; have c0 : w1.cell? ⟨w.heap.size, 0, none⟩ = some (.string me) := B1.cell 0; have c1 : w1.cell? ⟨w.heap.size, 1, none⟩ = some (.string ta) := B1.cell 1; have c2 : w1.cell? ⟨w.heap.size, 2, none⟩ = some (.int .i64 sn) := B1.cell 2; have c3 : w1.cell? ⟨w.heap.size, 3, none⟩ = some (.string re) := B1.cell 3)
                | (go_at_call 32; (with_reducible refine (HE1.out _).mono ?_); rintro e w9 ⟨rfl, rfl⟩)
                | (go_at_call 32; (with_reducible refine (HE2.out _).mono ?_); rintro e w10 ⟨rfl, rfl⟩))
              refine wp_region_QL (by kernel_rfl) (by kernel_rfl) ?_
              repeat (refine QL.step (fun K hK => ?_); go_simp; first | (refine hK _ ?_; clear hK K) | (apply Exists.intro; refine ⟨fun _ => ?_, hK _ ?_⟩; clear hK K))
              refine QL.nil ?_
              intro _ hw'
              obtain ⟨nq, hw''⟩ := hw'
              subst hw''
              generalize hw2 : World.drewN _ nq = w10
              have hb4 := HB.trans ((below_dq hw2).mono HB.size)
              clear hw2
              go_wp2
              go_ret2
              exact ⟨by rw [HL.out, HS.out]; rfl, hb4⟩
          · have a5f : (bl ta).all isSeenB = false := by simpa using a5
            have HE2 : Hid (∀ w, Calls Tryz.prog 32 #[.string ta, .func (.func 55) #[] #[]] w fun e w' => e = .returned (.bool false) ∧ w = w') := Lib.hid (fun w => by have h := HF2.out w; rw [show ta.data.toList.all isSeenB = false from a5f] at h; exact h)
            have HS : Hid (startB ⟨me, ta, sn, re, hd, bo⟩ = false) := Lib.hid (by rw [HSB.out]; simp [a5f])
            clear HSB
            go_enter Tryz.func31, Tryz.ntmps31
            go_wp2_with (first
              | (refine wpl_box_at rfl 25 (.tmp 0) rfl _ rfl ?_; intro w1 hw; have B1 := hid_alloc0 hw; have HB := hid_grow hw; clear hw; have c0 : w1.cell? ⟨w.heap.size, 0, none⟩ = some (.string me) := B1.cell 0; have c1 : w1.cell? ⟨w.heap.size, 1, none⟩ = some (.string ta) := B1.cell 1; have c2 : w1.cell? ⟨w.heap.size, 2, none⟩ = some (.int .i64 sn) := B1.cell 2; have c3 : w1.cell? ⟨w.heap.size, 3, none⟩ = some (.string re) := B1.cell 3)
              | (go_at_call 32; (with_reducible refine (HE1.out _).mono ?_); rintro e w9 ⟨rfl, rfl⟩)
              | (go_at_call 32; (with_reducible refine (HE2.out _).mono ?_); rintro e w10 ⟨rfl, rfl⟩))
            refine wp_region_QL (by kernel_rfl) (by kernel_rfl) ?_
            repeat (refine QL.step (fun K hK => ?_); go_simp; first | (refine hK _ ?_; clear hK K) | (apply Exists.intro; refine ⟨fun _ => ?_, hK _ ?_⟩; clear hK K))
            refine QL.nil ?_
            intro _ hw'
            obtain ⟨nq, hw''⟩ := hw'
            subst hw''
            generalize hw2 : World.drewN _ nq = w10
            have hb4 := HB.trans ((below_dq hw2).mono HB.size)
            clear hw2
            go_wp2
            go_ret2
            exact ⟨by rw [HL.out, HS.out]; rfl, hb4⟩
        · have HS : Hid (startB ⟨me, ta, sn, re, hd, bo⟩ = false) := Lib.hid (by rw [HSB.out]; simp [a4])
          clear HSB
          go_enter Tryz.func31, Tryz.ntmps31
          go_wp2_with (first
            | (refine wpl_box_at rfl 25 (.tmp 0) rfl _ rfl ?_; intro w1 hw; have B1 := hid_alloc0 hw; have HB := hid_grow hw; clear hw; have c0 : w1.cell? ⟨w.heap.size, 0, none⟩ = some (.string me) := B1.cell 0; have c1 : w1.cell? ⟨w.heap.size, 1, none⟩ = some (.string ta) := B1.cell 1; have c2 : w1.cell? ⟨w.heap.size, 2, none⟩ = some (.int .i64 sn) := B1.cell 2; have c3 : w1.cell? ⟨w.heap.size, 3, none⟩ = some (.string re) := B1.cell 3)
            | (go_at_call 32; (with_reducible refine (HE1.out _).mono ?_); rintro e w9 ⟨rfl, rfl⟩))
          refine wp_region_QL (by kernel_rfl) (by kernel_rfl) ?_
          repeat (refine QL.step (fun K hK => ?_); go_simp; first | (refine hK _ ?_; clear hK K) | (apply Exists.intro; refine ⟨fun _ => ?_, hK _ ?_⟩; clear hK K))
          refine QL.nil ?_
          intro _ hw'
          obtain ⟨nq, hw''⟩ := hw'
          subst hw''
          generalize hw2 : World.drewN _ nq = w10
          have hb4 := HB.trans ((below_dq hw2).mono HB.size)
          clear hw2
          go_wp2
          go_ret2
          exact ⟨by rw [HL.out, HS.out]; rfl, hb4⟩
    · have a2f : (bl me).all isUpB = false := by simpa using a2
      have HE1 : Hid (∀ w, Calls Tryz.prog 32 #[.string me, .func (.func 54) #[] #[]] w fun e w' => e = .returned (.bool false) ∧ w = w') := Lib.hid (fun w => by have h := HF1.out w; rw [show me.data.toList.all isUpB = false from a2f] at h; exact h)
      have HS : Hid (startB ⟨me, ta, sn, re, hd, bo⟩ = false) := Lib.hid (by rw [HSB.out]; simp [a2f])
      clear HSB
      go_enter Tryz.func31, Tryz.ntmps31
      go_wp2_with (first
        | (refine wpl_box_at rfl 25 (.tmp 0) rfl _ rfl ?_; intro w1 hw; have B1 := hid_alloc0 hw; have HB := hid_grow hw; clear hw; have c0 : w1.cell? ⟨w.heap.size, 0, none⟩ = some (.string me) := B1.cell 0; have c1 : w1.cell? ⟨w.heap.size, 1, none⟩ = some (.string ta) := B1.cell 1; have c2 : w1.cell? ⟨w.heap.size, 2, none⟩ = some (.int .i64 sn) := B1.cell 2; have c3 : w1.cell? ⟨w.heap.size, 3, none⟩ = some (.string re) := B1.cell 3)
        | (go_at_call 32; (with_reducible refine (HE1.out _).mono ?_); rintro e w9 ⟨rfl, rfl⟩))
      refine wp_region_QL (by kernel_rfl) (by kernel_rfl) ?_
      repeat (refine QL.step (fun K hK => ?_); go_simp; first | (refine hK _ ?_; clear hK K) | (apply Exists.intro; refine ⟨fun _ => ?_, hK _ ?_⟩; clear hK K))
      refine QL.nil ?_
      intro _ hw'
      obtain ⟨nq, hw''⟩ := hw'
      subst hw''
      generalize hw2 : World.drewN _ nq = w10
      have hb4 := HB.trans ((below_dq hw2).mono HB.size)
      clear hw2
      go_wp2
      go_ret2
      exact ⟨by rw [HL.out, HS.out]; rfl, hb4⟩
  · have HS : Hid (startB ⟨me, ta, sn, re, hd, bo⟩ = false) := Lib.hid (by rw [HSB.out]; simp [a1])
    clear HSB
    go_enter Tryz.func31, Tryz.ntmps31
    go_wp2_with (first
      | (refine wpl_box_at rfl 25 (.tmp 0) rfl _ rfl ?_; intro w1 hw; have B1 := hid_alloc0 hw; have HB := hid_grow hw; clear hw; have c0 : w1.cell? ⟨w.heap.size, 0, none⟩ = some (.string me) := B1.cell 0; have c1 : w1.cell? ⟨w.heap.size, 1, none⟩ = some (.string ta) := B1.cell 1; have c2 : w1.cell? ⟨w.heap.size, 2, none⟩ = some (.int .i64 sn) := B1.cell 2; have c3 : w1.cell? ⟨w.heap.size, 3, none⟩ = some (.string re) := B1.cell 3))
    refine wp_region_QL (by kernel_rfl) (by kernel_rfl) ?_
    repeat (refine QL.step (fun K hK => ?_); go_simp; first | (refine hK _ ?_; clear hK K) | (apply Exists.intro; refine ⟨fun _ => ?_, hK _ ?_⟩; clear hK K))
    refine QL.nil ?_
    intro _ hw'
    obtain ⟨nq, hw''⟩ := hw'
    subst hw''
    generalize hw2 : World.drewN _ nq = w10
    have hb4 := HB.trans ((below_dq hw2).mono HB.size)
    clear hw2
    go_wp2
    go_ret2
    exact ⟨by rw [HL.out, HS.out]; rfl, hb4⟩
end Go.Proofs.YtbehakabglegjaaGreatDoor
