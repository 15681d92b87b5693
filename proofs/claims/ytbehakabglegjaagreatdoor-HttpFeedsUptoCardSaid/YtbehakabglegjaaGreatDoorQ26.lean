/- Layer 9: a request's first line, as it is written. Layer 9: what is written is read as it was: one message (plain). -/
import Derived.Test.YtbehakabglegjaaGreatDoorQ24
import Derived.Test.YtbehakabglegjaaGreatDoorQ25
import Derived.Test.YtbehakabglegjaaGreatDoorQ00
import Derived.Test.YtbehakabglegjaaGreatDoorQ07
namespace Go.Proofs.YtbehakabglegjaaGreatDoor
open Go.RowKit Go.PlainAid
set_option linter.unusedVariables false
set_option linter.unusedSimpArgs false
theorem ne_empty {s : ByteArray} (h0 : s.size ≠ 0) : s.toList.isEmpty = false := by
  rw [← decide_eq_emptyBytes]
  exact decide_eq_false (fun h => by rw [h] at h0; exact h0 rfl)
theorem is_empty {s : ByteArray} (h0 : s.size = 0) : s.toList.isEmpty = true := by
  rw [← decide_eq_emptyBytes]
  exact decide_eq_true (by cases s with | mk d => rw [Array.eq_empty_of_size_eq_zero h0]; rfl)
theorem ext_bytes {a b : ByteArray} (h : a.data.toList = b.data.toList) : a = b := by
  cases a; cases b
  simp only at h
  rw [Array.toList_inj.1 h]
set_option maxRecDepth 100000 in
set_option maxHeartbeats 8000000 in
theorem start_req {me ta re : ByteArray} {sn : Int} {hd : List (ByteArray × ByteArray)} {bo : List UInt8} {hs bd : Value} {w : World} (h1 : me.size ≤ 1099511627776) (h2 : ta.size ≤ 1099511627776) (h0 : me.size ≠ 0) :
    Calls Tryz.prog 31 #[.agg (Mm.cells ⟨⟨me, ta, sn, re, hd, bo⟩, hs, bd⟩)] w fun e w' => e = .returned (.tuple #[.string (txt (startL ⟨me, ta, sn, re, hd, bo⟩)), .bool (startB ⟨me, ta, sn, re, hd, bo⟩)]) ∧ Below w.heap.size w w' := by
  have HL : Hid (txt (startL ⟨me, ta, sn, re, hd, bo⟩) = me ++ ⟨#[32]⟩ ++ ta ++ ⟨#[32, 72, 84, 84, 80, 47, 49, 46, 49]⟩) := Lib.hid (by
    unfold startL
    rw [if_pos h0]
    refine ext_bytes ?_
    simp [txt, bl, protoL])
  have HSB : Hid (startB ⟨me, ta, sn, re, hd, bo⟩ = ((decide (me.size ≤ 16) && (bl me).all isUpB) && ((decide (ta.size ≠ 0) && decide (ta.size ≤ 2048)) && (bl ta).all isSeenB) && (decide (sn = 0) && decide (re.size = 0)))) := Lib.hid (by unfold startB; rw [if_pos h0])
  have hme : me.toList.isEmpty = false := ne_empty h0
  have g1 : ¬ 9223372036854775807 < me.size + 1 := by omega
  have g2 : ¬ 9223372036854775807 < me.size + 1 + ta.size := by omega
  have g3 : ¬ 9223372036854775807 < me.size + 1 + ta.size + 9 := by omega
  have HF1 := Lib.hid (fun w => every_any 54 isUpB up_any (by kernel_rfl) me w (by omega))
  have HF2 := Lib.hid (fun w => every_any 55 isSeenB seen_any (by kernel_rfl) ta w (by omega))
  clear h1 h2 h0
  by_cases a1 : me.size ≤ 16
  · by_cases a2 : (bl me).all isUpB = true
    · have HE1 : Hid (∀ w, Calls Tryz.prog 32 #[.string me, .func (.func 54) #[] #[]] w fun e w' => e = .returned (.bool true) ∧ w = w') := Lib.hid (fun w => by have h := HF1.out w; rw [show me.data.toList.all isUpB = true from a2] at h; exact h)
      by_cases a3 : ta.size = 0
      · have hta := is_empty a3
        have HS : Hid (startB ⟨me, ta, sn, re, hd, bo⟩ = false) := Lib.hid (by rw [HSB.out]; simp [a3])
        clear HSB a3
        go_enter Tryz.func31, Tryz.ntmps31
        go_wp2_with (first
          | (refine wpl_box_at rfl 25 (.tmp 0) rfl _ rfl ?_; intro w1 hw; have B1 := hid_alloc0 hw; have HB := hid_grow hw; clear hw; have c0 : w1.cell? ⟨w.heap.size, 0, none⟩ = some (.string me) := B1.cell 0; have c1 : w1.cell? ⟨w.heap.size, 1, none⟩ = some (.string ta) := B1.cell 1; have c2 : w1.cell? ⟨w.heap.size, 2, none⟩ = some (.int .i64 sn) := B1.cell 2; have c3 : w1.cell? ⟨w.heap.size, 3, none⟩ = some (.string re) := B1.cell 3)
          | (go_at_call 32; (with_reducible refine (HE1.out _).mono ?_); rintro e w9 ⟨rfl, rfl⟩))
        refine wp_region_QL (by kernel_rfl) (by kernel_rfl) ?_
        repeat (refine QL.step (fun K hK => ?_); go_simp; first | (refine hK _ ?_; clear hK K) | (apply Exists.intro; refine ⟨fun _ => ?_, hK _ ?_⟩; clear hK K))
        refine QL.nil ?_
        intro _ hw'
        obtain ⟨nq, hw''⟩ := hw'
        subst hw''
        generalize hw2 : World.drewN _ nq = w10
        have hb4 := HB.trans ((below_dq hw2).mono HB.size)
        clear hw2
        go_wp2
        go_ret2
        exact ⟨by rw [HL.out, HS.out]; rfl, hb4⟩
      · have hta := ne_empty a3
        by_cases a4 : ta.size ≤ 2048
        · by_cases a5 : (bl ta).all isSeenB = true
          · have HE2 : Hid (∀ w, Calls Tryz.prog 32 #[.string ta, .func (.func 55) #[] #[]] w fun e w' => e = .returned (.bool true) ∧ w = w') := Lib.hid (fun w => by have h := HF2.out w; rw [show ta.data.toList.all isSeenB = true from a5] at h; exact h)
            by_cases a0 : sn = 0
            · have hsn : (sn == 0) = true := by simpa using a0
              by_cases a6 : re.size = 0
              · have hre := is_empty a6
                have HS : Hid (startB ⟨me, ta, sn, re, hd, bo⟩ = true) := Lib.hid (by rw [HSB.out]; simp [a0, a1, a2, a3, a4, a5, a6])
                clear HSB a0
                go_enter Tryz.func31, Tryz.ntmps31
                go_wp2_with (first
                  | (refine wpl_box_at rfl 25 (.tmp 0) rfl _ rfl ?_; intro w1 hw; have B1 := hid_alloc0 hw; have HB := hid_grow hw; clear hw; have c0 : w1.cell? ⟨w.heap.size, 0, none⟩ = some (.string me) := B1.cell 0; have c1 : w1.cell? ⟨w.heap.size, 1, none⟩ = some (.string ta) := B1.cell 1; have c2 : w1.cell? ⟨w.heap.size, 2, none⟩ = some (.int .i64 sn) := B1.cell 2; have c3 : w1.cell? ⟨w.heap.size, 3, none⟩ = some (.string re) := B1.cell 3)
                  | (go_at_call 32; (with_reducible refine (HE1.out _).mono ?_); rintro e w9 ⟨rfl, rfl⟩)
                  | (go_at_call 32; (with_reducible refine (HE2.out _).mono ?_); rintro e w10 ⟨rfl, rfl⟩))
                refine wp_region_QL (by kernel_rfl) (by kernel_rfl) ?_
                repeat (refine QL.step (fun K hK => ?_); go_simp; first | (refine hK _ ?_; clear hK K) | (apply Exists.intro; refine ⟨fun _ => ?_, hK _ ?_⟩; clear hK K))
                refine QL.nil ?_
                intro _ hw'
                obtain ⟨nq, hw''⟩ := hw'
                subst hw''
                generalize hw2 : World.drewN _ nq = w10
                have hb4 := HB.trans ((below_dq hw2).mono HB.size)
                clear hw2
                go_wp2
                go_ret2
                exact ⟨by rw [HL.out, HS.out]; rfl, hb4⟩
              · have hre := ne_empty a6
                have HS : Hid (startB ⟨me, ta, sn, re, hd, bo⟩ = false) := Lib.hid (by rw [HSB.out]; simp [a6])
                clear HSB a0
                go_enter Tryz.func31, Tryz.ntmps31
                go_wp2_with (first
                  | (refine wpl_box_at rfl 25 (.tmp 0) rfl _ rfl ?_; intro w1 hw; have B1 := hid_alloc0 hw; have HB := hid_grow hw; clear hw; have c0 : w1.cell? ⟨w.heap.size, 0, none⟩ = some (.string me) := B1.cell 0; have c1 : w1.cell? ⟨w.heap.size, 1, none⟩ = some (.string ta) := B1.cell 1; have c2 : w1.cell? ⟨w.heap.size, 2, none⟩ = some (.int .i64 sn) := B1.cell 2; have c3 : w1.cell? ⟨w.heap.size, 3, none⟩ = some (.string re) := B1.cell 3)
                  | (go_at_call 32; (with_reducible refine (HE1.out _).mono ?_); rintro e w9 ⟨rfl, rfl⟩)
                  | (go_at_call 32; (with_reducible refine (HE2.out _).mono ?_); rintro e w10 ⟨rfl, rfl⟩))
                refine wp_region_QL (by kernel_rfl) (by kernel_rfl) ?_
                repeat (refine QL.step (fun K hK => ?_); go_simp; first | (refine hK _ ?_; clear hK K) | (apply Exists.intro; refine ⟨fun _ => ?_, hK _ ?_⟩; clear hK K))
                refine QL.nil ?_
                intro _ hw'
                obtain ⟨nq, hw''⟩ := hw'
                subst hw''
                generalize hw2 : World.drewN _ nq = w10
                have hb4 := HB.trans ((below_dq hw2).mono HB.size)
                clear hw2
                go_wp2
                go_ret2
                exact ⟨by rw [HL.out, HS.out]; rfl, hb4⟩
            · have hsn : (sn == 0) = false := by simpa using a0
              have HS : Hid (startB ⟨me, ta, sn, re, hd, bo⟩ = false) := Lib.hid (by rw [HSB.out]; simp [a0])
              clear HSB
              go_enter Tryz.func31, Tryz.ntmps31
              go_wp2_with (first
                | (refine wpl_box_at rfl 25 (.tmp 0) rfl _ rfl ?_; intro w1 hw; have B1 := hid_alloc0 hw; have HB := hid_grow hw; clear hw; have c0 : w1.cell? ⟨w.heap.size, 0, none⟩ = some (.string me) := B1.cell 0; have c1 : w1.cell? ⟨w.heap.size, 1, none⟩ = some (.string ta) := B1.cell 1; have c2 : w1.cell? ⟨w.heap.size, 2, none⟩ = some (.int .i64 sn) := B1.cell 2; have c3 : w1.cell? ⟨w.heap.size, 3, none⟩ = some (.string re) := B1.cell 3)
                | (go_at_call 32; (with_reducible refine (HE1.out _).mono ?_); rintro e w9 ⟨rfl, rfl⟩)
                | (go_at_call 32; (with_reducible refine (HE2.out _).mono ?_); rintro e w10 ⟨rfl, rfl⟩))
              refine wp_region_QL (by kernel_rfl) (by kernel_rfl) ?_
              repeat (refine QL.step (fun K hK => ?_); go_simp; first | (refine hK _ ?_; clear hK K) | (apply Exists.intro; refine ⟨fun _ => ?_, hK _ ?_⟩; clear hK K))
              refine QL.nil ?_
              intro _ hw'
              obtain ⟨nq, hw''⟩ := hw'
              subst hw''
              generalize hw2 : World.drewN _ nq = w10
              have hb4 := HB.trans ((below_dq hw2).mono HB.size)
              clear hw2
              go_wp2
              go_ret2
              exact ⟨by rw [HL.out, HS.out]; rfl, hb4⟩
          · have a5f : (bl ta).all isSeenB = false := by simpa using a5
            have HE2 : Hid (∀ w, Calls Tryz.prog 32 #[.string ta, .func (.func 55) #[] #[]] w fun e w' => e = .returned (.bool false) ∧ w = w') := Lib.hid (fun w => by have h := HF2.out w; rw [show ta.data.toList.all isSeenB = false from a5f] at h; exact h)
            have HS : Hid (startB ⟨me, ta, sn, re, hd, bo⟩ = false) := Lib.hid (by rw [HSB.out]; simp [a5f])
            clear HSB
            go_enter Tryz.func31, Tryz.ntmps31
            go_wp2_with (first
              | (refine wpl_box_at rfl 25 (.tmp 0) rfl _ rfl ?_; intro w1 hw; have B1 := hid_alloc0 hw; have HB := hid_grow hw; clear hw; have c0 : w1.cell? ⟨w.heap.size, 0, none⟩ = some (.string me) := B1.cell 0; have c1 : w1.cell? ⟨w.heap.size, 1, none⟩ = some (.string ta) := B1.cell 1; have c2 : w1.cell? ⟨w.heap.size, 2, none⟩ = some (.int .i64 sn) := B1.cell 2; have c3 : w1.cell? ⟨w.heap.size, 3, none⟩ = some (.string re) := B1.cell 3)
              | (go_at_call 32; (with_reducible refine (HE1.out _).mono ?_); rintro e w9 ⟨rfl, rfl⟩)
              | (go_at_call 32; (with_reducible refine (HE2.out _).mono ?_); rintro e w10 ⟨rfl, rfl⟩))
            refine wp_region_QL (by kernel_rfl) (by kernel_rfl) ?_
            repeat (refine QL.step (fun K hK => ?_); go_simp; first | (refine hK _ ?_; clear hK K) | (apply Exists.intro; refine ⟨fun _ => ?_, hK _ ?_⟩; clear hK K))
            refine QL.nil ?_
            intro _ hw'
            obtain ⟨nq, hw''⟩ := hw'
            subst hw''
            generalize hw2 : World.drewN _ nq = w10
            have hb4 := HB.trans ((below_dq hw2).mono HB.size)
            clear hw2
            go_wp2
            go_ret2
            exact ⟨by rw [HL.out, HS.out]; rfl, hb4⟩
        · have HS : Hid (startB ⟨me, ta, sn, re, hd, bo⟩ = false) := Lib.hid (by rw [HSB.out]; simp [a4])
          clear HSB
          go_enter Tryz.func31, Tryz.ntmps31
          go_wp2_with (first
            | (refine wpl_box_at rfl 25 (.tmp 0) rfl _ rfl ?_; intro w1 hw; have B1 := hid_alloc0 hw; have HB := hid_grow hw; clear hw; have c0 : w1.cell? ⟨w.heap.size, 0, none⟩ = some (.string me) := B1.cell 0; have c1 : w1.cell? ⟨w.heap.size, 1, none⟩ = some (.string ta) := B1.cell 1; have c2 : w1.cell? ⟨w.heap.size, 2, none⟩ = some (.int .i64 sn) := B1.cell 2; have c3 : w1.cell? ⟨w.heap.size, 3, none⟩ = some (.string re) := B1.cell 3)
            | (go_at_call 32; (with_reducible refine (HE1.out _).mono ?_); rintro e w9 ⟨rfl, rfl⟩))
          refine wp_region_QL (by kernel_rfl) (by kernel_rfl) ?_
          repeat (refine QL.step (fun K hK => ?_); go_simp; first | (refine hK _ ?_; clear hK K) | (apply Exists.intro; refine ⟨fun _ => ?_, hK _ ?_⟩; clear hK K))
          refine QL.nil ?_
          intro _ hw'
          obtain ⟨nq, hw''⟩ := hw'
          subst hw''
          generalize hw2 : World.drewN _ nq = w10
          have hb4 := HB.trans ((below_dq hw2).mono HB.size)
          clear hw2
          go_wp2
          go_ret2
          exact ⟨by rw [HL.out, HS.out]; rfl, hb4⟩
    · have a2f : (bl me).all isUpB = false := by simpa using a2
      have HE1 : Hid (∀ w, Calls Tryz.prog 32 #[.string me, .func (.func 54) #[] #[]] w fun e w' => e = .returned (.bool false) ∧ w = w') := Lib.hid (fun w => by have h := HF1.out w; rw [show me.data.toList.all isUpB = false from a2f] at h; exact h)
      have HS : Hid (startB ⟨me, ta, sn, re, hd, bo⟩ = false) := Lib.hid (by rw [HSB.out]; simp [a2f])
      clear HSB
      go_enter Tryz.func31, Tryz.ntmps31
      go_wp2_with (first
        | (refine wpl_box_at rfl 25 (.tmp 0) rfl _ rfl ?_; intro w1 hw; have B1 := hid_alloc0 hw; have HB := hid_grow hw; clear hw; have c0 : w1.cell? ⟨w.heap.size, 0, none⟩ = some (.string me) := B1.cell 0; have c1 : w1.cell? ⟨w.heap.size, 1, none⟩ = some (.string ta) := B1.cell 1; have c2 : w1.cell? ⟨w.heap.size, 2, none⟩ = some (.int .i64 sn) := B1.cell 2; have c3 : w1.cell? ⟨w.heap.size, 3, none⟩ = some (.string re) := B1.cell 3)
        | (go_at_call 32; (with_reducible refine (HE1.out _).mono ?_); rintro e w9 ⟨rfl, rfl⟩))
      refine wp_region_QL (by kernel_rfl) (by kernel_rfl) ?_
      repeat (refine QL.step (fun K hK => ?_); go_simp; first | (refine hK _ ?_; clear hK K) | (apply Exists.intro; refine ⟨fun _ => ?_, hK _ ?_⟩; clear hK K))
      refine QL.nil ?_
      intro _ hw'
      obtain ⟨nq, hw''⟩ := hw'
      subst hw''
      generalize hw2 : World.drewN _ nq = w10
      have hb4 := HB.trans ((below_dq hw2).mono HB.size)
      clear hw2
      go_wp2
      go_ret2
      exact ⟨by rw [HL.out, HS.out]; rfl, hb4⟩
  · have HS : Hid (startB ⟨me, ta, sn, re, hd, bo⟩ = false) := Lib.hid (by rw [HSB.out]; simp [a1])
    clear HSB
    go_enter Tryz.func31, Tryz.ntmps31
    go_wp2_with (first
      | (refine wpl_box_at rfl 25 (.tmp 0) rfl _ rfl ?_; intro w1 hw; have B1 := hid_alloc0 hw; have HB := hid_grow hw; clear hw; have c0 : w1.cell? ⟨w.heap.size, 0, none⟩ = some (.string me) := B1.cell 0; have c1 : w1.cell? ⟨w.heap.size, 1, none⟩ = some (.string ta) := B1.cell 1; have c2 : w1.cell? ⟨w.heap.size, 2, none⟩ = some (.int .i64 sn) := B1.cell 2; have c3 : w1.cell? ⟨w.heap.size, 3, none⟩ = some (.string re) := B1.cell 3))
    refine wp_region_QL (by kernel_rfl) (by kernel_rfl) ?_
    repeat (refine QL.step (fun K hK => ?_); go_simp; first | (refine hK _ ?_; clear hK K) | (apply Exists.intro; refine ⟨fun _ => ?_, hK _ ?_⟩; clear hK K))
    refine QL.nil ?_
    intro _ hw'
    obtain ⟨nq, hw''⟩ := hw'
    subst hw''
    generalize hw2 : World.drewN _ nq = w10
    have hb4 := HB.trans ((below_dq hw2).mono HB.size)
    clear hw2
    go_wp2
    go_ret2
    exact ⟨by rw [HL.out, HS.out]; rfl, hb4⟩
end Go.Proofs.YtbehakabglegjaaGreatDoor
namespace Go.Proofs.YtbehakabglegjaaGreatDoor
set_option linter.unusedVariables false
set_option linter.unusedSimpArgs false
/-- A feed behind a line of the head: the message so far, n bytes of it. -/
def Fs.line (f : Fs) (M : Ms) (n : Nat) : Fs := { f with m := M, tok := [], head := n, pos := f.pos + n, about := 1, next := 6 }
theorem txt_bl (s : ByteArray) : txt (bl s) = s := by cases s; rfl
theorem bl_len (s : ByteArray) : (bl s).length = s.size := by cases s; rfl
/-- What holds of a feed that waits for a message. -/
structure Idle (f : Fs) : Prop where
  beg : f.begin = f
  shut : f.shut = false
theorem Idle.m {f : Fs} (h : Idle f) : f.m = Ms.zero := by rw [← h.beg]; rfl
theorem Idle.tok {f : Fs} (h : Idle f) : f.tok = [] := by rw [← h.beg]; rfl
theorem Idle.head {f : Fs} (h : Idle f) : f.head = 0 := by rw [← h.beg]; rfl
theorem Idle.left {f : Fs} (h : Idle f) : f.left = 0 := by rw [← h.beg]; rfl
theorem Idle.size {f : Fs} (h : Idle f) : f.size = 0 := by rw [← h.beg]; rfl
theorem Idle.about {f : Fs} (h : Idle f) : f.about = 0 := by rw [← h.beg]; rfl
theorem Idle.next {f : Fs} (h : Idle f) : f.next = if f.ans then 2 else 0 := by
  have e := congrArg Fs.next h.beg
  rw [← e]; rfl
theorem ofNat_toNat {n : Nat} (h : n < 256) : (UInt8.ofNat n).toNat = n := by rw [UInt8.toNat_ofNat']; omega
theorem decDigits_step {n : Nat} (h : ¬ n < 10) : Lib.decDigits n = Lib.decDigits (n / 10) ++ [UInt8.ofNat (48 + n % 10)] := by
  conv => lhs; rw [Lib.decDigits]
  rw [dif_neg h]
theorem decV_app (l : List UInt8) (c : UInt8) : decV (l ++ [c]) = 10 * decV l + (c.toNat - 48) := by unfold decV; rw [List.foldl_append]; rfl
/-- A numeral: its worth, its digits, how many at most. -/
theorem dec_all (n : Nat) : decV (Lib.decDigits n) = n ∧ (Lib.decDigits n).all isDigB = true ∧ Lib.decDigits n ≠ [] ∧ ∀ k, 0 < k → n < 10 ^ k → (Lib.decDigits n).length ≤ k := by
  induction n using Nat.strongRecOn with
  | _ n ih =>
    by_cases h : n < 10
    · rw [Lib.decDigits_one h]
      have ht := ofNat_toNat (n := 48 + n) (by omega)
      refine ⟨?_, ?_, by simp, fun k hk _ => hk⟩
      · show 10 * 0 + ((UInt8.ofNat (48 + n)).toNat - 48) = n
        omega
      · rw [List.all_cons, List.all_nil, Bool.and_true]
        unfold isDigB
        simp only [ht, Bool.and_eq_true, decide_eq_true_eq]
        omega
    · obtain ⟨h1, h2, h3, h4⟩ := ih (n / 10) (by omega)
      have ht := ofNat_toNat (n := 48 + n % 10) (by omega)
      rw [decDigits_step h]
      refine ⟨?_, ?_, by simp, fun k hk hn => ?_⟩
      · rw [decV_app, h1, ht]; omega
      · rw [List.all_append, h2, List.all_cons, List.all_nil, Bool.and_true, Bool.true_and]
        unfold isDigB
        simp only [ht, Bool.and_eq_true, decide_eq_true_eq]
        omega
      · cases k with
        | zero => omega
        | succ k =>
          rw [Nat.pow_succ] at hn
          cases k with
          | zero => omega
          | succ k =>
            have := h4 (k + 1) (by omega) (by omega)
            rw [List.length_append, List.length_singleton]
            omega
/-- The header that tells the body's length. -/
def lenH (n : Nat) : ByteArray × ByteArray := (txt lengthL, txt (Lib.decDigits n))
end Go.Proofs.YtbehakabglegjaaGreatDoor
