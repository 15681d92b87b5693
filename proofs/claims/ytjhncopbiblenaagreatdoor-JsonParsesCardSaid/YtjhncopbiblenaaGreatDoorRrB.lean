/- Layer 2, the document's reader (coveyref02): blanks, word. -/
import Derived.Test.YtjhncopbiblenaaGreatDoorRrA
namespace Go.Proofs.YtjhncopbiblenaaGreatDoor
open Go.RowKit Go.PlainAid
set_option linter.unusedVariables false
set_option linter.unusedSimpArgs false
theorem bodyPost_endR {P : Program} {fn : Func} {R : Ending → World → Prop} {a : Act} {w : World} {v : Value}
    (hr : (results fn a.tmps).run P w = .ok v w) (hd : a.defers = []) (hR : R (.returned v) w) : bodyPost P fn R .normal a w := ⟨hd, v, hr, hR⟩
theorem rskip_stop {s : ByteArray} {k : Nat} (h : blankI (bt s k) = false) (hk : k < s.size) : skipTo s k = k := overTo_stop (by rw [pk_in hk]; exact h)
theorem rskip_end {s : ByteArray} {k : Nat} (hk : s.size ≤ k) : skipTo s k = k := overTo_stop (by rw [pk_end hk]; rfl)
theorem rskip_go {s : ByteArray} {k : Nat} (hk : k < s.size) (h : blankI (bt s k) = true) : skipTo s k = skipTo s (k + 1) := overTo_go hk (by rw [pk_in hk]; exact h)
set_option maxRecDepth 10000 in
set_option maxHeartbeats 4000000 in
theorem rblanks_any {w : World} {r : Nat} {s : ByteArray} {i : Nat} (h : RR w r s i 0 0) (hi : i ≤ s.size) (hs : s.size ≤ 65536) :
    Calls Tryz.prog 20 #[At r] w fun e w' => e = .returned (.tuple #[]) ∧ RR w' r s (skipTo s i) 0 0 ∧ Mv r w w' := by
  have hbs := get_bt s
  go_enter Tryz.func20, Tryz.ntmps20
  go_wp2
  go_loopw [] (fun wr => ∃ k : Nat, k ≤ s.size ∧ RR wr r s k 0 0 ∧ Hid (skipTo s k = skipTo s i) ∧ Mv r w wr) (fun wr => s.size - atOf wr r)
  case atStart => exact ⟨i, hi, h, Lib.hid rfl, Mv.refl _ _⟩
  case round =>
    obtain ⟨k, hk, HR, HS, HM⟩ := hrel
    have c0 := HR.c0
    have c1 := HR.c1
    have f1 := HR.f1
    have b0 := bt_nonneg s k
    have b1 := bt_le s k
    have hat := HR.at
    by_cases hlt : k < s.size
    · have hlt' : (k : Int) < (s.size : Int) := by omega
      have hd : decide ((k : Int) < (s.size : Int)) = true := decide_eq_true hlt'
      have h0 : ¬ (k : Int) < 0 := by omega
      by_cases e32 : bt s k = 32
      · have q32 : (bt s k == 32) = true := by rw [e32]; rfl
        have hB : Hid (blankI (bt s k) = true) := Lib.hid (by rw [e32]; rfl)
        clear e32
        go_wp2
        go_quiet (fail)
        go_wp2
        have HQ := (HR.drewN nq).set (x := (k : Int) + 1) (k := k + 1) (by omega)
        exact ⟨⟨k + 1, by omega, HQ.1, Lib.hid ((rskip_go hlt hB.out).symm.trans HS.out), (HM.trans (drewN_mv r wr nq)).trans HQ.2⟩, by rw [HQ.1.at, hat]; omega⟩
      · have q32 : (bt s k == 32) = false := by simpa using e32
        by_cases e10 : bt s k = 10
        · have q10 : (bt s k == 10) = true := by rw [e10]; rfl
          have hB : Hid (blankI (bt s k) = true) := Lib.hid (by rw [e10]; rfl)
          clear e10
          go_wp2
          go_quiet (fail)
          go_wp2
          have HQ := (HR.drewN nq).set (x := (k : Int) + 1) (k := k + 1) (by omega)
          exact ⟨⟨k + 1, by omega, HQ.1, Lib.hid ((rskip_go hlt hB.out).symm.trans HS.out), (HM.trans (drewN_mv r wr nq)).trans HQ.2⟩, by rw [HQ.1.at, hat]; omega⟩
        · have q10 : (bt s k == 10) = false := by simpa using e10
          by_cases e13 : bt s k = 13
          · have q13 : (bt s k == 13) = true := by rw [e13]; rfl
            have hB : Hid (blankI (bt s k) = true) := Lib.hid (by rw [e13]; rfl)
            clear e13
            go_wp2
            go_quiet (fail)
            go_wp2
            have HQ := (HR.drewN nq).set (x := (k : Int) + 1) (k := k + 1) (by omega)
            exact ⟨⟨k + 1, by omega, HQ.1, Lib.hid ((rskip_go hlt hB.out).symm.trans HS.out), (HM.trans (drewN_mv r wr nq)).trans HQ.2⟩, by rw [HQ.1.at, hat]; omega⟩
          · have q13 : (bt s k == 13) = false := by simpa using e13
            by_cases e9 : bt s k = 9
            · have q9 : (bt s k == 9) = true := by rw [e9]; rfl
              have hB : Hid (blankI (bt s k) = true) := Lib.hid (by rw [e9]; rfl)
              clear e9
              go_wp2
              go_quiet (fail)
              go_wp2
              have HQ := (HR.drewN nq).set (x := (k : Int) + 1) (k := k + 1) (by omega)
              exact ⟨⟨k + 1, by omega, HQ.1, Lib.hid ((rskip_go hlt hB.out).symm.trans HS.out), (HM.trans (drewN_mv r wr nq)).trans HQ.2⟩, by rw [HQ.1.at, hat]; omega⟩
            · have q9 : (bt s k == 9) = false := by simpa using e9
              have hB : Hid (blankI (bt s k) = false) := Lib.hid (by unfold blankI; simp; omega)
              clear e32 e10 e13 e9
              go_wp2
              go_quiet (fail)
              go_wp2
              exact bodyPost_endR (results_none rfl _ _ _) rfl ⟨rfl, by rw [← HS.out, rskip_stop hB.out hlt]; exact HR.drewN nq, HM.trans (drewN_mv r wr nq)⟩
    · have hlt' : ¬ (k : Int) < (s.size : Int) := by omega
      have hd : decide ((k : Int) < (s.size : Int)) = false := decide_eq_false hlt'
      go_wp2
      go_quiet (fail)
      go_wp2
      exact bodyPost_endR (results_none rfl _ _ _) rfl ⟨rfl, by rw [← HS.out, rskip_end (by omega)]; exact HR.drewN nq, HM.trans (drewN_mv r wr nq)⟩
set_option maxRecDepth 10000 in
set_option maxHeartbeats 4000000 in
theorem rword_any (v : ByteArray) {w : World} {r : Nat} {s : ByteArray} {i : Nat} (h : RR w r s i 0 0) (hi : i ≤ s.size) (hs : s.size ≤ 65536) (hv : v.size ≤ 65536) :
    Calls Tryz.prog 37 #[At r, .string v] w (RGot (wordTo s v v.size i) r s w Unit0 Nix) := by
  have hbs := get_bt v
  go_enter Tryz.func37, Tryz.ntmps37
  go_wp2
  go_loopw [4] (fun iv wr => ∃ j k : Nat, iv = .int .i64 j ∧ j ≤ v.size ∧ k ≤ s.size ∧ RR wr r s k 0 0 ∧ Hid (wordTo s v (v.size - j) k = wordTo s v v.size i) ∧ Mv r w wr) (fun iv _ => v.size - (intOf iv).toNat)
  case atStart => exact ⟨0, i, rfl, Nat.zero_le _, hi, h, Lib.hid rfl, Mv.refl _ _⟩
  case round =>
    obtain ⟨j, k, rfl, hj, hk, HR, HS, HM⟩ := hrel
    have c0 := HR.c0
    have c1 := HR.c1
    have f1 := HR.f1
    have b0 := bt_nonneg v j
    have b1 := bt_le v j
    by_cases hlt : j < v.size
    · have hlt' : (j : Int) < (v.size : Int) := by omega
      have h0 : ¬ (j : Int) < 0 := by omega
      by_cases hks : k < s.size
      · have hpk := pk_in hks
        by_cases hq : bt s k = bt v j
        · have q1 : (bt s k == bt v j) = true := by simpa using hq
          have HT := Lib.hid ((word_step hlt (hpk.trans hq)).symm.trans HS.out)
          clear hpk hq
          go_wp2_with (go_at_call 35; (with_reducible refine (rnext_in HR hks).mono ?_); rintro e w2 ⟨rfl, m, rfl⟩; replace HR := HR.drewN m; replace HM := HM.trans (drewN_mv r _ m); replace c0 := HR.c0; replace c1 := HR.c1; replace f1 := HR.f1)
          have HQ := HR.set (x := (k : Int) + 1) (k := k + 1) (by omega)
          exact ⟨⟨j + 1, k + 1, by go_num, by omega, by omega, HQ.1, HT, HM.trans HQ.2⟩, by simp [intOf]; omega⟩
        · have q1 : (bt s k == bt v j) = false := by simpa using hq
          have HT := Lib.hid (HS.out.symm.trans (word_bad hlt (fun e => hq (hpk.symm.trans e))))
          clear hpk
          go_wp2_with (first
            | (go_at_call 35; (with_reducible refine (rnext_in HR hks).mono ?_); rintro e w2 ⟨rfl, m, rfl⟩; replace HR := HR.drewN m; replace HM := HM.trans (drewN_mv r _ m); replace c0 := HR.c0; replace c1 := HR.c1; replace f1 := HR.f1)
            | (go_at_call 36; (with_reducible refine (rfail_any _ _ HR).mono ?_); rintro e w3 ⟨rfl, hr, hm⟩))
          exact bodyPost_ret (results_none rfl _ _ _) rfl (RGot.bad HT.out (HM.trans hm) rfl (by decide) hr)
      · have HT := Lib.hid (HS.out.symm.trans (word_bad hlt (fun e => by rw [pk_end (by omega)] at e; omega)))
        go_wp2_with (first
          | (go_at_call 35; (with_reducible refine (rnext_out HR hks).mono ?_); rintro e w2 ⟨rfl, m, rfl⟩; replace HR := HR.drewN m; replace HM := HM.trans (drewN_mv r _ m); replace c0 := HR.c0; replace c1 := HR.c1; replace f1 := HR.f1)
          | (go_at_call 36; (with_reducible refine (rfail_any _ _ HR).mono ?_); rintro e w3 ⟨rfl, hr, hm⟩))
        exact bodyPost_ret (results_none rfl _ _ _) rfl (RGot.bad HT.out (HM.trans hm) rfl (by decide) hr)
    · go_wp2
      exact bodyPost_endR (results_none rfl _ _ _) rfl (RGot.ok (HS.out ▸ word_end hlt) HM rfl HR)
/-- What follows an element: 44 goes on; the last bracket ends all; anything else is amiss. -/
def moreTo (s : ByteArray) (endc : Int) (i : Nat) : Out Bool :=
  if pk s (skipTo s i) = 44 then .ok true (skipTo s (skipTo s i + 1)) else if pk s (skipTo s i) = endc then .ok false (skipTo s i + 1) else .bad 3 (skipTo s i)
abbrev BoolV (b : Bool) (e : Ending) (_ : World) : Prop := e = .returned (.bool b)
abbrev BoolN (e : Ending) : Prop := e = .returned (.bool false)
set_option maxRecDepth 10000 in
set_option maxHeartbeats 4000000 in
theorem rmore_any {endc : Int} {w : World} {r : Nat} {s : ByteArray} {i : Nat} (h : RR w r s i 0 0) (hi : i ≤ s.size) (hs : s.size ≤ 65536) (he : 44 < endc) :
    Calls Tryz.prog 58 #[At r, .int .u8 endc] w (RGot (moreTo s endc i) r s w BoolV BoolN) := by
  have HR := h
  have HM := Mv.refl r w
  obtain ⟨k, hk⟩ : ∃ k, k = skipTo s i := ⟨_, rfl⟩
  have hks : skipTo s i ≤ s.size := overTo_le hi
  rw [← hk] at hks
  have HK := Lib.hid hk
  have hkm : moreTo s endc i = if pk s k = 44 then .ok true (skipTo s (k + 1)) else if pk s k = endc then .ok false (k + 1) else .bad 3 k := by rw [hk]; rfl
  clear hk
  by_cases hlt : k < s.size
  · have hpk := pk_in hlt
    rw [hpk] at hkm
    clear hpk
    by_cases h44 : bt s k = 44
    · have q1 : (bt s k == 44) = true := by rw [h44]; rfl
      have HS : Hid (moreTo s endc i = .ok true (skipTo s (k + 1))) := Lib.hid (by rw [hkm, if_pos h44])
      clear hkm h44
      go_enter Tryz.func58, Tryz.ntmps58
      go_wp2_with (first
      | (go_at_call 20; (with_reducible refine (rblanks_any HR hi hs).mono ?_); rintro e w2 ⟨rfl, hr, hm⟩; rw [← HK.out] at hr; clear hi; have hi : k + 1 ≤ s.size := (by omega); replace HR := hr; replace HM := HM.trans hm; clear hr hm; have c0 := HR.c0; have c1 := HR.c1; have f1 := HR.f1)
      | (go_at_call 35; (with_reducible refine (rnext_in HR hlt).mono ?_); rintro e w2 ⟨rfl, m, rfl⟩; replace HR := HR.drewN m; replace HM := HM.trans (drewN_mv r _ m); clear c0 c1 f1; have c0 := HR.c0; have c1 := HR.c1; have f1 := HR.f1)
      | ((with_reducible refine is_store ?_); refine wpl_rat rfl (.tmp 25) (.tmp 23) rfl rfl (k + 1) (by rfl) HR ?_; intro w4 hr hm; clear c0 c1 f1; replace HR := hr; replace HM := HM.trans hm; clear hr hm; have c0 := HR.c0; have c1 := HR.c1; have f1 := HR.f1)
      | ((with_reducible refine is_store ?_); refine wpl_rat rfl (.tmp 40) (.tmp 38) rfl rfl (k + 1) (by rfl) HR ?_; intro w4 hr hm; clear c0 c1 f1; replace HR := hr; replace HM := HM.trans hm; clear hr hm; have c0 := HR.c0; have c1 := HR.c1; have f1 := HR.f1)
      | (go_at_call 20; (with_reducible refine (rblanks_any HR hi hs).mono ?_); rintro e w2 ⟨rfl, hr, hm⟩; clear c0 c1 f1; replace HR := hr; replace HM := HM.trans hm; clear hr hm; have c0 := HR.c0; have c1 := HR.c1; have f1 := HR.f1)
      | (go_at_call 36; (with_reducible refine (rfail_any _ _ HR).mono ?_); rintro e w3 ⟨rfl, hr, hm⟩; clear c0 c1 f1; replace HR := hr; replace HM := HM.trans hm))
      go_ret
      exact RGot.ok HS.out HM rfl HR
    · have q1 : (bt s k == 44) = false := by simpa using h44
      by_cases hend : bt s k = endc
      · have q2 : (bt s k == endc) = true := by rw [hend]; simp
        have HS : Hid (moreTo s endc i = .ok false (k + 1)) := Lib.hid (by rw [hkm, if_neg h44, if_pos hend])
        clear hkm h44 hend
        go_enter Tryz.func58, Tryz.ntmps58
        go_wp2_with (first
      | (go_at_call 20; (with_reducible refine (rblanks_any HR hi hs).mono ?_); rintro e w2 ⟨rfl, hr, hm⟩; rw [← HK.out] at hr; clear hi; have hi : k + 1 ≤ s.size := (by omega); replace HR := hr; replace HM := HM.trans hm; clear hr hm; have c0 := HR.c0; have c1 := HR.c1; have f1 := HR.f1)
      | (go_at_call 35; (with_reducible refine (rnext_in HR hlt).mono ?_); rintro e w2 ⟨rfl, m, rfl⟩; replace HR := HR.drewN m; replace HM := HM.trans (drewN_mv r _ m); clear c0 c1 f1; have c0 := HR.c0; have c1 := HR.c1; have f1 := HR.f1)
      | ((with_reducible refine is_store ?_); refine wpl_rat rfl (.tmp 25) (.tmp 23) rfl rfl (k + 1) (by rfl) HR ?_; intro w4 hr hm; clear c0 c1 f1; replace HR := hr; replace HM := HM.trans hm; clear hr hm; have c0 := HR.c0; have c1 := HR.c1; have f1 := HR.f1)
      | ((with_reducible refine is_store ?_); refine wpl_rat rfl (.tmp 40) (.tmp 38) rfl rfl (k + 1) (by rfl) HR ?_; intro w4 hr hm; clear c0 c1 f1; replace HR := hr; replace HM := HM.trans hm; clear hr hm; have c0 := HR.c0; have c1 := HR.c1; have f1 := HR.f1)
      | (go_at_call 20; (with_reducible refine (rblanks_any HR hi hs).mono ?_); rintro e w2 ⟨rfl, hr, hm⟩; clear c0 c1 f1; replace HR := hr; replace HM := HM.trans hm; clear hr hm; have c0 := HR.c0; have c1 := HR.c1; have f1 := HR.f1)
      | (go_at_call 36; (with_reducible refine (rfail_any _ _ HR).mono ?_); rintro e w3 ⟨rfl, hr, hm⟩; clear c0 c1 f1; replace HR := hr; replace HM := HM.trans hm))
        go_ret
        exact RGot.ok HS.out HM rfl HR
      · have q2 : (bt s k == endc) = false := by simpa using hend
        have HS : Hid (moreTo s endc i = .bad 3 k) := Lib.hid (by rw [hkm, if_neg h44, if_neg hend])
        clear hkm h44 hend
        go_enter Tryz.func58, Tryz.ntmps58
        go_wp2_with (first
      | (go_at_call 20; (with_reducible refine (rblanks_any HR hi hs).mono ?_); rintro e w2 ⟨rfl, hr, hm⟩; rw [← HK.out] at hr; clear hi; have hi : k + 1 ≤ s.size := (by omega); replace HR := hr; replace HM := HM.trans hm; clear hr hm; have c0 := HR.c0; have c1 := HR.c1; have f1 := HR.f1)
      | (go_at_call 35; (with_reducible refine (rnext_in HR hlt).mono ?_); rintro e w2 ⟨rfl, m, rfl⟩; replace HR := HR.drewN m; replace HM := HM.trans (drewN_mv r _ m); clear c0 c1 f1; have c0 := HR.c0; have c1 := HR.c1; have f1 := HR.f1)
      | ((with_reducible refine is_store ?_); refine wpl_rat rfl (.tmp 25) (.tmp 23) rfl rfl (k + 1) (by rfl) HR ?_; intro w4 hr hm; clear c0 c1 f1; replace HR := hr; replace HM := HM.trans hm; clear hr hm; have c0 := HR.c0; have c1 := HR.c1; have f1 := HR.f1)
      | ((with_reducible refine is_store ?_); refine wpl_rat rfl (.tmp 40) (.tmp 38) rfl rfl (k + 1) (by rfl) HR ?_; intro w4 hr hm; clear c0 c1 f1; replace HR := hr; replace HM := HM.trans hm; clear hr hm; have c0 := HR.c0; have c1 := HR.c1; have f1 := HR.f1)
      | (go_at_call 20; (with_reducible refine (rblanks_any HR hi hs).mono ?_); rintro e w2 ⟨rfl, hr, hm⟩; clear c0 c1 f1; replace HR := hr; replace HM := HM.trans hm; clear hr hm; have c0 := HR.c0; have c1 := HR.c1; have f1 := HR.f1)
      | (go_at_call 36; (with_reducible refine (rfail_any _ _ HR).mono ?_); rintro e w3 ⟨rfl, hr, hm⟩; clear c0 c1 f1; replace HR := hr; replace HM := HM.trans hm))
        go_ret
        exact RGot.bad HS.out HM rfl (by decide) HR
  · have HS : Hid (moreTo s endc i = .bad 3 k) := Lib.hid (by rw [hkm, pk_end (by omega), if_neg (by decide), if_neg (by omega)])
    clear hkm
    go_enter Tryz.func58, Tryz.ntmps58
    go_wp2_with (first
      | (go_at_call 20; (with_reducible refine (rblanks_any HR hi hs).mono ?_); rintro e w2 ⟨rfl, hr, hm⟩; rw [← HK.out] at hr; clear hi; replace HR := hr; replace HM := HM.trans hm; clear hr hm; have c0 := HR.c0; have c1 := HR.c1; have f1 := HR.f1)
      | (go_at_call 35; (with_reducible refine (rnext_out HR hlt).mono ?_); rintro e w2 ⟨rfl, m, rfl⟩; replace HR := HR.drewN m; replace HM := HM.trans (drewN_mv r _ m); clear c0 c1 f1; have c0 := HR.c0; have c1 := HR.c1; have f1 := HR.f1)
      | ((with_reducible refine is_store ?_); refine wpl_rat rfl (.tmp 25) (.tmp 23) rfl rfl (k + 1) (by rfl) HR ?_; intro w4 hr hm; clear c0 c1 f1; replace HR := hr; replace HM := HM.trans hm; clear hr hm; have c0 := HR.c0; have c1 := HR.c1; have f1 := HR.f1)
      | ((with_reducible refine is_store ?_); refine wpl_rat rfl (.tmp 40) (.tmp 38) rfl rfl (k + 1) (by rfl) HR ?_; intro w4 hr hm; clear c0 c1 f1; replace HR := hr; replace HM := HM.trans hm; clear hr hm; have c0 := HR.c0; have c1 := HR.c1; have f1 := HR.f1)
      | (go_at_call 20; (with_reducible refine (rblanks_any HR hi hs).mono ?_); rintro e w2 ⟨rfl, hr, hm⟩; clear c0 c1 f1; replace HR := hr; replace HM := HM.trans hm; clear hr hm; have c0 := HR.c0; have c1 := HR.c1; have f1 := HR.f1)
      | (go_at_call 36; (with_reducible refine (rfail_any _ _ HR).mono ?_); rintro e w3 ⟨rfl, hr, hm⟩; clear c0 c1 f1; replace HR := hr; replace HM := HM.trans hm))
    go_ret
    exact RGot.bad HS.out HM rfl (by decide) HR
end Go.Proofs.YtjhncopbiblenaaGreatDoor
