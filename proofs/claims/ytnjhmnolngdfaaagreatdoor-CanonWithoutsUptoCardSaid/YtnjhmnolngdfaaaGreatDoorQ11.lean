/- Layer 2: what stands between two brackets, whatever reads one of them. Layer 2: a value under way: its box, the row of what was read so far, the variables that a closure holds. -/
import Derived.Test.YtnjhmnolngdfaaaGreatDoorQ10
import Derived.Test.YtnjhmnolngdfaaaGreatDoorQ02
namespace Go.Proofs.YtnjhmnolngdfaaaGreatDoor
open Go.RowKit Go.PlainAid
set_option linter.unusedVariables false
set_option linter.unusedSimpArgs false

/-- Nothing has changed but the reader's block and what is not older than base. -/
abbrev Fr (base r : Nat) (w w' : World) : Prop := Bes (fun k => k = r ∨ base ≤ k) w w'
theorem Fr.refl (base r : Nat) (w : World) : Fr base r w w := Bes.of_below (Below.refl _ _)
theorem Fr.trans {base r : Nat} {a b c : World} (h : Fr base r a b) (k : Fr base r b c) : Fr base r a c := Bes.trans h k (fun _ x => x) (fun _ _ x => x)
theorem Fr.mv {base r : Nat} {w w' : World} (h : Mv r w w') : Fr base r w w' := ⟨h.os, h.tape, h.output, h.size, fun k hk hn => h.block k hk (fun e => hn (.inl e))⟩
/-- What a step leaves: the state behind it, or the panic. -/
def GotS {σ : Type} (St : Nat → σ → World → Prop) (base r : Nat) (o : Out σ) (w : World) (e : Ending) (w' : World) : Prop :=
  Fr base r w w' ∧ (match o with
    | .ok y k => e = .returned (.tuple #[]) ∧ St k y w'
    | .bad c p => Pan e w' c p)
theorem GotS.ok {σ : Type} {St : Nat → σ → World → Prop} {base r : Nat} {o : Out σ} {w w' : World} {e : Ending} {y : σ} {k : Nat} (ho : o = .ok y k) (hm : Fr base r w w') (he : e = .returned (.tuple #[])) (hr : St k y w') : GotS St base r o w e w' := by subst ho; exact ⟨hm, he, hr⟩
theorem GotS.bad {σ : Type} {St : Nat → σ → World → Prop} {base r : Nat} {o : Out σ} {w w' : World} {e : Ending} {c : Int} {p : Nat} (ho : o = .bad c p) (hm : Fr base r w w') (hp : Pan e w' c p) : GotS St base r o w e w' := by subst ho; exact ⟨hm, hp⟩
theorem eachL_bad {σ : Type} {s : ByteArray} {endc : Int} {step : Nat → σ → Out σ} {n i : Nat} {x : σ} {c : Int} {p : Nat} (h : step i x = .bad c p) : eachL s endc step (n + 1) i x = .bad c p := by unfold eachL; rw [h]
theorem eachL_end {σ : Type} {s : ByteArray} {endc : Int} {step : Nat → σ → Out σ} {n i : Nat} {x y : σ} {k : Nat} (h : step i x = .ok y k) (h2 : pk s (skipTo s k) = endc) : eachL s endc step (n + 1) i x = .ok y (skipTo s k + 1) := by
  unfold eachL; rw [h]; show (if pk s (skipTo s k) = endc then _ else _) = _; rw [if_pos h2]
theorem eachL_more {σ : Type} {s : ByteArray} {endc : Int} {step : Nat → σ → Out σ} {n i : Nat} {x y : σ} {k : Nat} (h : step i x = .ok y k) (h2 : ¬ pk s (skipTo s k) = endc) (h3 : pk s (skipTo s k) = 44) : eachL s endc step (n + 1) i x = eachL s endc step n (skipTo s (skipTo s k + 1)) y := by
  conv => lhs; unfold eachL
  rw [h]; show (if pk s (skipTo s k) = endc then _ else if pk s (skipTo s k) = 44 then _ else _) = _; rw [if_neg h2, if_pos h3]
theorem eachL_else {σ : Type} {s : ByteArray} {endc : Int} {step : Nat → σ → Out σ} {n i : Nat} {x y : σ} {k : Nat} (h : step i x = .ok y k) (h2 : ¬ pk s (skipTo s k) = endc) (h3 : ¬ pk s (skipTo s k) = 44) : eachL s endc step (n + 1) i x = .bad 3 (skipTo s k) := by
  unfold eachL
  rw [h]; show (if pk s (skipTo s k) = endc then _ else if pk s (skipTo s k) = 44 then _ else _) = _; rw [if_neg h2, if_neg h3]
set_option maxRecDepth 10000 in
set_option maxHeartbeats 4000000 in
theorem each_any {σ : Type} (K : Nat) (caps : Array Value) (endc : Int) (he0 : 0 ≤ endc) (he1 : endc ≤ 255) (step : Nat → σ → Out σ) (St : Nat → σ → World → Prop) (base r : Nat) {s : ByteArray} (hs : s.size ≤ 65536)
    (hK : ∀ args w, (callFunc K args).run Tryz.prog w = .ok (.enter K args) w)
    (hrd : ∀ i x w, St i x w → Rd w r s i) (hmv : ∀ i k x w w', i ≤ k → St i x w → Mv r w w' → Rd w' r s k → St k x w')
    (hgo : ∀ i x, Goes s i (step i x))
    (hone : ∀ i x w, St i x w → i ≤ s.size → Calls Tryz.prog K caps w (GotS St base r (step i x) w))
    {i : Nat} {x : σ} {w : World} (h : St i x w) (hi : i < s.size) :
    Calls Tryz.prog 59 #[At r, .int .u8 endc, .func (.func K) #[] caps] w (GotS St base r (eachTo s endc step i x) w) := by
  have HR := hrd _ _ _ h
  have HF := Fr.refl base r w
  have HX := h
  have c0 := HR.c0
  have c1 := HR.c1
  have f1 := HR.f1
  obtain ⟨j, hj⟩ : ∃ j, j = i + 1 := ⟨_, rfl⟩
  have HJ := Lib.hid hj
  have hjs : j ≤ s.size := by omega
  obtain ⟨k0, hk0⟩ : ∃ k0, k0 = skipTo s j := ⟨_, rfl⟩
  have HK0 := Lib.hid hk0
  have hk0s : k0 ≤ s.size := by rw [hk0]; exact skip_le hjs
  have hmv2 := Lib.hid hmv
  have hone2 := Lib.hid hone
  have hrd2 := Lib.hid hrd
  have hgo2 := Lib.hid hgo
  by_cases hend : pk s k0 = endc
  · have hk0l : k0 < s.size := pk_lt hend he0
    obtain ⟨k2, hk2⟩ : ∃ k2, k2 = k0 + 1 := ⟨_, rfl⟩
    have HK2 := Lib.hid hk2
    have HK : Hid (eachTo s endc step i x = .ok x k2) := Lib.hid (by unfold eachTo; rw [← hj, ← hk0, if_pos hend, hk2])
    clear hj hk0 hk2
    go_enter Tryz.func59, Tryz.ntmps59
    go_wp2_with (first
      | ((with_reducible refine is_store ?_); refine wpl_at rfl (.tmp 12) (.tmp 10) rfl rfl j (by rw [HJ.out]; rfl) HR ?_; intro w2 hr2 hm2; (try replace HX := hmv _ _ _ _ _ (by rw [HJ.out]; omega) HX hm2 hr2); replace HR := hr2; replace HF := HF.trans (Fr.mv hm2); clear hr2 hm2; replace c0 := HR.c0; replace c1 := HR.c1; replace f1 := HR.f1)
      | (go_at_call 37; (with_reducible refine (blanks_any HR hjs hs).mono ?_); rintro e w1 ⟨rfl, hr4, hm⟩; rw [← HK0.out] at hr4; (try replace HX := hmv _ _ _ _ _ (by rw [HK0.out]; exact skip_ge) HX hm hr4); replace HR := hr4; replace HF := HF.trans (Fr.mv hm); clear hr4 hm; replace c0 := HR.c0; replace c1 := HR.c1; replace f1 := HR.f1)
      | (go_at_call 55; (with_reducible refine (peek_b HR).mono ?_); rintro e w1 ⟨rfl, hb⟩; (try replace HX := hmv _ _ _ _ _ (Nat.le_refl _) HX (Mv.of hb) (HR.below hb)); replace HR := HR.below hb; replace HF := HF.trans (Fr.mv (Mv.of hb)); clear hb; replace c0 := HR.c0; replace c1 := HR.c1; replace f1 := HR.f1)
      | ((with_reducible refine is_store ?_); refine wpl_at rfl (.tmp 26) (.tmp 24) rfl rfl k2 (by rw [HK2.out]; rfl) HR ?_; intro w2 hr2 hm2; (try replace HX := hmv _ _ _ _ _ (by rw [HK2.out]; omega) HX hm2 hr2); replace HR := hr2; replace HF := HF.trans (Fr.mv hm2); clear hr2 hm2; replace c0 := HR.c0; replace c1 := HR.c1; replace f1 := HR.f1))
    refine bodyPost_ret (results_none rfl _ _ _) rfl ?_
    exact GotS.ok HK.out HF rfl HX
  · have HKE : Hid (eachTo s endc step i x = eachL s endc step (s.size + 1) k0 x) := Lib.hid (by unfold eachTo; rw [← hj, ← hk0, if_neg hend])
    clear hj hk0
    go_enter Tryz.func59, Tryz.ntmps59
    go_wp2_with (first
      | ((with_reducible refine is_store ?_); refine wpl_at rfl (.tmp 12) (.tmp 10) rfl rfl j (by rw [HJ.out]; rfl) HR ?_; intro w2 hr2 hm2; (try replace HX := hmv _ _ _ _ _ (by rw [HJ.out]; omega) HX hm2 hr2); replace HR := hr2; replace HF := HF.trans (Fr.mv hm2); clear hr2 hm2; replace c0 := HR.c0; replace c1 := HR.c1; replace f1 := HR.f1)
      | (go_at_call 37; (with_reducible refine (blanks_any HR hjs hs).mono ?_); rintro e w1 ⟨rfl, hr4, hm⟩; rw [← HK0.out] at hr4; (try replace HX := hmv _ _ _ _ _ (by rw [HK0.out]; exact skip_ge) HX hm hr4); replace HR := hr4; replace HF := HF.trans (Fr.mv hm); clear hr4 hm; replace c0 := HR.c0; replace c1 := HR.c1; replace f1 := HR.f1)
      | (go_at_call 55; (with_reducible refine (peek_b HR).mono ?_); rintro e w1 ⟨rfl, hb⟩; (try replace HX := hmv _ _ _ _ _ (Nat.le_refl _) HX (Mv.of hb) (HR.below hb)); replace HR := HR.below hb; replace HF := HF.trans (Fr.mv (Mv.of hb)); clear hb; replace c0 := HR.c0; replace c1 := HR.c1; replace f1 := HR.f1))
    have hE0 : (pk s k0 == endc) = false := by simpa using hend
    simp only [hE0]
    go_loopw [] (fun wr => ∃ (k n : Nat) (y : σ), k ≤ s.size ∧ St k y wr ∧ Fr base r w wr ∧ s.size < k + n ∧ Hid (eachL s endc step n k y = eachTo s endc step i x)) (fun wr => s.size - atOf wr r)
    case atStart => exact ⟨k0, s.size + 1, x, hk0s, HX, HF, by omega, Lib.hid HKE.out.symm⟩
    case round =>
      clear HX HR HF c0 c1 f1
      obtain ⟨k, n, y, hk, HX, HF, hkn, HS⟩ := hrel
      have HR := hrd2.out _ _ _ HX
      have c0 := HR.c0
      have c1 := HR.c1
      have f1 := HR.f1
      have hat := HR.at
      obtain ⟨n2, hn2⟩ : ∃ n2, n = n2 + 1 := ⟨n - 1, by omega⟩
      subst hn2
      have hg := hgo2.out k y
      cases ho : step k y with
      | bad c p =>
        have HK : Hid (eachTo s endc step i x = .bad c p) := Lib.hid (HS.out.symm.trans (eachL_bad ho))
        go_wp2_with (go_at_fn K; (with_reducible refine (hone2.out _ _ _ HX hk).mono ?_); rw [ho]; rintro e w1 ⟨hm, ⟨g, rfl, hg⟩⟩)
        exact ⟨rfl, GotS.bad HK.out (HF.trans hm) ⟨g, rfl, hg⟩⟩
      | ok y2 k2 =>
        obtain ⟨hk2, hk2s⟩ := hg y2 k2 ho
        obtain ⟨k3, hk3⟩ : ∃ k3, k3 = skipTo s k2 := ⟨_, rfl⟩
        have HK3 := Lib.hid hk3
        have hk3s : k3 ≤ s.size := by rw [hk3]; exact skip_le hk2s
        have hk3k : k2 ≤ k3 := by rw [hk3]; exact skip_ge
        have HO := Lib.hid ho
        clear hk3 hg ho
        have p0 := pk_ge s k3
        have p1 := pk_le s k3
        by_cases hend2 : pk s k3 = endc
        · have hk3l : k3 < s.size := pk_lt hend2 he0
          obtain ⟨k4, hk4⟩ : ∃ k4, k4 = k3 + 1 := ⟨_, rfl⟩
          have HK4 := Lib.hid hk4
          have HK : Hid (eachTo s endc step i x = .ok y2 k4) := Lib.hid (by rw [hk4, HK3.out]; exact HS.out.symm.trans (eachL_end HO.out (HK3.out ▸ hend2)))
          clear hk4
          go_wp2_with (first
            | (go_at_fn K; (with_reducible refine (hone2.out _ _ _ HX hk).mono ?_); rw [HO.out]; rintro e w1 ⟨hm, rfl, hx4⟩; replace HX := hx4; have HR := hrd2.out _ _ _ hx4; clear hx4; replace HF := HF.trans hm; clear hm; replace c0 := HR.c0; replace c1 := HR.c1; replace f1 := HR.f1)
            | (go_at_call 37; (with_reducible refine (blanks_any HR hk2s hs).mono ?_); rintro e w1 ⟨rfl, hr4, hm⟩; rw [← HK3.out] at hr4; (try replace HX := hmv _ _ _ _ _ (by rw [HK3.out]; exact skip_ge) HX hm hr4); replace HR := hr4; replace HF := HF.trans (Fr.mv hm); clear hr4 hm; replace c0 := HR.c0; replace c1 := HR.c1; replace f1 := HR.f1)
            | (go_at_call 55; (with_reducible refine (peek_b HR).mono ?_); rintro e w1 ⟨rfl, hb⟩; (try replace HX := hmv _ _ _ _ _ (Nat.le_refl _) HX (Mv.of hb) (HR.below hb)); replace HR := HR.below hb; replace HF := HF.trans (Fr.mv (Mv.of hb)); clear hb; replace c0 := HR.c0; replace c1 := HR.c1; replace f1 := HR.f1)
            | ((with_reducible refine is_store ?_); refine wpl_at rfl (.tmp 49) (.tmp 47) rfl rfl k4 (by rw [HK4.out]; rfl) HR ?_; intro w2 hr2 hm2; (try replace HX := hmv _ _ _ _ _ (by rw [HK4.out]; omega) HX hm2 hr2); replace HR := hr2; replace HF := HF.trans (Fr.mv hm2); clear hr2 hm2; replace c0 := HR.c0; replace c1 := HR.c1; replace f1 := HR.f1))
          refine bodyPost_ret (results_none rfl _ _ _) rfl ?_
          exact GotS.ok HK.out HF rfl HX
        · by_cases hcm : pk s k3 = 44
          · have hk3l : k3 < s.size := pk_lt hcm (by omega)
            obtain ⟨k4, hk4⟩ : ∃ k4, k4 = k3 + 1 := ⟨_, rfl⟩
            have HK4 := Lib.hid hk4
            have hk4s : k4 ≤ s.size := by omega
            have hk4k : k < k4 := by omega
            obtain ⟨k5, hk5⟩ : ∃ k5, k5 = skipTo s k4 := ⟨_, rfl⟩
            have HK5 := Lib.hid hk5
            have hk5s : k5 ≤ s.size := by rw [hk5]; exact skip_le hk4s
            have hk5k : k4 ≤ k5 := by rw [hk5]; exact skip_ge
            have HS2 : Hid (eachL s endc step n2 k5 y2 = eachTo s endc step i x) := Lib.hid (by rw [hk5, hk4, HK3.out, ← HS.out]; exact (eachL_more HO.out (HK3.out ▸ hend2) (HK3.out ▸ hcm)).symm)
            clear hk4 hk5
            have hend3 : ¬ (44 : Int) = endc := fun h => hend2 (hcm.trans h)
            go_wp2_with (first
              | (go_at_fn K; (with_reducible refine (hone2.out _ _ _ HX hk).mono ?_); rw [HO.out]; rintro e w1 ⟨hm, rfl, hx4⟩; replace HX := hx4; have HR := hrd2.out _ _ _ hx4; clear hx4; replace HF := HF.trans hm; clear hm; replace c0 := HR.c0; replace c1 := HR.c1; replace f1 := HR.f1)
              | (go_at_call 37; (with_reducible refine (blanks_any HR hk2s hs).mono ?_); rintro e w1 ⟨rfl, hr4, hm⟩; rw [← HK3.out] at hr4; (try replace HX := hmv _ _ _ _ _ (by rw [HK3.out]; exact skip_ge) HX hm hr4); replace HR := hr4; replace HF := HF.trans (Fr.mv hm); clear hr4 hm; replace c0 := HR.c0; replace c1 := HR.c1; replace f1 := HR.f1)
              | (go_at_call 55; (with_reducible refine (peek_b HR).mono ?_); rintro e w1 ⟨rfl, hb⟩; (try replace HX := hmv _ _ _ _ _ (Nat.le_refl _) HX (Mv.of hb) (HR.below hb)); replace HR := HR.below hb; replace HF := HF.trans (Fr.mv (Mv.of hb)); clear hb; replace c0 := HR.c0; replace c1 := HR.c1; replace f1 := HR.f1)
              | ((with_reducible refine is_store ?_); refine wpl_at rfl (.tmp 58) (.tmp 56) rfl rfl k4 (by rw [HK4.out]; rfl) HR ?_; intro w2 hr2 hm2; (try replace HX := hmv _ _ _ _ _ (by rw [HK4.out]; omega) HX hm2 hr2); replace HR := hr2; replace HF := HF.trans (Fr.mv hm2); clear hr2 hm2; replace c0 := HR.c0; replace c1 := HR.c1; replace f1 := HR.f1)
              | (go_at_call 37; (with_reducible refine (blanks_any HR hk4s hs).mono ?_); rintro e w1 ⟨rfl, hr4, hm⟩; rw [← HK5.out] at hr4; (try replace HX := hmv _ _ _ _ _ (by rw [HK5.out]; exact skip_ge) HX hm hr4); replace HR := hr4; replace HF := HF.trans (Fr.mv hm); clear hr4 hm; replace c0 := HR.c0; replace c1 := HR.c1; replace f1 := HR.f1))
            go_roundw
            case rel => exact ⟨k5, n2, y2, hk5s, HX, HF, by omega, HS2⟩
            case measure => rw [HR.at, hat]; omega
          · have HK : Hid (eachTo s endc step i x = .bad 3 k3) := Lib.hid (by rw [HK3.out]; exact HS.out.symm.trans (eachL_else HO.out (HK3.out ▸ hend2) (HK3.out ▸ hcm)))
            go_wp2_with (first
              | (go_at_fn K; (with_reducible refine (hone2.out _ _ _ HX hk).mono ?_); rw [HO.out]; rintro e w1 ⟨hm, rfl, hx4⟩; replace HX := hx4; have HR := hrd2.out _ _ _ hx4; clear hx4; replace HF := HF.trans hm; clear hm; replace c0 := HR.c0; replace c1 := HR.c1; replace f1 := HR.f1)
              | (go_at_call 37; (with_reducible refine (blanks_any HR hk2s hs).mono ?_); rintro e w1 ⟨rfl, hr4, hm⟩; rw [← HK3.out] at hr4; (try replace HX := hmv _ _ _ _ _ (by rw [HK3.out]; exact skip_ge) HX hm hr4); replace HR := hr4; replace HF := HF.trans (Fr.mv hm); clear hr4 hm; replace c0 := HR.c0; replace c1 := HR.c1; replace f1 := HR.f1)
              | (go_at_call 55; (with_reducible refine (peek_b HR).mono ?_); rintro e w1 ⟨rfl, hb⟩; (try replace HX := hmv _ _ _ _ _ (Nat.le_refl _) HX (Mv.of hb) (HR.below hb)); replace HR := HR.below hb; replace HF := HF.trans (Fr.mv (Mv.of hb)); clear hb; replace c0 := HR.c0; replace c1 := HR.c1; replace f1 := HR.f1)
              | (go_at_call 39; (with_reducible refine (fail_any _ _ _ _).mono ?_); rintro e w5 ⟨⟨g, rfl, hg⟩, hb⟩; replace HF := HF.trans (Fr.mv (Mv.of hb))))
            exact ⟨rfl, GotS.bad HK.out HF ⟨g, rfl, hg⟩⟩
end Go.Proofs.YtnjhmnolngdfaaaGreatDoor
namespace Go.Proofs.YtnjhmnolngdfaaaGreatDoor
open Go.RowKit Go.PlainAid
set_option linter.unusedVariables false
set_option linter.unusedSimpArgs false

theorem IBox.mv {r : Nat} {w w' : World} {g : Nat} {t : TypeId} {arr : Array Value} (h : IBox w g t arr) (hm : Mv r w w') (hg : g ≠ r) : IBox w' g t arr := (hm.block g h.lt hg).trans h
/-- The memory of a value under way. -/
structure LK (r : Nat) (s : ByteArray) (b0 b1 gv gr gd : Nat) (dep : Int) (E : TypeId) (size : Nat) (k : Nat) (arr : Array Value) (v : Value) (n : Nat) (xs : List Value) (acc : List JV) (w : World) : Prop where
  rd : Rd w r s k
  gl : Gl w r
  box : IBox w gv 25 arr
  rb : IBox w gr 68 #[At r]
  db : IBox w gd 3 #[.int .i64 dep]
  own : w.ownsRow b1 E size v n xs
  els : ∀ y ∈ acc, IsJV w y ∧ Off (fun q => q < b1 ∨ v.ownBlock = some q) y
  st : r < b0 ∧ b0 ≤ gv ∧ gv < b1 ∧ gr < b1 ∧ gd < b1 ∧ gv ≠ gr ∧ gv ≠ gd ∧ gr ≠ r ∧ gd ≠ r ∧ b1 ≤ w.heap.size
section
variable {r : Nat} {s : ByteArray} {b0 b1 gv gr gd : Nat} {dep : Int} {E : TypeId} {size k : Nat} {arr : Array Value} {v : Value} {n : Nat} {xs : List Value} {acc : List JV} {w w' : World}
theorem LK.mv (h : LK r s b0 b1 gv gr gd dep E size k arr v n xs acc w) (hm : Mv r w w') {k' : Nat} (hr : Rd w' r s k') : LK r s b0 b1 gv gr gd dep E size k' arr v n xs acc w' := by
  obtain ⟨h1, h2, h3, h4, h5, h6, h7, h8, h9, h10⟩ := h.st
  refine ⟨hr, h.gl.mv hm, h.box.mv hm (by omega), h.rb.mv hm (by omega), h.db.mv hm (by omega), hm.own h.own (fun q e he => ?_), fun y hy => ?_, ⟨h1, h2, h3, h4, h5, h6, h7, h8, h9, Nat.le_trans h10 hm.size⟩⟩
  · have := (own_in h.own e).1; have he2 : q = r := he; omega
  · obtain ⟨a, b⟩ := h.els y hy
    exact ⟨IsJV.bes hm a (Off.mono (fun q e => Or.inl (by have e2 : q = r := e; omega)) b), b⟩
theorem LK.below (h : LK r s b0 b1 gv gr gd dep E size k arr v n xs acc w) (hb : Below w.heap.size w w') : LK r s b0 b1 gv gr gd dep E size k arr v n xs acc w' := h.mv (Mv.of hb) (h.rd.below hb)
theorem LK.add (h : LK r s b0 b1 gv gr gd dep E size k arr v n xs acc w) {j : JV} (hj : IsJV w j) {m : Nat} (hm : b1 ≤ m) (hv : ∀ q, v.ownBlock = some q → q < m) (ho : Off (fun q => q < m) j) : LK r s b0 b1 gv gr gd dep E size k arr v n xs (acc ++ [j]) w :=
  ⟨h.rd, h.gl, h.box, h.rb, h.db, h.own, fun y hy => by
    rcases List.mem_append.1 hy with hy | hy
    · exact h.els y hy
    · obtain rfl : y = j := by simpa using hy
      exact ⟨hj, Off.mono (fun q e => e.elim (fun e => Nat.lt_of_lt_of_le e hm) (fun e => hv q e)) ho⟩, h.st⟩
theorem LK.append (h : LK r s b0 b1 gv gr gd dep E size k arr v n xs acc w) {g n' cap : Nat} {xs' : List Value} (ho : w'.ownsRow b1 E size (.slice (some ⟨g, 0, none⟩) n' cap) n' xs') (hg : w.grownBy w' v.ownBlock) (hat : v.ownBlock = some g ∨ g = w.heap.size) :
    LK r s b0 b1 gv gr gd dep E size k arr (.slice (some ⟨g, 0, none⟩) n' cap) n' xs' acc w' ∧ Bes (fun q => v.ownBlock = some q) w w' := by
  obtain ⟨h1, h2, h3, h4, h5, h6, h7, h8, h9, h10⟩ := h.st
  have hb := Bes.grown (X := fun q => v.ownBlock = some q) hg (fun _ e => e)
  have lo : ∀ q, v.ownBlock = some q → b1 ≤ q := fun q e => (own_in h.own e).1
  have hr : r < w.heap.size := h.rd.lt
  have hm : ∀ b, b < b1 → ¬ v.ownBlock = some b := fun b hb e => by have := lo b e; omega
  refine ⟨⟨hb.box h.rd (hm r (by omega)), ?_, hb.box h.box (hm gv h3), hb.box h.rb (hm gr h4), hb.box h.db (hm gd h5), ho, fun y hy => ?_, ⟨h1, h2, h3, h4, h5, h6, h7, h8, h9, Nat.le_trans h10 hb.size⟩⟩, hb⟩
  · exact h.gl.bes hb (fun q hq => hm q (by omega))
  · obtain ⟨a, b⟩ := h.els y hy
    refine ⟨IsJV.bes hb a (Off.mono (fun q e => Or.inr e) b), ?_⟩
    refine Off.mono (fun q e => ?_) (Off.or b (off_heap a))
    rcases e with e | e
    · exact .inl (.inl e)
    · have e2 : g = q := Option.some.inj e
      subst e2
      rcases hat with h | h
      · exact .inl (.inr h)
      · exact .inr (by show w.heap.size ≤ g; omega)
theorem LK.stored (h : LK r s b0 b1 gv gr gd dep E size k arr v n xs acc w) {g : Nat} {xs' : List Value} (hv : v.ownBlock = some g) (ho : w'.ownsRow b1 E size v n xs') (hb : Bes (· = g) w w') : LK r s b0 b1 gv gr gd dep E size k arr v n xs' acc w' := by
  obtain ⟨h1, h2, h3, h4, h5, h6, h7, h8, h9, h10⟩ := h.st
  have lo : b1 ≤ g := (own_in h.own hv).1
  have hm : ∀ b, b < b1 → ¬ b = g := fun b hb => by omega
  refine ⟨hb.box h.rd (hm r (by omega)), h.gl.bes hb (fun q hq => hm q (by omega)), hb.box h.box (hm gv h3), hb.box h.rb (hm gr h4), hb.box h.db (hm gd h5), ho, fun y hy => ?_, ⟨h1, h2, h3, h4, h5, h6, h7, h8, h9, Nat.le_trans h10 hb.size⟩⟩
  obtain ⟨a, b⟩ := h.els y hy
  exact ⟨IsJV.bes hb a (Off.mono (fun q e => Or.inr (by have e2 : q = g := e; rw [e2]; exact hv)) b), b⟩
theorem LK.put (h : LK r s b0 b1 gv gr gd dep E size k arr v n xs acc w) {arr' : Array Value} (hw : Hid (w' = w.setRow gv arr')) : LK r s b0 b1 gv gr gd dep E size k arr' v n xs acc w' ∧ Bes (· = gv) w w' := by
  obtain ⟨h1, h2, h3, h4, h5, h6, h7, h8, h9, h10⟩ := h.st
  have hb := Bes.row (X := fun q => q = gv) hw rfl
  refine ⟨⟨hb.box h.rd (by omega), h.gl.bes hb (fun q hq e => by have e2 : q = gv := e; omega), hid_row hw h.box, hb.box h.rb (fun e => h6 e.symm), hb.box h.db (fun e => h7 e.symm), hb.own h.own (fun q e he => ?_), fun y hy => ?_, ⟨h1, h2, h3, h4, h5, h6, h7, h8, h9, Nat.le_trans h10 hb.size⟩⟩, hb⟩
  · have := (own_in h.own e).1; have he2 : q = gv := he; omega
  · obtain ⟨a, b⟩ := h.els y hy
    exact ⟨IsJV.bes hb a (Off.mono (fun q e => Or.inl (by have e2 : q = gv := e; omega)) b), b⟩
theorem LK.frOwn (h : LK r s b0 b1 gv gr gd dep E size k arr v n xs acc w) {a : World} (hf : Fr b0 r a w) (hb : Bes (fun q => v.ownBlock = some q) w w') : Fr b0 r a w' :=
  hf.trans (Bes.trans hb (Bes.of_below (X := fun _ => False) (Below.refl _ _)) (fun q e => Or.inr (by have := (own_in h.own e).1; have := h.st.2.1; have := h.st.2.2.1; omega)) (fun _ _ e => e.elim))
theorem LK.frG (h : LK r s b0 b1 gv gr gd dep E size k arr v n xs acc w) {a : World} (hf : Fr b0 r a w) {g : Nat} (hg : b0 ≤ g) (hb : Bes (· = g) w w') : Fr b0 r a w' :=
  hf.trans (Bes.trans hb (Bes.of_below (X := fun _ => False) (Below.refl _ _)) (fun q e => Or.inr (by have e2 : q = g := e; omega)) (fun _ _ e => e.elim))
end
/-- A value of kind t whose list lies at u and whose fields lie at f. -/
def KC (t : Int) (u f : Value) : Array Value := #[.int .i64 t, .bool false, .int .i64 0, .string ⟨#[]⟩, u, f]
theorem KC_set4 (t : Int) (u f x : Value) : (KC t u f).setIfInBounds 4 x = KC t x f := rfl
theorem KC_set5 (t : Int) (u f x : Value) : (KC t u f).setIfInBounds 5 x = KC t u x := rfl
theorem info_sl1 : (Tryz.prog.info? 22).map (·.size) = some 1 := by kernel_rfl
theorem info_sl2 : (Tryz.prog.info? 23).map (·.size) = some 1 := by kernel_rfl
theorem info_valueZ : (Tryz.prog.info? 25).map (fun i => (i.zero, i.size, i.bytes)) = some (some (.agg JV.zero.cells), 6, 88) := by kernel_rfl
theorem val_slice0 : ∃ ie z, Tryz.prog.info? 25 = some ie ∧ ie.zero = some z ∧ ie.size = 6 ∧ ie.bytes = 88 ∧ z = .agg JV.zero.cells := by
  have h := info_valueZ
  cases hq : Tryz.prog.info? 25 with
  | none => rw [hq] at h; cases h
  | some ie =>
    rw [hq] at h
    simp only [Option.map_some, Option.some.injEq, Prod.mk.injEq] at h
    exact ⟨ie, _, rfl, h.1, h.2.1, h.2.2, rfl⟩
theorem val_fill : Instr.fill (fun i => some (i * 6, 6)) ((Array.range (1 * 6)).map ((Value.agg JV.zero.cells).cells[· % (Value.agg JV.zero.cells).cells.size]!)) [(0, .agg JV.zero.cells)] = some JV.zero.cells := by kernel_rfl
end Go.Proofs.YtnjhmnolngdfaaaGreatDoor
