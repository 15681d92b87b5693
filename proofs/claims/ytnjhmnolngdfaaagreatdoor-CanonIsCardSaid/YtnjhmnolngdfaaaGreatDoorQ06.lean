/- Layer 2: a number. -/
import Derived.Test.YtnjhmnolngdfaaaGreatDoorQ05
import Derived.Test.YtnjhmnolngdfaaaGreatDoorQ04
import Derived.Test.YtnjhmnolngdfaaaGreatDoorQZip
set_option linter.unusedVariables false
set_option linter.unusedSimpArgs false
set_option maxHeartbeats 16000000
set_option maxRecDepth 100000
namespace Go.Proofs.YtnjhmnolngdfaaaGreatDoor
open Go.RowKit Go.PlainAid
theorem qCG {ops : Array Oper} {rest : List Oper} {o : Oper} {a : Act} {w : World} {Q : Exit → Act → World → Prop} {r : Nat} {s : ByteArray} {i : Nat} (hgd : o.guard = none) (x y : Operand) (ho : o.op = .store 3 x y)
    (hx : a.eval x = .pointer (some ⟨r, 1, none⟩)) (k : Nat) (hy : a.eval y = .int .i64 (k : Int)) (HR : Rd w r s i)
    (h : ∀ w', Rd w' r s k → Mv r w w' → wpList Tryz.prog ops Q rest (a.put o.dst undef) w') : wpList Tryz.prog ops Q (o :: rest) a w :=
  qAs hgd 3 x y ho r 1 hx _ hy _ _ HR (by show 1 < 2; omega) qH5 rfl fun w' hw => h w' (HR.step hw).1 (HR.step hw).2
theorem qBC {w : World} {r : Nat} {s : ByteArray} {i : Nat} (h : Rd w r s i) : Calls Tryz.prog 55 #[At r] w fun e w' => e = .returned (.int .i64 (pk s i)) ∧ Below w.heap.size w w' :=
  (qCE h).mono fun e w' ⟨he, m, hw⟩ => ⟨he, by rw [hw]; exact qHz _ _⟩
theorem qEf (t : ByteArray) (v : Int) (h : Lib.parseIntB 64 t.data.toList = .ok v) (w : World) (ht : t.size ≤ 65536) : Calls Tryz.prog 80 #[.string t, .int .i64 10, .int .i64 64] w fun e w' => Below w.heap.size w w' ∧ e = .returned (.tuple #[.int .i64 v, .nilIface]) :=
  (Tryz.strconv_ParseInt_10_at64_ok t (by omega) v h w).mono fun e w' ⟨he, hw⟩ => ⟨by rcases hw with rfl | ⟨t2, rfl⟩; exact Below.refl _ _; exact Lib.bytesWorld_below _ _ _, he⟩
theorem qCR (t : ByteArray) (h : Lib.parseIntB 64 t.data.toList = .range) {w : World} (he : qFx w 5) (ht : t.size ≤ 65536) : Calls Tryz.prog 80 #[.string t, .int .i64 10, .int .i64 64] w fun e w' => Below w.heap.size w w' ∧ ∃ x tt pp, e = .returned (.tuple #[.int .i64 x, .iface tt pp]) := by
  obtain ⟨ev, h1, h2⟩ := he; exact (Tryz.strconv_ParseInt_10_at64_range t (by omega) h ev w h1 h2).mono fun e w' ⟨N, he, _, _, hb⟩ => ⟨hb, _, _, _, he⟩
theorem qJo {s : ByteArray} {i j : Nat} (hm : pk s i = 45) (hj : j = i + 1) (hd : qBa (pk s j) = false) : qBo s i = .bad 3 j := by
  subst hj; unfold qBo; rw [if_pos hm]; unfold qCm; rw [if_pos hd]
theorem qCw {s : ByteArray} {i j : Nat} (hm : pk s i = 45) (hj : j = i + 1) (hd : qBa (pk s j) = true) (hv : qA2 s j > 9007199254740991) : qBo s i = .bad 5 i := by
  subst hj; unfold qBo; rw [if_pos hm]; unfold qCm; rw [if_neg (by rw [hd]; decide), if_pos hv]
theorem qET {s : ByteArray} {i j : Nat} (hm : pk s i = 45) (hj : j = i + 1) (hd : qBa (pk s j) = true) (hv : ¬ qA2 s j > 9007199254740991) : qBo s i = .ok (-qA2 s j) (qBO s j) := by
  subst hj; unfold qBo; rw [if_pos hm]; unfold qCm; rw [if_neg (by rw [hd]; decide), if_neg hv]; rfl
theorem qJv {s : ByteArray} {i j : Nat} (hm : pk s i ≠ 45) (hj : j = i) (hd : qBa (pk s j) = false) : qBo s i = .bad 3 j := by
  subst hj; unfold qBo; rw [if_neg hm]; unfold qCm; rw [if_pos hd]
theorem qCs {s : ByteArray} {i j : Nat} (hm : pk s i ≠ 45) (hj : j = i) (hd : qBa (pk s j) = true) (hv : qA2 s j > 9007199254740991) : qBo s i = .bad 5 i := by
  subst hj; unfold qBo; rw [if_neg hm]; unfold qCm; rw [if_neg (by rw [hd]; decide), if_pos hv]
theorem qEU {s : ByteArray} {i j : Nat} (hm : pk s i ≠ 45) (hj : j = i) (hd : qBa (pk s j) = true) (hv : ¬ qA2 s j > 9007199254740991) : qBo s i = .ok (qA2 s j) (qBO s j) := by
  subst hj; unfold qBo; rw [if_neg hm]; unfold qCm; rw [if_neg (by rw [hd]; decide), if_neg hv]; rfl
theorem qDj {w : World} {r : Nat} {s : ByteArray} {i : Nat} (h : Rd w r s i) (hG : Gl w r) (hi : i ≤ s.size) (hs : s.size ≤ 65536) :
    Calls Tryz.prog 57 #[At r] w (Got (qBo s i) r s w Num) := by
  have HR := h; have HM := Mv.refl r w; have c0 := HR.c0; have c1 := HR.c1; have f1 := HR.f1; have hbs := get_bt s
  by_cases hm : pk s i = 45
  · have hi2 : i < s.size := qC1 hm (by omega); obtain ⟨j, hj⟩ : ∃ j, j = i + 1 := ⟨_, rfl⟩; have HJ := Lib.hid hj; (have hji : j ≤ s.size := by omega); (have hji2 : i ≤ j := by omega); clear hj; go_enter Tryz.func57, Tryz.ntmps57
    go_wp2_with (first
      | (go_at_call 55; (with_reducible refine (qBC HR).mono ?_); rintro e w1 ⟨rfl, hb⟩; replace HR := HR.below hb; replace HM := HM.trans (Mv.of hb); clear hb; replace c0 := HR.c0; replace c1 := HR.c1; replace f1 := HR.f1)
      | ((with_reducible refine qAF ?_); refine qCG rfl (.tmp 21) (.tmp 19) rfl rfl j (by rw [HJ.out]; rfl) HR ?_; intro w2 hr2 hm2; replace HR := hr2; replace HM := HM.trans hm2; clear hr2 hm2; replace c0 := HR.c0; replace c1 := HR.c1; replace f1 := HR.f1))
    go_loopw [5] (fun cv wr => ∃ k : Nat, cv = .int .i64 (pk s k) ∧ j ≤ k ∧ k ≤ s.size ∧ Rd wr r s k ∧ Mv r w wr ∧ Hid (j = k ∨ (qBa (pk s j) = true ∧ pk s j ≠ 48 ∧ qBX qBa s k = qBX qBa s j))) (fun _ wr => s.size - qHW wr r)
    case atStart => exact ⟨_, rfl, Nat.le_refl _, hji, HR, HM, Lib.hid (.inl rfl)⟩
    case round =>
      obtain ⟨k, rfl, hjk, hk, HR, HM, HS⟩ := hrel; have c0 := HR.c0; have c1 := HR.c1; have f1 := HR.f1; have hat := HR.at; have p0 := qKR s k; have p1 := qLg s k; cases hd : qBa (pk s k)
      · have hq : ¬ (48 ≤ pk s k ∧ pk s k ≤ 57) := fun h => by
          unfold qBa at hd; rw [decide_eq_true h.1, decide_eq_true h.2] at hd; cases hd
        rcases HS.out with hjk2 | ⟨hdj, hn48, hov⟩
        · subst hjk2; have HK := Lib.hid (qJo hm HJ.out hd)
          by_cases q1 : 48 ≤ pk s j
          · have q2 : ¬ pk s j ≤ 57 := fun h => hq ⟨q1, h⟩
            go_wp2_with (go_at_call 39; (with_reducible refine (qAz _ _ _ _).mono ?_); rintro e w5 ⟨⟨g, rfl, hg⟩, hb⟩)
            exact ⟨rfl, Got.bad HK.out (HM.trans (Mv.of hb)) ⟨g, rfl, hg⟩⟩
          · go_wp2_with (go_at_call 39; (with_reducible refine (qAz _ _ _ _).mono ?_); rintro e w5 ⟨⟨g, rfl, hg⟩, hb⟩)
            exact ⟨rfl, Got.bad HK.out (HM.trans (Mv.of hb)) ⟨g, rfl, hg⟩⟩
        · have hke : k = qBO s j := by
            unfold qBO; rw [if_neg hn48, ← hov, qBu hd]
          have HKE := Lib.hid hke; clear hov hke
          by_cases q1 : 48 ≤ pk s k
          · (have q2 : ¬ pk s k ≤ 57 := fun h => hq ⟨q1, h⟩); have hb := qB1 hdj; rw [← HKE.out] at hb; (have hek : ¬ (k : Int) = (j : Int) := by omega); (have hA : 0 ≤ (k : Int) ∧ (k : Int) ≤ (s.size : Int) := by omega); (have hB : 0 ≤ (i : Int) ∧ (i : Int) ≤ (k : Int) := by omega); have hA1 : (k : Int) ≤ (s.size : Int) := hA.2; have hB1 : (i : Int) ≤ (k : Int) := hB.2; (have ht1 : ((k : Int)).toNat = k := by omega); (have ht2 : ((i : Int)).toNat = i := by omega); have hv0 := qBk hdj; rcases qCr (i := i) hdj (.inl ⟨hm, HJ.out⟩) with ⟨hq, hle⟩ | ⟨hq, hge⟩
            · rw [if_pos hm, ← HKE.out] at hq; go_wp2; have HG4 := hG.mv HM; refine qAc (by kernel_rfl) (fun w8 hHeld => ?_); refine TKC 0 63 rfl ?_; (try simp only [Act.put, zA, zB, zC]); refine TKC 1 64 rfl ?_; (try simp only [Act.put, zA, zB, zC]); refine TKC 2 65 rfl ?_; (try simp only [Act.put, zA, zB, zC]); refine TKB 3 66 ?_ rfl ?_ ?_; rotate_left
              · (intro w hSw; (try dsimp only at hSw); have := qAB hSw c0; go_simp; try with_reducible rfl)
              (try simp only [Act.put, zA, zB, zC]); refine TKC 4 67 rfl ?_; (try simp only [Act.put, zA, zB, zC]); refine TKC 5 68 rfl ?_; (try simp only [Act.put, zA, zB, zC]); refine TKC 6 69 rfl ?_; (try simp only [Act.put, zA, zB, zC]); refine TKC 7 70 rfl ?_; (try simp only [Act.put, zA, zB, zC]); refine TKB 8 71 ?_ rfl ?_ ?_; rotate_left
              · (intro w hSw; (try dsimp only at hSw); have := qAB hSw c1; go_simp; try with_reducible rfl)
              (try simp only [Act.put, zA, zB, zC]); refine TKB 9 72 (.string (s.extract i k)) rfl ?_ ?_
              · (intro w hSw; (try dsimp only at hSw); go_simp; try simp only [if_pos hA, if_pos hB, ht1, ht2]; try simp [hA1, hB1])
              (try simp only [Act.put, zA, zB, zC]); have HS8 := (HG4.below hHeld).rng; refine wpAnyH_ready (rs := [10]) (by kernel_rfl) (by simp) ?_; refine AllReadyH.cons (o := ⟨some 73, _, _, _, _, _⟩) rfl (fun K hK => ?_) AllReadyH.nil; go_simp
              (go_at_call 80; (with_reducible refine (qEf _ _ hq _ (by simp; omega)).mono ?_); rintro e w9 ⟨hb3, rfl⟩)
              refine hK.out _ _ (zT hHeld hb3) (fun hHeld2 => ?_); clear hK K hHeld hb3; have hHeld := hHeld2; clear hHeld2; (try simp only [Act.put, zA, zB, zC]); refine TKC 11 62 rfl ?_; (try simp only [Act.put, zA, zB, zC]); refine TKC 12 74 rfl ?_; (try simp only [Act.put, zA, zB, zC]); refine TKC 13 75 rfl ?_; (try simp only [Act.put, zA, zB, zC]); refine TKC 14 6 rfl ?_; (try simp only [Act.put, zA, zB, zC]); refine TKC 15 7 rfl ?_; (try simp only [Act.put, zA, zB, zC]); refine wpAnyH_done (by kernel_rfl) ?_ _; have hb8 := hHeld; clear hHeld HS8; replace HR := HR.below hb8; replace HM := HM.trans (Mv.of hb8); replace c0 := HR.c0; replace c1 := HR.c1; have f1 := HR.f1; clear hb8
              by_cases hbig : qA2 s j > 9007199254740991
              · have HK := Lib.hid (qCw hm HJ.out hdj hbig); (have e1 : ¬ -qA2 s j > 9007199254740991 := by omega); have e2 : -qA2 s j < -9007199254740991 := by omega
                go_wp2_with (go_at_call 39; (with_reducible refine (qAz _ _ _ _).mono ?_); rintro e w5 ⟨⟨g, rfl, hg⟩, hb⟩)
                exact ⟨rfl, Got.bad HK.out (HM.trans (Mv.of hb)) ⟨g, rfl, hg⟩⟩
              · have HK := Lib.hid (qET hm HJ.out hdj hbig); (have e1 : ¬ -qA2 s j > 9007199254740991 := by omega); (have e2 : ¬ -qA2 s j < -9007199254740991 := by omega); go_wp2; refine bodyPost_ret (results_tmp rfl _ _ _) rfl ?_; exact Got.ok HK.out HM rfl (HKE.out ▸ HR)
            · rw [← HKE.out] at hq; have HK := Lib.hid (qCw hm HJ.out hdj (by omega)); go_wp2; have HG4 := hG.mv HM; refine qAc (by kernel_rfl) (fun w8 hHeld => ?_); refine TKC 0 63 rfl ?_; (try simp only [Act.put, zA, zB, zC]); refine TKC 1 64 rfl ?_; (try simp only [Act.put, zA, zB, zC]); refine TKC 2 65 rfl ?_; (try simp only [Act.put, zA, zB, zC]); refine TKB 3 66 ?_ rfl ?_ ?_; rotate_left
              · (intro w hSw; (try dsimp only at hSw); have := qAB hSw c0; go_simp; try with_reducible rfl)
              (try simp only [Act.put, zA, zB, zC]); refine TKC 4 67 rfl ?_; (try simp only [Act.put, zA, zB, zC]); refine TKC 5 68 rfl ?_; (try simp only [Act.put, zA, zB, zC]); refine TKC 6 69 rfl ?_; (try simp only [Act.put, zA, zB, zC]); refine TKC 7 70 rfl ?_; (try simp only [Act.put, zA, zB, zC]); refine TKB 8 71 ?_ rfl ?_ ?_; rotate_left
              · (intro w hSw; (try dsimp only at hSw); have := qAB hSw c1; go_simp; try with_reducible rfl)
              (try simp only [Act.put, zA, zB, zC]); refine TKB 9 72 (.string (s.extract i k)) rfl ?_ ?_
              · (intro w hSw; (try dsimp only at hSw); go_simp; try simp only [if_pos hA, if_pos hB, ht1, ht2]; try simp [hA1, hB1])
              (try simp only [Act.put, zA, zB, zC]); have HS8 := (HG4.below hHeld).rng; refine wpAnyH_ready (rs := [10]) (by kernel_rfl) (by simp) ?_; refine AllReadyH.cons (o := ⟨some 73, _, _, _, _, _⟩) rfl (fun K hK => ?_) AllReadyH.nil; go_simp
              (go_at_call 80; (with_reducible refine (qCR _ hq HS8 (by simp; omega)).mono ?_); rintro e w9 ⟨hb3, xx, tt, pp, rfl⟩)
              refine hK.out _ _ (zT hHeld hb3) (fun hHeld2 => ?_); clear hK K hHeld hb3; have hHeld := hHeld2; clear hHeld2; (try simp only [Act.put, zA, zB, zC]); refine TKC 11 62 rfl ?_; (try simp only [Act.put, zA, zB, zC]); refine TKC 12 74 rfl ?_; (try simp only [Act.put, zA, zB, zC]); refine TKC 13 75 rfl ?_; (try simp only [Act.put, zA, zB, zC]); refine TKC 14 6 rfl ?_; (try simp only [Act.put, zA, zB, zC]); refine TKC 15 7 rfl ?_; (try simp only [Act.put, zA, zB, zC]); refine wpAnyH_done (by kernel_rfl) ?_ _; have hb8 := hHeld; clear hHeld HS8; replace HR := HR.below hb8; replace HM := HM.trans (Mv.of hb8); replace c0 := HR.c0; replace c1 := HR.c1; have f1 := HR.f1; clear hb8
              go_wp2_with (go_at_call 39; (with_reducible refine (qAz _ _ _ _).mono ?_); rintro e w5 ⟨⟨g, rfl, hg⟩, hb⟩)
              exact ⟨rfl, Got.bad HK.out (HM.trans (Mv.of hb)) ⟨g, rfl, hg⟩⟩
          · have hb := qB1 hdj; rw [← HKE.out] at hb; (have hek : ¬ (k : Int) = (j : Int) := by omega); (have hA : 0 ≤ (k : Int) ∧ (k : Int) ≤ (s.size : Int) := by omega); (have hB : 0 ≤ (i : Int) ∧ (i : Int) ≤ (k : Int) := by omega); have hA1 : (k : Int) ≤ (s.size : Int) := hA.2; have hB1 : (i : Int) ≤ (k : Int) := hB.2; (have ht1 : ((k : Int)).toNat = k := by omega); (have ht2 : ((i : Int)).toNat = i := by omega); have hv0 := qBk hdj; rcases qCr (i := i) hdj (.inl ⟨hm, HJ.out⟩) with ⟨hq, hle⟩ | ⟨hq, hge⟩
            · rw [if_pos hm, ← HKE.out] at hq; go_wp2; have HG4 := hG.mv HM; refine qAc (by kernel_rfl) (fun w8 hHeld => ?_); refine TKC 0 63 rfl ?_; (try simp only [Act.put, zA, zB, zC]); refine TKC 1 64 rfl ?_; (try simp only [Act.put, zA, zB, zC]); refine TKC 2 65 rfl ?_; (try simp only [Act.put, zA, zB, zC]); refine TKB 3 66 ?_ rfl ?_ ?_; rotate_left
              · (intro w hSw; (try dsimp only at hSw); have := qAB hSw c0; go_simp; try with_reducible rfl)
              (try simp only [Act.put, zA, zB, zC]); refine TKC 4 67 rfl ?_; (try simp only [Act.put, zA, zB, zC]); refine TKC 5 68 rfl ?_; (try simp only [Act.put, zA, zB, zC]); refine TKC 6 69 rfl ?_; (try simp only [Act.put, zA, zB, zC]); refine TKC 7 70 rfl ?_; (try simp only [Act.put, zA, zB, zC]); refine TKB 8 71 ?_ rfl ?_ ?_; rotate_left
              · (intro w hSw; (try dsimp only at hSw); have := qAB hSw c1; go_simp; try with_reducible rfl)
              (try simp only [Act.put, zA, zB, zC]); refine TKB 9 72 (.string (s.extract i k)) rfl ?_ ?_
              · (intro w hSw; (try dsimp only at hSw); go_simp; try simp only [if_pos hA, if_pos hB, ht1, ht2]; try simp [hA1, hB1])
              (try simp only [Act.put, zA, zB, zC]); have HS8 := (HG4.below hHeld).rng; refine wpAnyH_ready (rs := [10]) (by kernel_rfl) (by simp) ?_; refine AllReadyH.cons (o := ⟨some 73, _, _, _, _, _⟩) rfl (fun K hK => ?_) AllReadyH.nil; go_simp
              (go_at_call 80; (with_reducible refine (qEf _ _ hq _ (by simp; omega)).mono ?_); rintro e w9 ⟨hb3, rfl⟩)
              refine hK.out _ _ (zT hHeld hb3) (fun hHeld2 => ?_); clear hK K hHeld hb3; have hHeld := hHeld2; clear hHeld2; (try simp only [Act.put, zA, zB, zC]); refine TKC 11 62 rfl ?_; (try simp only [Act.put, zA, zB, zC]); refine TKC 12 74 rfl ?_; (try simp only [Act.put, zA, zB, zC]); refine TKC 13 75 rfl ?_; (try simp only [Act.put, zA, zB, zC]); refine TKC 14 6 rfl ?_; (try simp only [Act.put, zA, zB, zC]); refine TKC 15 7 rfl ?_; (try simp only [Act.put, zA, zB, zC]); refine wpAnyH_done (by kernel_rfl) ?_ _; have hb8 := hHeld; clear hHeld HS8; replace HR := HR.below hb8; replace HM := HM.trans (Mv.of hb8); replace c0 := HR.c0; replace c1 := HR.c1; have f1 := HR.f1; clear hb8
              by_cases hbig : qA2 s j > 9007199254740991
              · have HK := Lib.hid (qCw hm HJ.out hdj hbig); (have e1 : ¬ -qA2 s j > 9007199254740991 := by omega); have e2 : -qA2 s j < -9007199254740991 := by omega
                go_wp2_with (go_at_call 39; (with_reducible refine (qAz _ _ _ _).mono ?_); rintro e w5 ⟨⟨g, rfl, hg⟩, hb⟩)
                exact ⟨rfl, Got.bad HK.out (HM.trans (Mv.of hb)) ⟨g, rfl, hg⟩⟩
              · have HK := Lib.hid (qET hm HJ.out hdj hbig); (have e1 : ¬ -qA2 s j > 9007199254740991 := by omega); (have e2 : ¬ -qA2 s j < -9007199254740991 := by omega); go_wp2; refine bodyPost_ret (results_tmp rfl _ _ _) rfl ?_; exact Got.ok HK.out HM rfl (HKE.out ▸ HR)
            · rw [← HKE.out] at hq; have HK := Lib.hid (qCw hm HJ.out hdj (by omega)); go_wp2; have HG4 := hG.mv HM; refine qAc (by kernel_rfl) (fun w8 hHeld => ?_); refine TKC 0 63 rfl ?_; (try simp only [Act.put, zA, zB, zC]); refine TKC 1 64 rfl ?_; (try simp only [Act.put, zA, zB, zC]); refine TKC 2 65 rfl ?_; (try simp only [Act.put, zA, zB, zC]); refine TKB 3 66 ?_ rfl ?_ ?_; rotate_left
              · (intro w hSw; (try dsimp only at hSw); have := qAB hSw c0; go_simp; try with_reducible rfl)
              (try simp only [Act.put, zA, zB, zC]); refine TKC 4 67 rfl ?_; (try simp only [Act.put, zA, zB, zC]); refine TKC 5 68 rfl ?_; (try simp only [Act.put, zA, zB, zC]); refine TKC 6 69 rfl ?_; (try simp only [Act.put, zA, zB, zC]); refine TKC 7 70 rfl ?_; (try simp only [Act.put, zA, zB, zC]); refine TKB 8 71 ?_ rfl ?_ ?_; rotate_left
              · (intro w hSw; (try dsimp only at hSw); have := qAB hSw c1; go_simp; try with_reducible rfl)
              (try simp only [Act.put, zA, zB, zC]); refine TKB 9 72 (.string (s.extract i k)) rfl ?_ ?_
              · (intro w hSw; (try dsimp only at hSw); go_simp; try simp only [if_pos hA, if_pos hB, ht1, ht2]; try simp [hA1, hB1])
              (try simp only [Act.put, zA, zB, zC]); have HS8 := (HG4.below hHeld).rng; refine wpAnyH_ready (rs := [10]) (by kernel_rfl) (by simp) ?_; refine AllReadyH.cons (o := ⟨some 73, _, _, _, _, _⟩) rfl (fun K hK => ?_) AllReadyH.nil; go_simp
              (go_at_call 80; (with_reducible refine (qCR _ hq HS8 (by simp; omega)).mono ?_); rintro e w9 ⟨hb3, xx, tt, pp, rfl⟩)
              refine hK.out _ _ (zT hHeld hb3) (fun hHeld2 => ?_); clear hK K hHeld hb3; have hHeld := hHeld2; clear hHeld2; (try simp only [Act.put, zA, zB, zC]); refine TKC 11 62 rfl ?_; (try simp only [Act.put, zA, zB, zC]); refine TKC 12 74 rfl ?_; (try simp only [Act.put, zA, zB, zC]); refine TKC 13 75 rfl ?_; (try simp only [Act.put, zA, zB, zC]); refine TKC 14 6 rfl ?_; (try simp only [Act.put, zA, zB, zC]); refine TKC 15 7 rfl ?_; (try simp only [Act.put, zA, zB, zC]); refine wpAnyH_done (by kernel_rfl) ?_ _; have hb8 := hHeld; clear hHeld HS8; replace HR := HR.below hb8; replace HM := HM.trans (Mv.of hb8); replace c0 := HR.c0; replace c1 := HR.c1; have f1 := HR.f1; clear hb8
              go_wp2_with (go_at_call 39; (with_reducible refine (qAz _ _ _ _).mono ?_); rintro e w5 ⟨⟨g, rfl, hg⟩, hb⟩)
              exact ⟨rfl, Got.bad HK.out (HM.trans (Mv.of hb)) ⟨g, rfl, hg⟩⟩
      · have hkl := qK7 hd; have hd2 := hd; unfold qBa at hd2; simp only [Bool.and_eq_true, decide_eq_true_eq] at hd2; have d1 := hd2.1; have d2 := hd2.2; clear hd2; obtain ⟨k2, hk2⟩ : ∃ k2, k2 = k + 1 := ⟨_, rfl⟩; have HK2 := Lib.hid hk2; (have hk2s : k2 ≤ s.size := by omega); (have hk2j : j ≤ k2 := by omega); (have hk2m : s.size - k2 < s.size - k := by omega); clear hk2; (have hjl : j < s.size := by omega); (have hj1 : (j : Int) < (s.size : Int) := by omega); have hj2 : ¬ (j : Int) < 0 := by omega
        by_cases hz : bt s j = 48
        · have hz2 : pk s j = 48 := (qBh hjl).trans hz
          have hjk2 : j = k := by
            rcases HS.out with h | ⟨_, hn, _⟩
            · exact h
            · exact absurd hz2 hn
          (have hdj : qBa (pk s j) = true := by rw [hz2]; decide); have HKE : Hid (k2 = qBO s j) := Lib.hid (by unfold qBO; rw [if_pos hz2, HK2.out, hjk2]); clear hjk2; have hb := qB1 hdj; rw [← HKE.out] at hb; (have hek : ¬ (k2 : Int) = (j : Int) := by omega); (have hA : 0 ≤ (k2 : Int) ∧ (k2 : Int) ≤ (s.size : Int) := by omega); (have hB : 0 ≤ (i : Int) ∧ (i : Int) ≤ (k2 : Int) := by omega); have hA1 : (k2 : Int) ≤ (s.size : Int) := hA.2; have hB1 : (i : Int) ≤ (k2 : Int) := hB.2; (have ht1 : ((k2 : Int)).toNat = k2 := by omega); (have ht2 : ((i : Int)).toNat = i := by omega); have hv0 := qBk hdj; rcases qCr (i := i) hdj (.inl ⟨hm, HJ.out⟩) with ⟨hq, hle⟩ | ⟨hq, hge⟩
          · rw [if_pos hm, ← HKE.out] at hq
            go_wp2_with (first
              | (go_at_call 55; (with_reducible refine (qBC HR).mono ?_); rintro e w1 ⟨rfl, hb⟩; replace HR := HR.below hb; replace HM := HM.trans (Mv.of hb); clear hb; replace c0 := HR.c0; replace c1 := HR.c1; replace f1 := HR.f1)
              | ((with_reducible refine qAF ?_); refine qCG rfl (.tmp 42) (.tmp 40) rfl rfl k2 (by rw [HK2.out]; rfl) HR ?_; intro w2 hr2 hm2; replace HR := hr2; replace HM := HM.trans hm2; clear hr2 hm2; replace c0 := HR.c0; replace c1 := HR.c1; replace f1 := HR.f1))
            have HG4 := hG.mv HM; refine qAc (by kernel_rfl) (fun w8 hHeld => ?_); refine TKC 0 63 rfl ?_; (try simp only [Act.put, zA, zB, zC]); refine TKC 1 64 rfl ?_; (try simp only [Act.put, zA, zB, zC]); refine TKC 2 65 rfl ?_; (try simp only [Act.put, zA, zB, zC]); refine TKB 3 66 ?_ rfl ?_ ?_; rotate_left
            · (intro w hSw; (try dsimp only at hSw); have := qAB hSw c0; go_simp; try with_reducible rfl)
            (try simp only [Act.put, zA, zB, zC]); refine TKC 4 67 rfl ?_; (try simp only [Act.put, zA, zB, zC]); refine TKC 5 68 rfl ?_; (try simp only [Act.put, zA, zB, zC]); refine TKC 6 69 rfl ?_; (try simp only [Act.put, zA, zB, zC]); refine TKC 7 70 rfl ?_; (try simp only [Act.put, zA, zB, zC]); refine TKB 8 71 ?_ rfl ?_ ?_; rotate_left
            · (intro w hSw; (try dsimp only at hSw); have := qAB hSw c1; go_simp; try with_reducible rfl)
            (try simp only [Act.put, zA, zB, zC]); refine TKB 9 72 (.string (s.extract i k2)) rfl ?_ ?_
            · (intro w hSw; (try dsimp only at hSw); go_simp; try simp only [if_pos hA, if_pos hB, ht1, ht2]; try simp [hA1, hB1])
            (try simp only [Act.put, zA, zB, zC]); have HS8 := (HG4.below hHeld).rng; refine wpAnyH_ready (rs := [10]) (by kernel_rfl) (by simp) ?_; refine AllReadyH.cons (o := ⟨some 73, _, _, _, _, _⟩) rfl (fun K hK => ?_) AllReadyH.nil; go_simp
            (go_at_call 80; (with_reducible refine (qEf _ _ hq _ (by simp; omega)).mono ?_); rintro e w9 ⟨hb3, rfl⟩)
            refine hK.out _ _ (zT hHeld hb3) (fun hHeld2 => ?_); clear hK K hHeld hb3; have hHeld := hHeld2; clear hHeld2; (try simp only [Act.put, zA, zB, zC]); refine TKC 11 62 rfl ?_; (try simp only [Act.put, zA, zB, zC]); refine TKC 12 74 rfl ?_; (try simp only [Act.put, zA, zB, zC]); refine TKC 13 75 rfl ?_; (try simp only [Act.put, zA, zB, zC]); refine TKC 14 6 rfl ?_; (try simp only [Act.put, zA, zB, zC]); refine TKC 15 7 rfl ?_; (try simp only [Act.put, zA, zB, zC]); refine wpAnyH_done (by kernel_rfl) ?_ _; have hb8 := hHeld; clear hHeld HS8; replace HR := HR.below hb8; replace HM := HM.trans (Mv.of hb8); replace c0 := HR.c0; replace c1 := HR.c1; have f1 := HR.f1; clear hb8
            by_cases hbig : qA2 s j > 9007199254740991
            · have HK := Lib.hid (qCw hm HJ.out hdj hbig); (have e1 : ¬ -qA2 s j > 9007199254740991 := by omega); have e2 : -qA2 s j < -9007199254740991 := by omega
              go_wp2_with (go_at_call 39; (with_reducible refine (qAz _ _ _ _).mono ?_); rintro e w5 ⟨⟨g, rfl, hg⟩, hb⟩)
              exact ⟨rfl, Got.bad HK.out (HM.trans (Mv.of hb)) ⟨g, rfl, hg⟩⟩
            · have HK := Lib.hid (qET hm HJ.out hdj hbig); (have e1 : ¬ -qA2 s j > 9007199254740991 := by omega); (have e2 : ¬ -qA2 s j < -9007199254740991 := by omega); go_wp2; refine bodyPost_ret (results_tmp rfl _ _ _) rfl ?_; exact Got.ok HK.out HM rfl (HKE.out ▸ HR)
          · rw [← HKE.out] at hq; have HK := Lib.hid (qCw hm HJ.out hdj (by omega))
            go_wp2_with (first
              | (go_at_call 55; (with_reducible refine (qBC HR).mono ?_); rintro e w1 ⟨rfl, hb⟩; replace HR := HR.below hb; replace HM := HM.trans (Mv.of hb); clear hb; replace c0 := HR.c0; replace c1 := HR.c1; replace f1 := HR.f1)
              | ((with_reducible refine qAF ?_); refine qCG rfl (.tmp 42) (.tmp 40) rfl rfl k2 (by rw [HK2.out]; rfl) HR ?_; intro w2 hr2 hm2; replace HR := hr2; replace HM := HM.trans hm2; clear hr2 hm2; replace c0 := HR.c0; replace c1 := HR.c1; replace f1 := HR.f1))
            have HG4 := hG.mv HM; refine qAc (by kernel_rfl) (fun w8 hHeld => ?_); refine TKC 0 63 rfl ?_; (try simp only [Act.put, zA, zB, zC]); refine TKC 1 64 rfl ?_; (try simp only [Act.put, zA, zB, zC]); refine TKC 2 65 rfl ?_; (try simp only [Act.put, zA, zB, zC]); refine TKB 3 66 ?_ rfl ?_ ?_; rotate_left
            · (intro w hSw; (try dsimp only at hSw); have := qAB hSw c0; go_simp; try with_reducible rfl)
            (try simp only [Act.put, zA, zB, zC]); refine TKC 4 67 rfl ?_; (try simp only [Act.put, zA, zB, zC]); refine TKC 5 68 rfl ?_; (try simp only [Act.put, zA, zB, zC]); refine TKC 6 69 rfl ?_; (try simp only [Act.put, zA, zB, zC]); refine TKC 7 70 rfl ?_; (try simp only [Act.put, zA, zB, zC]); refine TKB 8 71 ?_ rfl ?_ ?_; rotate_left
            · (intro w hSw; (try dsimp only at hSw); have := qAB hSw c1; go_simp; try with_reducible rfl)
            (try simp only [Act.put, zA, zB, zC]); refine TKB 9 72 (.string (s.extract i k2)) rfl ?_ ?_
            · (intro w hSw; (try dsimp only at hSw); go_simp; try simp only [if_pos hA, if_pos hB, ht1, ht2]; try simp [hA1, hB1])
            (try simp only [Act.put, zA, zB, zC]); have HS8 := (HG4.below hHeld).rng; refine wpAnyH_ready (rs := [10]) (by kernel_rfl) (by simp) ?_; refine AllReadyH.cons (o := ⟨some 73, _, _, _, _, _⟩) rfl (fun K hK => ?_) AllReadyH.nil; go_simp
            (go_at_call 80; (with_reducible refine (qCR _ hq HS8 (by simp; omega)).mono ?_); rintro e w9 ⟨hb3, xx, tt, pp, rfl⟩)
            refine hK.out _ _ (zT hHeld hb3) (fun hHeld2 => ?_); clear hK K hHeld hb3; have hHeld := hHeld2; clear hHeld2; (try simp only [Act.put, zA, zB, zC]); refine TKC 11 62 rfl ?_; (try simp only [Act.put, zA, zB, zC]); refine TKC 12 74 rfl ?_; (try simp only [Act.put, zA, zB, zC]); refine TKC 13 75 rfl ?_; (try simp only [Act.put, zA, zB, zC]); refine TKC 14 6 rfl ?_; (try simp only [Act.put, zA, zB, zC]); refine TKC 15 7 rfl ?_; (try simp only [Act.put, zA, zB, zC]); refine wpAnyH_done (by kernel_rfl) ?_ _; have hb8 := hHeld; clear hHeld HS8; replace HR := HR.below hb8; replace HM := HM.trans (Mv.of hb8); replace c0 := HR.c0; replace c1 := HR.c1; have f1 := HR.f1; clear hb8
            go_wp2_with (go_at_call 39; (with_reducible refine (qAz _ _ _ _).mono ?_); rintro e w5 ⟨⟨g, rfl, hg⟩, hb⟩)
            exact ⟨rfl, Got.bad HK.out (HM.trans (Mv.of hb)) ⟨g, rfl, hg⟩⟩
        · have HS2 : Hid (j = k2 ∨ (qBa (pk s j) = true ∧ pk s j ≠ 48 ∧ qBX qBa s k2 = qBX qBa s j)) := Lib.hid (.inr (by
            rw [HK2.out, ← qCU hkl hd]; rcases HS.out with h | ⟨h1, h2, h3⟩
            · rw [h]; exact ⟨hd, fun h4 => hz (by rw [h, ← qBh hkl]; exact h4), rfl⟩
            · exact ⟨h1, h2, h3⟩))
          go_wp2_with (first
            | (go_at_call 55; (with_reducible refine (qBC HR).mono ?_); rintro e w1 ⟨rfl, hb⟩; replace HR := HR.below hb; replace HM := HM.trans (Mv.of hb); clear hb; replace c0 := HR.c0; replace c1 := HR.c1; replace f1 := HR.f1)
            | ((with_reducible refine qAF ?_); refine qCG rfl (.tmp 42) (.tmp 40) rfl rfl k2 (by rw [HK2.out]; rfl) HR ?_; intro w2 hr2 hm2; replace HR := hr2; replace HM := HM.trans hm2; clear hr2 hm2; replace c0 := HR.c0; replace c1 := HR.c1; replace f1 := HR.f1))
          exact ⟨⟨k2, rfl, hk2j, hk2s, HR, HM, HS2⟩, by rw [HR.at, hat]; exact hk2m⟩
  · have hji := hi; have hji2 : i ≤ i := Nat.le_refl _; go_enter Tryz.func57, Tryz.ntmps57
    go_wp2_with (go_at_call 55; (with_reducible refine (qBC HR).mono ?_); rintro e w1 ⟨rfl, hb⟩; replace HR := HR.below hb; replace HM := HM.trans (Mv.of hb); clear hb; replace c0 := HR.c0; replace c1 := HR.c1; replace f1 := HR.f1)
    go_loopw [5] (fun cv wr => ∃ k : Nat, cv = .int .i64 (pk s k) ∧ i ≤ k ∧ k ≤ s.size ∧ Rd wr r s k ∧ Mv r w wr ∧ Hid (i = k ∨ (qBa (pk s i) = true ∧ pk s i ≠ 48 ∧ qBX qBa s k = qBX qBa s i))) (fun _ wr => s.size - qHW wr r)
    case atStart => exact ⟨_, rfl, Nat.le_refl _, hji, HR, HM, Lib.hid (.inl rfl)⟩
    case round =>
      obtain ⟨k, rfl, hjk, hk, HR, HM, HS⟩ := hrel; have c0 := HR.c0; have c1 := HR.c1; have f1 := HR.f1; have hat := HR.at; have p0 := qKR s k; have p1 := qLg s k; cases hd : qBa (pk s k)
      · have hq : ¬ (48 ≤ pk s k ∧ pk s k ≤ 57) := fun h => by
          unfold qBa at hd; rw [decide_eq_true h.1, decide_eq_true h.2] at hd; cases hd
        rcases HS.out with hjk2 | ⟨hdj, hn48, hov⟩
        · subst hjk2; have HK := Lib.hid (qJv hm rfl hd)
          by_cases q1 : 48 ≤ pk s i
          · have q2 : ¬ pk s i ≤ 57 := fun h => hq ⟨q1, h⟩
            go_wp2_with (go_at_call 39; (with_reducible refine (qAz _ _ _ _).mono ?_); rintro e w5 ⟨⟨g, rfl, hg⟩, hb⟩)
            exact ⟨rfl, Got.bad HK.out (HM.trans (Mv.of hb)) ⟨g, rfl, hg⟩⟩
          · go_wp2_with (go_at_call 39; (with_reducible refine (qAz _ _ _ _).mono ?_); rintro e w5 ⟨⟨g, rfl, hg⟩, hb⟩)
            exact ⟨rfl, Got.bad HK.out (HM.trans (Mv.of hb)) ⟨g, rfl, hg⟩⟩
        · have hke : k = qBO s i := by
            unfold qBO; rw [if_neg hn48, ← hov, qBu hd]
          have HKE := Lib.hid hke; clear hov hke
          by_cases q1 : 48 ≤ pk s k
          · (have q2 : ¬ pk s k ≤ 57 := fun h => hq ⟨q1, h⟩); have hb := qB1 hdj; rw [← HKE.out] at hb; (have hek : ¬ (k : Int) = (i : Int) := by omega); (have hA : 0 ≤ (k : Int) ∧ (k : Int) ≤ (s.size : Int) := by omega); (have hB : 0 ≤ (i : Int) ∧ (i : Int) ≤ (k : Int) := by omega); have hA1 : (k : Int) ≤ (s.size : Int) := hA.2; have hB1 : (i : Int) ≤ (k : Int) := hB.2; (have ht1 : ((k : Int)).toNat = k := by omega); (have ht2 : ((i : Int)).toNat = i := by omega); have hv0 := qBk hdj; rcases qCr (i := i) hdj (.inr ⟨hm, rfl⟩) with ⟨hq, hle⟩ | ⟨hq, hge⟩
            · rw [if_neg hm, ← HKE.out] at hq; go_wp2; have HG4 := hG.mv HM; refine qAc (by kernel_rfl) (fun w8 hHeld => ?_); refine TKC 0 63 rfl ?_; (try simp only [Act.put, zA, zB, zC]); refine TKC 1 64 rfl ?_; (try simp only [Act.put, zA, zB, zC]); refine TKC 2 65 rfl ?_; (try simp only [Act.put, zA, zB, zC]); refine TKB 3 66 ?_ rfl ?_ ?_; rotate_left
              · (intro w hSw; (try dsimp only at hSw); have := qAB hSw c0; go_simp; try with_reducible rfl)
              (try simp only [Act.put, zA, zB, zC]); refine TKC 4 67 rfl ?_; (try simp only [Act.put, zA, zB, zC]); refine TKC 5 68 rfl ?_; (try simp only [Act.put, zA, zB, zC]); refine TKC 6 69 rfl ?_; (try simp only [Act.put, zA, zB, zC]); refine TKC 7 70 rfl ?_; (try simp only [Act.put, zA, zB, zC]); refine TKB 8 71 ?_ rfl ?_ ?_; rotate_left
              · (intro w hSw; (try dsimp only at hSw); have := qAB hSw c1; go_simp; try with_reducible rfl)
              (try simp only [Act.put, zA, zB, zC]); refine TKB 9 72 (.string (s.extract i k)) rfl ?_ ?_
              · (intro w hSw; (try dsimp only at hSw); go_simp; try simp only [if_pos hA, if_pos hB, ht1, ht2]; try simp [hA1, hB1])
              (try simp only [Act.put, zA, zB, zC]); have HS8 := (HG4.below hHeld).rng; refine wpAnyH_ready (rs := [10]) (by kernel_rfl) (by simp) ?_; refine AllReadyH.cons (o := ⟨some 73, _, _, _, _, _⟩) rfl (fun K hK => ?_) AllReadyH.nil; go_simp
              (go_at_call 80; (with_reducible refine (qEf _ _ hq _ (by simp; omega)).mono ?_); rintro e w9 ⟨hb3, rfl⟩)
              refine hK.out _ _ (zT hHeld hb3) (fun hHeld2 => ?_); clear hK K hHeld hb3; have hHeld := hHeld2; clear hHeld2; (try simp only [Act.put, zA, zB, zC]); refine TKC 11 62 rfl ?_; (try simp only [Act.put, zA, zB, zC]); refine TKC 12 74 rfl ?_; (try simp only [Act.put, zA, zB, zC]); refine TKC 13 75 rfl ?_; (try simp only [Act.put, zA, zB, zC]); refine TKC 14 6 rfl ?_; (try simp only [Act.put, zA, zB, zC]); refine TKC 15 7 rfl ?_; (try simp only [Act.put, zA, zB, zC]); refine wpAnyH_done (by kernel_rfl) ?_ _; have hb8 := hHeld; clear hHeld HS8; replace HR := HR.below hb8; replace HM := HM.trans (Mv.of hb8); replace c0 := HR.c0; replace c1 := HR.c1; have f1 := HR.f1; clear hb8
              by_cases hbig : qA2 s i > 9007199254740991
              · have HK := Lib.hid (qCs hm rfl hdj hbig); have e1 : 9007199254740991 < qA2 s i := hbig
                go_wp2_with (go_at_call 39; (with_reducible refine (qAz _ _ _ _).mono ?_); rintro e w5 ⟨⟨g, rfl, hg⟩, hb⟩)
                exact ⟨rfl, Got.bad HK.out (HM.trans (Mv.of hb)) ⟨g, rfl, hg⟩⟩
              · have HK := Lib.hid (qEU hm rfl hdj hbig); have e1 : ¬ 9007199254740991 < qA2 s i := hbig; (have e2 : ¬ qA2 s i < -9007199254740991 := by omega); go_wp2; refine bodyPost_ret (results_tmp rfl _ _ _) rfl ?_; exact Got.ok HK.out HM rfl (HKE.out ▸ HR)
            · rw [← HKE.out] at hq; have HK := Lib.hid (qCs hm rfl hdj (by omega)); go_wp2; have HG4 := hG.mv HM; refine qAc (by kernel_rfl) (fun w8 hHeld => ?_); refine TKC 0 63 rfl ?_; (try simp only [Act.put, zA, zB, zC]); refine TKC 1 64 rfl ?_; (try simp only [Act.put, zA, zB, zC]); refine TKC 2 65 rfl ?_; (try simp only [Act.put, zA, zB, zC]); refine TKB 3 66 ?_ rfl ?_ ?_; rotate_left
              · (intro w hSw; (try dsimp only at hSw); have := qAB hSw c0; go_simp; try with_reducible rfl)
              (try simp only [Act.put, zA, zB, zC]); refine TKC 4 67 rfl ?_; (try simp only [Act.put, zA, zB, zC]); refine TKC 5 68 rfl ?_; (try simp only [Act.put, zA, zB, zC]); refine TKC 6 69 rfl ?_; (try simp only [Act.put, zA, zB, zC]); refine TKC 7 70 rfl ?_; (try simp only [Act.put, zA, zB, zC]); refine TKB 8 71 ?_ rfl ?_ ?_; rotate_left
              · (intro w hSw; (try dsimp only at hSw); have := qAB hSw c1; go_simp; try with_reducible rfl)
              (try simp only [Act.put, zA, zB, zC]); refine TKB 9 72 (.string (s.extract i k)) rfl ?_ ?_
              · (intro w hSw; (try dsimp only at hSw); go_simp; try simp only [if_pos hA, if_pos hB, ht1, ht2]; try simp [hA1, hB1])
              (try simp only [Act.put, zA, zB, zC]); have HS8 := (HG4.below hHeld).rng; refine wpAnyH_ready (rs := [10]) (by kernel_rfl) (by simp) ?_; refine AllReadyH.cons (o := ⟨some 73, _, _, _, _, _⟩) rfl (fun K hK => ?_) AllReadyH.nil; go_simp
              (go_at_call 80; (with_reducible refine (qCR _ hq HS8 (by simp; omega)).mono ?_); rintro e w9 ⟨hb3, xx, tt, pp, rfl⟩)
              refine hK.out _ _ (zT hHeld hb3) (fun hHeld2 => ?_); clear hK K hHeld hb3; have hHeld := hHeld2; clear hHeld2; (try simp only [Act.put, zA, zB, zC]); refine TKC 11 62 rfl ?_; (try simp only [Act.put, zA, zB, zC]); refine TKC 12 74 rfl ?_; (try simp only [Act.put, zA, zB, zC]); refine TKC 13 75 rfl ?_; (try simp only [Act.put, zA, zB, zC]); refine TKC 14 6 rfl ?_; (try simp only [Act.put, zA, zB, zC]); refine TKC 15 7 rfl ?_; (try simp only [Act.put, zA, zB, zC]); refine wpAnyH_done (by kernel_rfl) ?_ _; have hb8 := hHeld; clear hHeld HS8; replace HR := HR.below hb8; replace HM := HM.trans (Mv.of hb8); replace c0 := HR.c0; replace c1 := HR.c1; have f1 := HR.f1; clear hb8
              go_wp2_with (go_at_call 39; (with_reducible refine (qAz _ _ _ _).mono ?_); rintro e w5 ⟨⟨g, rfl, hg⟩, hb⟩)
              exact ⟨rfl, Got.bad HK.out (HM.trans (Mv.of hb)) ⟨g, rfl, hg⟩⟩
          · have hb := qB1 hdj; rw [← HKE.out] at hb; (have hek : ¬ (k : Int) = (i : Int) := by omega); (have hA : 0 ≤ (k : Int) ∧ (k : Int) ≤ (s.size : Int) := by omega); (have hB : 0 ≤ (i : Int) ∧ (i : Int) ≤ (k : Int) := by omega); have hA1 : (k : Int) ≤ (s.size : Int) := hA.2; have hB1 : (i : Int) ≤ (k : Int) := hB.2; (have ht1 : ((k : Int)).toNat = k := by omega); (have ht2 : ((i : Int)).toNat = i := by omega); have hv0 := qBk hdj; rcases qCr (i := i) hdj (.inr ⟨hm, rfl⟩) with ⟨hq, hle⟩ | ⟨hq, hge⟩
            · rw [if_neg hm, ← HKE.out] at hq; go_wp2; have HG4 := hG.mv HM; refine qAc (by kernel_rfl) (fun w8 hHeld => ?_); refine TKC 0 63 rfl ?_; (try simp only [Act.put, zA, zB, zC]); refine TKC 1 64 rfl ?_; (try simp only [Act.put, zA, zB, zC]); refine TKC 2 65 rfl ?_; (try simp only [Act.put, zA, zB, zC]); refine TKB 3 66 ?_ rfl ?_ ?_; rotate_left
              · (intro w hSw; (try dsimp only at hSw); have := qAB hSw c0; go_simp; try with_reducible rfl)
              (try simp only [Act.put, zA, zB, zC]); refine TKC 4 67 rfl ?_; (try simp only [Act.put, zA, zB, zC]); refine TKC 5 68 rfl ?_; (try simp only [Act.put, zA, zB, zC]); refine TKC 6 69 rfl ?_; (try simp only [Act.put, zA, zB, zC]); refine TKC 7 70 rfl ?_; (try simp only [Act.put, zA, zB, zC]); refine TKB 8 71 ?_ rfl ?_ ?_; rotate_left
              · (intro w hSw; (try dsimp only at hSw); have := qAB hSw c1; go_simp; try with_reducible rfl)
              (try simp only [Act.put, zA, zB, zC]); refine TKB 9 72 (.string (s.extract i k)) rfl ?_ ?_
              · (intro w hSw; (try dsimp only at hSw); go_simp; try simp only [if_pos hA, if_pos hB, ht1, ht2]; try simp [hA1, hB1])
              (try simp only [Act.put, zA, zB, zC]); have HS8 := (HG4.below hHeld).rng; refine wpAnyH_ready (rs := [10]) (by kernel_rfl) (by simp) ?_; refine AllReadyH.cons (o := ⟨some 73, _, _, _, _, _⟩) rfl (fun K hK => ?_) AllReadyH.nil; go_simp
              (go_at_call 80; (with_reducible refine (qEf _ _ hq _ (by simp; omega)).mono ?_); rintro e w9 ⟨hb3, rfl⟩)
              refine hK.out _ _ (zT hHeld hb3) (fun hHeld2 => ?_); clear hK K hHeld hb3; have hHeld := hHeld2; clear hHeld2; (try simp only [Act.put, zA, zB, zC]); refine TKC 11 62 rfl ?_; (try simp only [Act.put, zA, zB, zC]); refine TKC 12 74 rfl ?_; (try simp only [Act.put, zA, zB, zC]); refine TKC 13 75 rfl ?_; (try simp only [Act.put, zA, zB, zC]); refine TKC 14 6 rfl ?_; (try simp only [Act.put, zA, zB, zC]); refine TKC 15 7 rfl ?_; (try simp only [Act.put, zA, zB, zC]); refine wpAnyH_done (by kernel_rfl) ?_ _; have hb8 := hHeld; clear hHeld HS8; replace HR := HR.below hb8; replace HM := HM.trans (Mv.of hb8); replace c0 := HR.c0; replace c1 := HR.c1; have f1 := HR.f1; clear hb8
              by_cases hbig : qA2 s i > 9007199254740991
              · have HK := Lib.hid (qCs hm rfl hdj hbig); have e1 : 9007199254740991 < qA2 s i := hbig
                go_wp2_with (go_at_call 39; (with_reducible refine (qAz _ _ _ _).mono ?_); rintro e w5 ⟨⟨g, rfl, hg⟩, hb⟩)
                exact ⟨rfl, Got.bad HK.out (HM.trans (Mv.of hb)) ⟨g, rfl, hg⟩⟩
              · have HK := Lib.hid (qEU hm rfl hdj hbig); have e1 : ¬ 9007199254740991 < qA2 s i := hbig; (have e2 : ¬ qA2 s i < -9007199254740991 := by omega); go_wp2; refine bodyPost_ret (results_tmp rfl _ _ _) rfl ?_; exact Got.ok HK.out HM rfl (HKE.out ▸ HR)
            · rw [← HKE.out] at hq; have HK := Lib.hid (qCs hm rfl hdj (by omega)); go_wp2; have HG4 := hG.mv HM; refine qAc (by kernel_rfl) (fun w8 hHeld => ?_); refine TKC 0 63 rfl ?_; (try simp only [Act.put, zA, zB, zC]); refine TKC 1 64 rfl ?_; (try simp only [Act.put, zA, zB, zC]); refine TKC 2 65 rfl ?_; (try simp only [Act.put, zA, zB, zC]); refine TKB 3 66 ?_ rfl ?_ ?_; rotate_left
              · (intro w hSw; (try dsimp only at hSw); have := qAB hSw c0; go_simp; try with_reducible rfl)
              (try simp only [Act.put, zA, zB, zC]); refine TKC 4 67 rfl ?_; (try simp only [Act.put, zA, zB, zC]); refine TKC 5 68 rfl ?_; (try simp only [Act.put, zA, zB, zC]); refine TKC 6 69 rfl ?_; (try simp only [Act.put, zA, zB, zC]); refine TKC 7 70 rfl ?_; (try simp only [Act.put, zA, zB, zC]); refine TKB 8 71 ?_ rfl ?_ ?_; rotate_left
              · (intro w hSw; (try dsimp only at hSw); have := qAB hSw c1; go_simp; try with_reducible rfl)
              (try simp only [Act.put, zA, zB, zC]); refine TKB 9 72 (.string (s.extract i k)) rfl ?_ ?_
              · (intro w hSw; (try dsimp only at hSw); go_simp; try simp only [if_pos hA, if_pos hB, ht1, ht2]; try simp [hA1, hB1])
              (try simp only [Act.put, zA, zB, zC]); have HS8 := (HG4.below hHeld).rng; refine wpAnyH_ready (rs := [10]) (by kernel_rfl) (by simp) ?_; refine AllReadyH.cons (o := ⟨some 73, _, _, _, _, _⟩) rfl (fun K hK => ?_) AllReadyH.nil; go_simp
              (go_at_call 80; (with_reducible refine (qCR _ hq HS8 (by simp; omega)).mono ?_); rintro e w9 ⟨hb3, xx, tt, pp, rfl⟩)
              refine hK.out _ _ (zT hHeld hb3) (fun hHeld2 => ?_); clear hK K hHeld hb3; have hHeld := hHeld2; clear hHeld2; (try simp only [Act.put, zA, zB, zC]); refine TKC 11 62 rfl ?_; (try simp only [Act.put, zA, zB, zC]); refine TKC 12 74 rfl ?_; (try simp only [Act.put, zA, zB, zC]); refine TKC 13 75 rfl ?_; (try simp only [Act.put, zA, zB, zC]); refine TKC 14 6 rfl ?_; (try simp only [Act.put, zA, zB, zC]); refine TKC 15 7 rfl ?_; (try simp only [Act.put, zA, zB, zC]); refine wpAnyH_done (by kernel_rfl) ?_ _; have hb8 := hHeld; clear hHeld HS8; replace HR := HR.below hb8; replace HM := HM.trans (Mv.of hb8); replace c0 := HR.c0; replace c1 := HR.c1; have f1 := HR.f1; clear hb8
              go_wp2_with (go_at_call 39; (with_reducible refine (qAz _ _ _ _).mono ?_); rintro e w5 ⟨⟨g, rfl, hg⟩, hb⟩)
              exact ⟨rfl, Got.bad HK.out (HM.trans (Mv.of hb)) ⟨g, rfl, hg⟩⟩
      · have hkl := qK7 hd; have hd2 := hd; unfold qBa at hd2; simp only [Bool.and_eq_true, decide_eq_true_eq] at hd2; have d1 := hd2.1; have d2 := hd2.2; clear hd2; obtain ⟨k2, hk2⟩ : ∃ k2, k2 = k + 1 := ⟨_, rfl⟩; have HK2 := Lib.hid hk2; (have hk2s : k2 ≤ s.size := by omega); (have hk2j : i ≤ k2 := by omega); (have hk2m : s.size - k2 < s.size - k := by omega); clear hk2; (have hjl : i < s.size := by omega); (have hj1 : (i : Int) < (s.size : Int) := by omega); have hj2 : ¬ (i : Int) < 0 := by omega
        by_cases hz : bt s i = 48
        · have hz2 : pk s i = 48 := (qBh hjl).trans hz
          have hjk2 : i = k := by
            rcases HS.out with h | ⟨_, hn, _⟩
            · exact h
            · exact absurd hz2 hn
          (have hdj : qBa (pk s i) = true := by rw [hz2]; decide); have HKE : Hid (k2 = qBO s i) := Lib.hid (by unfold qBO; rw [if_pos hz2, HK2.out, hjk2]); clear hjk2; have hb := qB1 hdj; rw [← HKE.out] at hb; (have hek : ¬ (k2 : Int) = (i : Int) := by omega); (have hA : 0 ≤ (k2 : Int) ∧ (k2 : Int) ≤ (s.size : Int) := by omega); (have hB : 0 ≤ (i : Int) ∧ (i : Int) ≤ (k2 : Int) := by omega); have hA1 : (k2 : Int) ≤ (s.size : Int) := hA.2; have hB1 : (i : Int) ≤ (k2 : Int) := hB.2; (have ht1 : ((k2 : Int)).toNat = k2 := by omega); (have ht2 : ((i : Int)).toNat = i := by omega); have hv0 := qBk hdj; rcases qCr (i := i) hdj (.inr ⟨hm, rfl⟩) with ⟨hq, hle⟩ | ⟨hq, hge⟩
          · rw [if_neg hm, ← HKE.out] at hq
            go_wp2_with (first
              | (go_at_call 55; (with_reducible refine (qBC HR).mono ?_); rintro e w1 ⟨rfl, hb⟩; replace HR := HR.below hb; replace HM := HM.trans (Mv.of hb); clear hb; replace c0 := HR.c0; replace c1 := HR.c1; replace f1 := HR.f1)
              | ((with_reducible refine qAF ?_); refine qCG rfl (.tmp 42) (.tmp 40) rfl rfl k2 (by rw [HK2.out]; rfl) HR ?_; intro w2 hr2 hm2; replace HR := hr2; replace HM := HM.trans hm2; clear hr2 hm2; replace c0 := HR.c0; replace c1 := HR.c1; replace f1 := HR.f1))
            have HG4 := hG.mv HM; refine qAc (by kernel_rfl) (fun w8 hHeld => ?_); refine TKC 0 63 rfl ?_; (try simp only [Act.put, zA, zB, zC]); refine TKC 1 64 rfl ?_; (try simp only [Act.put, zA, zB, zC]); refine TKC 2 65 rfl ?_; (try simp only [Act.put, zA, zB, zC]); refine TKB 3 66 ?_ rfl ?_ ?_; rotate_left
            · (intro w hSw; (try dsimp only at hSw); have := qAB hSw c0; go_simp; try with_reducible rfl)
            (try simp only [Act.put, zA, zB, zC]); refine TKC 4 67 rfl ?_; (try simp only [Act.put, zA, zB, zC]); refine TKC 5 68 rfl ?_; (try simp only [Act.put, zA, zB, zC]); refine TKC 6 69 rfl ?_; (try simp only [Act.put, zA, zB, zC]); refine TKC 7 70 rfl ?_; (try simp only [Act.put, zA, zB, zC]); refine TKB 8 71 ?_ rfl ?_ ?_; rotate_left
            · (intro w hSw; (try dsimp only at hSw); have := qAB hSw c1; go_simp; try with_reducible rfl)
            (try simp only [Act.put, zA, zB, zC]); refine TKB 9 72 (.string (s.extract i k2)) rfl ?_ ?_
            · (intro w hSw; (try dsimp only at hSw); go_simp; try simp only [if_pos hA, if_pos hB, ht1, ht2]; try simp [hA1, hB1])
            (try simp only [Act.put, zA, zB, zC]); have HS8 := (HG4.below hHeld).rng; refine wpAnyH_ready (rs := [10]) (by kernel_rfl) (by simp) ?_; refine AllReadyH.cons (o := ⟨some 73, _, _, _, _, _⟩) rfl (fun K hK => ?_) AllReadyH.nil; go_simp
            (go_at_call 80; (with_reducible refine (qEf _ _ hq _ (by simp; omega)).mono ?_); rintro e w9 ⟨hb3, rfl⟩)
            refine hK.out _ _ (zT hHeld hb3) (fun hHeld2 => ?_); clear hK K hHeld hb3; have hHeld := hHeld2; clear hHeld2; (try simp only [Act.put, zA, zB, zC]); refine TKC 11 62 rfl ?_; (try simp only [Act.put, zA, zB, zC]); refine TKC 12 74 rfl ?_; (try simp only [Act.put, zA, zB, zC]); refine TKC 13 75 rfl ?_; (try simp only [Act.put, zA, zB, zC]); refine TKC 14 6 rfl ?_; (try simp only [Act.put, zA, zB, zC]); refine TKC 15 7 rfl ?_; (try simp only [Act.put, zA, zB, zC]); refine wpAnyH_done (by kernel_rfl) ?_ _; have hb8 := hHeld; clear hHeld HS8; replace HR := HR.below hb8; replace HM := HM.trans (Mv.of hb8); replace c0 := HR.c0; replace c1 := HR.c1; have f1 := HR.f1; clear hb8
            by_cases hbig : qA2 s i > 9007199254740991
            · have HK := Lib.hid (qCs hm rfl hdj hbig); have e1 : 9007199254740991 < qA2 s i := hbig
              go_wp2_with (go_at_call 39; (with_reducible refine (qAz _ _ _ _).mono ?_); rintro e w5 ⟨⟨g, rfl, hg⟩, hb⟩)
              exact ⟨rfl, Got.bad HK.out (HM.trans (Mv.of hb)) ⟨g, rfl, hg⟩⟩
            · have HK := Lib.hid (qEU hm rfl hdj hbig); have e1 : ¬ 9007199254740991 < qA2 s i := hbig; (have e2 : ¬ qA2 s i < -9007199254740991 := by omega); go_wp2; refine bodyPost_ret (results_tmp rfl _ _ _) rfl ?_; exact Got.ok HK.out HM rfl (HKE.out ▸ HR)
          · rw [← HKE.out] at hq; have HK := Lib.hid (qCs hm rfl hdj (by omega))
            go_wp2_with (first
              | (go_at_call 55; (with_reducible refine (qBC HR).mono ?_); rintro e w1 ⟨rfl, hb⟩; replace HR := HR.below hb; replace HM := HM.trans (Mv.of hb); clear hb; replace c0 := HR.c0; replace c1 := HR.c1; replace f1 := HR.f1)
              | ((with_reducible refine qAF ?_); refine qCG rfl (.tmp 42) (.tmp 40) rfl rfl k2 (by rw [HK2.out]; rfl) HR ?_; intro w2 hr2 hm2; replace HR := hr2; replace HM := HM.trans hm2; clear hr2 hm2; replace c0 := HR.c0; replace c1 := HR.c1; replace f1 := HR.f1))
            have HG4 := hG.mv HM; refine qAc (by kernel_rfl) (fun w8 hHeld => ?_); refine TKC 0 63 rfl ?_; (try simp only [Act.put, zA, zB, zC]); refine TKC 1 64 rfl ?_; (try simp only [Act.put, zA, zB, zC]); refine TKC 2 65 rfl ?_; (try simp only [Act.put, zA, zB, zC]); refine TKB 3 66 ?_ rfl ?_ ?_; rotate_left
            · (intro w hSw; (try dsimp only at hSw); have := qAB hSw c0; go_simp; try with_reducible rfl)
            (try simp only [Act.put, zA, zB, zC]); refine TKC 4 67 rfl ?_; (try simp only [Act.put, zA, zB, zC]); refine TKC 5 68 rfl ?_; (try simp only [Act.put, zA, zB, zC]); refine TKC 6 69 rfl ?_; (try simp only [Act.put, zA, zB, zC]); refine TKC 7 70 rfl ?_; (try simp only [Act.put, zA, zB, zC]); refine TKB 8 71 ?_ rfl ?_ ?_; rotate_left
            · (intro w hSw; (try dsimp only at hSw); have := qAB hSw c1; go_simp; try with_reducible rfl)
            (try simp only [Act.put, zA, zB, zC]); refine TKB 9 72 (.string (s.extract i k2)) rfl ?_ ?_
            · (intro w hSw; (try dsimp only at hSw); go_simp; try simp only [if_pos hA, if_pos hB, ht1, ht2]; try simp [hA1, hB1])
            (try simp only [Act.put, zA, zB, zC]); have HS8 := (HG4.below hHeld).rng; refine wpAnyH_ready (rs := [10]) (by kernel_rfl) (by simp) ?_; refine AllReadyH.cons (o := ⟨some 73, _, _, _, _, _⟩) rfl (fun K hK => ?_) AllReadyH.nil; go_simp
            (go_at_call 80; (with_reducible refine (qCR _ hq HS8 (by simp; omega)).mono ?_); rintro e w9 ⟨hb3, xx, tt, pp, rfl⟩)
            refine hK.out _ _ (zT hHeld hb3) (fun hHeld2 => ?_); clear hK K hHeld hb3; have hHeld := hHeld2; clear hHeld2; (try simp only [Act.put, zA, zB, zC]); refine TKC 11 62 rfl ?_; (try simp only [Act.put, zA, zB, zC]); refine TKC 12 74 rfl ?_; (try simp only [Act.put, zA, zB, zC]); refine TKC 13 75 rfl ?_; (try simp only [Act.put, zA, zB, zC]); refine TKC 14 6 rfl ?_; (try simp only [Act.put, zA, zB, zC]); refine TKC 15 7 rfl ?_; (try simp only [Act.put, zA, zB, zC]); refine wpAnyH_done (by kernel_rfl) ?_ _; have hb8 := hHeld; clear hHeld HS8; replace HR := HR.below hb8; replace HM := HM.trans (Mv.of hb8); replace c0 := HR.c0; replace c1 := HR.c1; have f1 := HR.f1; clear hb8
            go_wp2_with (go_at_call 39; (with_reducible refine (qAz _ _ _ _).mono ?_); rintro e w5 ⟨⟨g, rfl, hg⟩, hb⟩)
            exact ⟨rfl, Got.bad HK.out (HM.trans (Mv.of hb)) ⟨g, rfl, hg⟩⟩
        · have HS2 : Hid (i = k2 ∨ (qBa (pk s i) = true ∧ pk s i ≠ 48 ∧ qBX qBa s k2 = qBX qBa s i)) := Lib.hid (.inr (by
            rw [HK2.out, ← qCU hkl hd]; rcases HS.out with h | ⟨h1, h2, h3⟩
            · rw [h]; exact ⟨hd, fun h4 => hz (by rw [h, ← qBh hkl]; exact h4), rfl⟩
            · exact ⟨h1, h2, h3⟩))
          go_wp2_with (first
            | (go_at_call 55; (with_reducible refine (qBC HR).mono ?_); rintro e w1 ⟨rfl, hb⟩; replace HR := HR.below hb; replace HM := HM.trans (Mv.of hb); clear hb; replace c0 := HR.c0; replace c1 := HR.c1; replace f1 := HR.f1)
            | ((with_reducible refine qAF ?_); refine qCG rfl (.tmp 42) (.tmp 40) rfl rfl k2 (by rw [HK2.out]; rfl) HR ?_; intro w2 hr2 hm2; replace HR := hr2; replace HM := HM.trans hm2; clear hr2 hm2; replace c0 := HR.c0; replace c1 := HR.c1; replace f1 := HR.f1))
          exact ⟨⟨k2, rfl, hk2j, hk2s, HR, HM, HS2⟩, by rw [HR.at, hat]; exact hk2m⟩
end Go.Proofs.YtnjhmnolngdfaaaGreatDoor
