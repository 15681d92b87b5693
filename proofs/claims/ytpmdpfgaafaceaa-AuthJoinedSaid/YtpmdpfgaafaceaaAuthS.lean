/- Layer 16: the rules 10 to 13 as plain functions; auth.lists. -/
import Derived.Test.YtpmdpfgaafaceaaPairK
import Derived.Test.YtpmdpfgaafaceaaMapD
import Derived.Test.YtpmdpfgaafaceaaAuthR
import Derived.Test.YtpmdpfgaafaceaaAuthP
namespace Go.Proofs.Ytpmdpfgaafaceaa
open Go.RowKit
open Go.Maps (Keyed)
set_option linter.unusedVariables false
set_option linter.unusedSimpArgs false

def evAt (l : List Ev) (i : Nat) : Ev := (l[i]?).getD Ev.zero
def same2 (x y : Ev) : Bool := x.hasKey && y.hasKey && (x.ty.toList == y.ty.toList) && (x.key.toList == y.key.toList)
def DistTo (l : List Ev) (k : Nat) : Prop := ∀ i, i < k → ∀ m, m < i → same2 (evAt l i) (evAt l m) = false
instance (l : List Ev) (k : Nat) : Decidable (DistTo l k) := by unfold DistTo; infer_instance
def c10 (l : List Ev) : Bool := !decide (DistTo l l.length)
def strayB (ex x : Ev) : Bool := !(x.hasKey && mayE (selL ex) x.ty x.key)
def otherB (ex x : Ev) : Bool := !(x.room.toList == ex.room.toList)
def c11 (ex : Ev) (l : List Ev) : Bool := l.any (strayB ex)
def c12 (ex : Ev) (l : List Ev) : Bool := l.any (otherB ex)
def listsS (ex : Ev) (l : List Ev) : Int :=
  if c10 l = true then 10 else if c11 ex l = true then 11 else if c12 ex l = true then 12 else if standsB l ⟨#[109, 46, 114, 111, 111, 109, 46, 99, 114, 101, 97, 116, 101]⟩ ⟨#[]⟩ = true then 0 else 13
theorem evAt_some {l : List Ev} {k : Nat} {x : Ev} (h : l[k]? = some x) : evAt l k = x := by unfold evAt; rw [h]; rfl
theorem dist_step {l : List Ev} {k : Nat} (h : DistTo l k) (h2 : ∀ m, m < k → same2 (evAt l k) (evAt l m) = false) : DistTo l (k + 1) := fun i hi => by
  rcases Nat.lt_or_ge i k with hlt | hge
  · exact h i hlt
  · obtain rfl : i = k := by omega
    exact h2
theorem dist_no {l : List Ev} {k m : Nat} (hk : k < l.length) (hm : m < k) (h : same2 (evAt l k) (evAt l m) = true) : c10 l = true := by
  unfold c10
  rw [decide_eq_false (fun hh => by have := hh k hk m hm; rw [h] at this; cases this)]
  rfl
theorem dist_yes {l : List Ev} (h : DistTo l l.length) : c10 l = false := by unfold c10; rw [decide_eq_true h]; rfl
def noneV (p : Ev → Bool) (L : List Ev) (k : Nat) : Prop := ∀ q n, q < k → L[q]? = some n → p n = false
theorem noneV_zero (p : Ev → Bool) (L : List Ev) : noneV p L 0 := fun q n h => absurd h (by omega)
theorem noneV_step {p : Ev → Bool} {L : List Ev} {k : Nat} {n : Ev} (h : noneV p L k) (hn : L[k]? = some n) (hb : p n = false) : noneV p L (k + 1) := by
  intro q m hq hm
  rcases Nat.lt_or_ge q k with hlt | hge
  · exact h q m hlt hm
  · obtain rfl : q = k := by omega
    rw [hn] at hm
    cases hm
    exact hb
theorem noneV_all {p : Ev → Bool} {L : List Ev} (h : noneV p L L.length) : L.any p = false := by
  rw [List.any_eq_false]
  intro n hn
  obtain ⟨q, hq, e⟩ := List.mem_iff_getElem.1 hn
  rw [h q n hq (by rw [List.getElem?_eq_getElem hq, e])]
  decide
theorem anyV_hit {p : Ev → Bool} {L : List Ev} {k : Nat} {n : Ev} (hn : L[k]? = some n) (h : p n = true) : L.any p = true :=
  List.any_eq_true.2 ⟨n, List.mem_of_getElem? hn, h⟩
theorem ev_get {w : World} {A : Option Addr} {l : List Ev} (h : IsEvs w A 0 l) {k : Nat} (hk : k < l.length) : ∃ bl off x, A = some ⟨bl, off, none⟩ ∧ l[k]? = some x ∧ w.rangeAt bl (off + k * 22) x.cells.toList ∧ IsEv w x := by
  have e : l[k]? = some l[k] := List.getElem?_eq_getElem hk
  obtain ⟨⟨b, off, hA, hr⟩, hx⟩ := h.get e
  rw [Nat.zero_add] at hr
  exact ⟨b, off, l[k], hA, e, hr, hx⟩
/-- What the map holds before element k: the pairs of the earlier elements that have a key. -/
def pairsP (l : List Ev) (i : Nat) : Prop := (evAt l i).hasKey = true
def pairsS (l : List Ev) (i : Nat) : Lit := pairL (evAt l i)
theorem pair_same {w : World} {A : Option Addr} {l : List Ev} (h : IsEvs w A 0 l) {k m : Nat} (hk : k < l.length) (hm : m < k) (hx : (evAt l k).hasKey = true) (hy : (evAt l m).hasKey = true) (e : pairsS l m = pairsS l k) : same2 (evAt l k) (evAt l m) = true := by
  obtain ⟨_, _, x, _, ex, _, ix⟩ := ev_get h hk
  obtain ⟨_, _, y, _, ey, _, iy⟩ := ev_get h (Nat.lt_trans hm hk)
  unfold pairsS at e
  rw [evAt_some ex] at *
  rw [evAt_some ey] at *
  obtain ⟨e1, e2⟩ := pair_inj iy ix e
  unfold same2
  rw [hx, hy, e1, e2]
  simp
theorem pair_same2 {l : List Ev} {k m : Nat} (h : same2 (evAt l k) (evAt l m) = true) : pairsP l m ∧ pairsS l m = pairsS l k := by
  unfold same2 at h
  simp only [Bool.and_eq_true, beq_iff_eq] at h
  obtain ⟨⟨⟨_, h2⟩, h3⟩, h4⟩ := h
  refine ⟨h2, ?_⟩
  unfold pairsS pairL
  rw [ba_toList] at h3 h4
  rw [ba_toList] at h3 h4
  rw [h3, h4]


theorem aselect2_any (ex : Ev) (w : World) (HE : IsEv w ex) : Calls Try.prog 16 #[.agg ex.cells] w fun e w' => ∃ A c, e = .returned (.slice A (selL ex).length c) ∧ EntriesAt w' A (selL ex) ∧ Below w.heap.size w w' := aselect_any ex w HE
set_option maxRecDepth 100000 in
set_option maxHeartbeats 8000000 in
theorem alists_any (ex : Ev) (l : List Ev) (A : Option Addr) (n c : Nat) (w : World) (HE0 : IsEv w ex) (EV0 : IsEvs w A 0 l) (hn : n = l.length) (hnb : n ≤ 9223372036854775807) :
    Calls Try.prog 22 #[.agg ex.cells, .slice A n c] w fun e w' => e = .returned (.int .i64 (listsS ex l)) ∧ Below w.heap.size w w' := by
  subst hn
  have HB := Below.refl w.heap.size w
  have HE := HE0
  have EV := EV0
  have HNB := Lib.hid hnb
  have hmm := @run_makeMap Try.prog
  go_enter Try.func22, Try.ntmps22
  go_wp2_with (refine wpl_box_at rfl 32 (.tmp 0) rfl _ rfl ?_; intro w1 hw; have hb := hid_grow hw; have B2 := (hid_alloc hw).1; replace HB := HB.trans (hb.mono HB.size); replace HE := HE.below hb; replace EV := EV.below hb; clear hb hw)
  clear hmm
  go_loopw [18] (fun i wr => ∃ k : Nat, k ≤ l.length ∧ i = .int .i64 k ∧ Hid (DistTo l k) ∧ Hid (Cnt Try.prog wr 69 3 w1.heap.size k (seenF (pairsP l) (pairsS l) k)) ∧ w1.heap.size + 1 ≤ wr.heap.size ∧ Below w1.heap.size w1 wr) (fun i _ => l.length - (intOf i).toNat)
  case atStart => exact ⟨0, Nat.zero_le _, rfl, fun i hi => absurd hi (by omega), (Cnt.made w1 _ _ _).congr (seen_zero _ _), by simp, (Below.refl _ _).alloc (Nat.le_refl _) _⟩
  case round =>
    obtain ⟨k, hk, rfl, HD, HC, hsz, hb⟩ := hrel
    have HBW := Lib.hid hb
    by_cases hlt : k < l.length
    · obtain ⟨bl, off, x, hA, hx, hfc, hix⟩ := ev_get (EV.below hb) hlt
      subst hA
      have HX := Lib.hid (evAt_some hx)
      have HFC := Lib.hid hfc
      have hbd : 0 ≤ (k : Int) ∧ (k : Int) < l.length := by omega
      have HKEY := Lib.hid (key_pair hix.ty hix.key)
      have HKS := Lib.hid (show pairsS l k = pairL x by unfold pairsS; rw [HX.out])
      clear hx hfc hix hb
      cases hK : x.hasKey
      · have HDS := Lib.hid (dist_step HD.out (fun m hm => by unfold same2; rw [HX.out, hK]; rfl))
        have HSK := Lib.hid (seen_skip (p := pairsP l) (S := pairsS l) (k := k) (by unfold pairsP; rw [HX.out, hK]; decide))
        go_wp2_with (first
          | (refine wpl_load_arr rfl 32 (.tmp 20) rfl _ _ rfl x.cells _ HFC.out Try.underlying32 rfl info_event ?_)
          | (refine wpl_newbox 7 rfl rfl 32 rfl rfl (.tmp 21) rfl _ zeroE _ rfl rfl info_event rfl (ev_one _) ?_; intro w2 hw; have hb := hid_grow hw; have B7 := (hid_alloc hw).1; have c7_1 : w2.cell? ⟨_, 1, none⟩ = some (.string x.ty) := B7.cell 1; have c7_4 : w2.cell? ⟨_, 4, none⟩ = some (.bool x.hasKey) := B7.cell 4; have c7_5 : w2.cell? ⟨_, 5, none⟩ = some (.string x.key) := B7.cell 5; replace HBW := Lib.hid (HBW.out.trans (hb.mono HBW.out.size)); have HC2 := Lib.hid (HC.out.below hb); have HLT := Lib.hid (IBox.lt B7); clear hb; clear hw))
        go_roundw
        case rel => exact ⟨k + 1, by omega, by go_num, HDS.out, (HC2.out.mono (Nat.le_succ _)).congr HSK.out, by have := HLT.out; omega, HBW.out⟩
        case measure => simp [intOf]; omega
      · have HPK := Lib.hid (show pairsP l k by unfold pairsP; rw [HX.out]; exact hK)
        by_cases hdup : ∃ m, m < k ∧ same2 (evAt l k) (evAt l m) = true
        · obtain ⟨m, hm, hs2⟩ := hdup
          have HZ := Lib.hid (dist_no hlt hm hs2)
          have HF := Lib.hid (show seenF (pairsP l) (pairsS l) k (pairL x) = 1 by rw [← HKS.out]; exact seen_yes hm (pair_same2 hs2).1 (pair_same2 hs2).2)
          clear hm hs2
          go_wp2_with (first
          | (refine wpl_load_arr rfl 32 (.tmp 20) rfl _ _ rfl x.cells _ HFC.out Try.underlying32 rfl info_event ?_)
          | (refine wpl_newbox 7 rfl rfl 32 rfl rfl (.tmp 21) rfl _ zeroE _ rfl rfl info_event rfl (ev_one _) ?_; intro w2 hw; have hb := hid_grow hw; have B7 := (hid_alloc hw).1; have c7_1 : w2.cell? ⟨_, 1, none⟩ = some (.string x.ty) := B7.cell 1; have c7_4 : w2.cell? ⟨_, 4, none⟩ = some (.bool x.hasKey) := B7.cell 4; have c7_5 : w2.cell? ⟨_, 5, none⟩ = some (.string x.key) := B7.cell 5; replace HBW := Lib.hid (HBW.out.trans (hb.mono HBW.out.size)); have HC2 := Lib.hid (HC.out.below hb); have HLT := Lib.hid (IBox.lt B7); clear hb; clear hw))
          refine wp_region_at (fun w' => w'.cell? ⟨wr.heap.size, 1, none⟩ = some (.string x.ty) ∧ w'.cell? ⟨wr.heap.size, 5, none⟩ = some (.string x.key)) (by kernel_rfl) ⟨c7_1, c7_5⟩ (fun wd hbd2 hHeld => ?_)
          have HHD := hHeld
          have HCd := HC2.out.below hbd2
          replace HBW := Lib.hid (HBW.out.trans (hbd2.mono HBW.out.size))
          have hsd := hbd2.size
          clear hbd2
          have rl := HCd.look pairKeyed Try.underlying67 Try.underlying3 (zeroInt _) HKEY.out
          rw [HF.out] at rl
          obtain ⟨v0, st, w3, w4, r1, r2, r3, hcnt, hgr, hgr1⟩ := HCd.bump2 pairLaw Try.underlying67 Try.underlying3 (fun w => zeroInt w) (by have := HNB.out; unfold maxLen; omega) HKEY.out (c := 2) (by decide)
          rw [HF.out] at r2
          have hne : wr.heap.size ≠ w1.heap.size := by omega
          have HS3 := Lib.hid (show w3.cell? ⟨wr.heap.size, 1, none⟩ = some (.string x.ty) ∧ w3.cell? ⟨wr.heap.size, 5, none⟩ = some (.string x.key) from ⟨hgr1.cell HHD.1 (by simpa using hne), hgr1.cell HHD.2 (by simpa using hne)⟩)
          have HS4 := Lib.hid (show w4.cell? ⟨wr.heap.size, 1, none⟩ = some (.string x.ty) ∧ w4.cell? ⟨wr.heap.size, 5, none⟩ = some (.string x.key) from ⟨hgr.cell HHD.1 (by simpa using hne), hgr.cell HHD.2 (by simpa using hne)⟩)
          have rl4 := hcnt.look pairKeyed Try.underlying67 Try.underlying3 (zeroInt _) HKEY.out
          rw [putF_same (pairKeyed.key HKEY.out)] at rl4
          replace HBW := Lib.hid (HBW.out.grown hgr (Nat.le_trans HBW.out.size (Nat.le_refl _)) (fun q hq => by cases hq; exact Nat.le_refl _))
          have hsz4 := hgr.size
          have HLT4 := Lib.hid (show w1.heap.size + 1 ≤ w4.heap.size by have := HLT.out; omega)
          have d7_1 := HS4.out.1
          have d7_5 := HS4.out.2
          unfold pairV at r1 r2 rl rl4
          unfold goInt at r1 r3
          have hwr : IntKind.i64.wrap 2 = 2 := by decide
          clear hcnt hgr hgr1 HCd HHD c7_1 c7_4 c7_5 B7
          refine wpAnyH_take (i := 0) (oi := ⟨some 24, _, _, _, _, _⟩) (v := ?_) rfl (by kernel_rfl) (by kernel_rfl) (by kernel_rfl) (fun _ _ _ h => h) (Or.inl ⟨by kernel_rfl, ?_⟩) (by assumption) ?_
          rotate_left
          · (intro w hSw; (try dsimp only at hSw); obtain ⟨hs1, hs5⟩ := hSw; go_simp; try with_reducible rfl)
          try simp only [Act.put, List.setIfInBounds_toArray, List.set_cons_zero, List.set_cons_succ]
          refine wpAnyH_take (i := 1) (oi := ⟨some 25, _, _, _, _, _⟩) (v := ?_) rfl (by kernel_rfl) (by kernel_rfl) (by kernel_rfl) (fun _ _ _ h => h) (Or.inl ⟨by kernel_rfl, ?_⟩) (by assumption) ?_
          rotate_left
          · (intro w hSw; (try dsimp only at hSw); obtain ⟨hs1, hs5⟩ := hSw; go_simp; try with_reducible rfl)
          try simp only [Act.put, List.setIfInBounds_toArray, List.set_cons_zero, List.set_cons_succ]
          refine wpAnyH_take (i := 2) (oi := ⟨some 26, _, _, _, _, _⟩) (v := ?_) rfl (by kernel_rfl) (by kernel_rfl) (by kernel_rfl) (fun _ _ _ h => h) (Or.inl ⟨by kernel_rfl, ?_⟩) (by assumption) ?_
          rotate_left
          · (intro w hSw; (try dsimp only at hSw); obtain ⟨hs1, hs5⟩ := hSw; go_simp; try with_reducible rfl)
          try simp only [Act.put, List.setIfInBounds_toArray, List.set_cons_zero, List.set_cons_succ]
          refine wpAnyH_take (i := 3) (oi := ⟨some 27, _, _, _, _, _⟩) (v := ?_) rfl (by kernel_rfl) (by kernel_rfl) (by kernel_rfl) (fun _ _ _ h => h) (Or.inl ⟨by kernel_rfl, ?_⟩) (by assumption) ?_
          rotate_left
          · (intro w hSw; (try dsimp only at hSw); obtain ⟨hs1, hs5⟩ := hSw; go_simp; try with_reducible rfl)
          try simp only [Act.put, List.setIfInBounds_toArray, List.set_cons_zero, List.set_cons_succ]
          refine wpAnyH_take (i := 4) (oi := ⟨some 28, _, _, _, _, _⟩) (v := ?_) rfl (by kernel_rfl) (by kernel_rfl) (by kernel_rfl) (fun _ _ _ h => h) (Or.inl ⟨by kernel_rfl, ?_⟩) (by assumption) ?_
          rotate_left
          · (intro w hSw; (try dsimp only at hSw); obtain ⟨hs1, hs5⟩ := hSw; go_simp; try with_reducible rfl)
          try simp only [Act.put, List.setIfInBounds_toArray, List.set_cons_zero, List.set_cons_succ]
          refine wpAnyH_take (i := 5) (oi := ⟨some 29, _, _, _, _, _⟩) (v := ?_) rfl (by kernel_rfl) (by kernel_rfl) (by kernel_rfl) (fun _ _ _ h => h) (Or.inl ⟨by kernel_rfl, ?_⟩) (by assumption) ?_
          rotate_left
          · (intro w hSw; (try dsimp only at hSw); obtain ⟨hs1, hs5⟩ := hSw; go_simp; try with_reducible rfl)
          try simp only [Act.put, List.setIfInBounds_toArray, List.set_cons_zero, List.set_cons_succ]
          refine wpAnyH_ready (rs := [6, 8]) (by kernel_rfl) (by simp) ?_
          refine AllReadyH.cons (o := ⟨some 30, _, _, _, _, _⟩) rfl (fun K hK => ?_) ?_
          · go_simp
            refine hK.out _ _ ?_ (fun hHeld2 => ?_)
            · exact hHeld
            clear hK K hHeld
            have hHeld := hHeld2
            clear hHeld2
            try simp only [Act.put, List.setIfInBounds_toArray, List.set_cons_zero, List.set_cons_succ]
            refine wpAnyH_take (i := 7) (oi := ⟨some 31, _, _, _, _, _⟩) (v := ?_) rfl (by kernel_rfl) (by kernel_rfl) (by kernel_rfl) (fun _ _ _ h => h) (Or.inl ⟨by kernel_rfl, ?_⟩) (by assumption) ?_
            rotate_left
            · (intro w hSw; (try dsimp only at hSw); obtain ⟨hs1, hs5⟩ := hSw; go_simp; try with_reducible rfl)
            try simp only [Act.put, List.setIfInBounds_toArray, List.set_cons_zero, List.set_cons_succ]
            refine wpAnyH_ready (rs := [8]) (by kernel_rfl) (by simp) ?_
            refine AllReadyH.cons (o := ⟨some 32, _, _, _, _, _⟩) rfl (fun K hK => ?_) AllReadyH.nil
            go_simp
            refine hK.out _ _ ?_ (fun hHeld2 => ?_)
            · exact HS3.out
            clear hK K hHeld
            have hHeld := hHeld2
            clear hHeld2
            try simp only [Act.put, List.setIfInBounds_toArray, List.set_cons_zero, List.set_cons_succ]
            refine wpAnyH_take (i := 9) (oi := ⟨some 33, _, _, _, _, _⟩) (v := ?_) rfl (by kernel_rfl) (by kernel_rfl) (by kernel_rfl) (fun _ _ _ h => h) (Or.inl ⟨by kernel_rfl, ?_⟩) (by assumption) ?_
            rotate_left
            · (intro w hSw; (try dsimp only at hSw); obtain ⟨hs1, hs5⟩ := hSw; go_simp; try with_reducible rfl)
            try simp only [Act.put, List.setIfInBounds_toArray, List.set_cons_zero, List.set_cons_succ]
            refine wpAnyH_ready (rs := [10]) (by kernel_rfl) (by simp) ?_
            refine AllReadyH.cons (o := ⟨none, _, _, _, _, _⟩) rfl (fun K hK => ?_) AllReadyH.nil
            go_simp
            refine hK.out _ _ ?_ (fun hHeld2 => ?_)
            · exact HS4.out
            clear hK K hHeld
            have hHeld := hHeld2
            clear hHeld2
            try simp only [Act.put, List.setIfInBounds_toArray, List.set_cons_zero, List.set_cons_succ]
            refine wpAnyH_done (by kernel_rfl) ?_ _
            go_wp2
            go_ret
            exact ⟨ret_int (by unfold listsS; rw [if_pos HZ.out]), HB.trans (HBW.out.mono HB.size)⟩
          refine AllReadyH.cons (o := ⟨some 32, _, _, _, _, _⟩) rfl (fun K hK => ?_) AllReadyH.nil
          · go_simp
            refine hK.out _ _ ?_ (fun hHeld2 => ?_)
            · exact HS3.out
            clear hK K hHeld
            have hHeld := hHeld2
            clear hHeld2
            try simp only [Act.put, List.setIfInBounds_toArray, List.set_cons_zero, List.set_cons_succ]
            refine wpAnyH_take (i := 9) (oi := ⟨some 33, _, _, _, _, _⟩) (v := ?_) rfl (by kernel_rfl) (by kernel_rfl) (by kernel_rfl) (fun _ _ _ h => h) (Or.inl ⟨by kernel_rfl, ?_⟩) (by assumption) ?_
            rotate_left
            · (intro w hSw; (try dsimp only at hSw); obtain ⟨hs1, hs5⟩ := hSw; go_simp; try with_reducible rfl)
            try simp only [Act.put, List.setIfInBounds_toArray, List.set_cons_zero, List.set_cons_succ]
            refine wpAnyH_ready (rs := [6]) (by kernel_rfl) (by simp) ?_
            refine AllReadyH.cons (o := ⟨some 30, _, _, _, _, _⟩) rfl (fun K hK => ?_) AllReadyH.nil
            go_simp
            refine hK.out _ _ ?_ (fun hHeld2 => ?_)
            · exact hHeld
            clear hK K hHeld
            have hHeld := hHeld2
            clear hHeld2
            try simp only [Act.put, List.setIfInBounds_toArray, List.set_cons_zero, List.set_cons_succ]
            refine wpAnyH_take (i := 7) (oi := ⟨some 31, _, _, _, _, _⟩) (v := ?_) rfl (by kernel_rfl) (by kernel_rfl) (by kernel_rfl) (fun _ _ _ h => h) (Or.inl ⟨by kernel_rfl, ?_⟩) (by assumption) ?_
            rotate_left
            · (intro w hSw; (try dsimp only at hSw); obtain ⟨hs1, hs5⟩ := hSw; go_simp; try with_reducible rfl)
            try simp only [Act.put, List.setIfInBounds_toArray, List.set_cons_zero, List.set_cons_succ]
            refine wpAnyH_ready (rs := [10]) (by kernel_rfl) (by simp) ?_
            refine AllReadyH.cons (o := ⟨none, _, _, _, _, _⟩) rfl (fun K hK => ?_) AllReadyH.nil
            go_simp
            refine hK.out _ _ ?_ (fun hHeld2 => ?_)
            · exact HS4.out
            clear hK K hHeld
            have hHeld := hHeld2
            clear hHeld2
            try simp only [Act.put, List.setIfInBounds_toArray, List.set_cons_zero, List.set_cons_succ]
            refine wpAnyH_done (by kernel_rfl) ?_ _
            go_wp2
            go_ret
            exact ⟨ret_int (by unfold listsS; rw [if_pos HZ.out]), HB.trans (HBW.out.mono HB.size)⟩
        · have hnd : ∀ m, m < k → same2 (evAt l k) (evAt l m) = false := fun m hm => by
            cases hs : same2 (evAt l k) (evAt l m)
            · rfl
            · exact absurd ⟨m, hm, hs⟩ hdup
          have HDS := Lib.hid (dist_step HD.out hnd)
          have HF := Lib.hid (show seenF (pairsP l) (pairsS l) k (pairL x) = 0 by
            rw [← HKS.out]
            exact seen_not (fun m hm hp e => by
              have := pair_same EV0 hlt hm (by rw [HX.out]; exact hK) hp e
              rw [hnd m hm] at this
              cases this))
          clear hdup hnd
          go_wp2_with (first
          | (refine wpl_load_arr rfl 32 (.tmp 20) rfl _ _ rfl x.cells _ HFC.out Try.underlying32 rfl info_event ?_)
          | (refine wpl_newbox 7 rfl rfl 32 rfl rfl (.tmp 21) rfl _ zeroE _ rfl rfl info_event rfl (ev_one _) ?_; intro w2 hw; have hb := hid_grow hw; have B7 := (hid_alloc hw).1; have c7_1 : w2.cell? ⟨_, 1, none⟩ = some (.string x.ty) := B7.cell 1; have c7_4 : w2.cell? ⟨_, 4, none⟩ = some (.bool x.hasKey) := B7.cell 4; have c7_5 : w2.cell? ⟨_, 5, none⟩ = some (.string x.key) := B7.cell 5; replace HBW := Lib.hid (HBW.out.trans (hb.mono HBW.out.size)); have HC2 := Lib.hid (HC.out.below hb); have HLT := Lib.hid (IBox.lt B7); clear hb; clear hw))
          refine wp_region_at (fun w' => w'.cell? ⟨wr.heap.size, 1, none⟩ = some (.string x.ty) ∧ w'.cell? ⟨wr.heap.size, 5, none⟩ = some (.string x.key)) (by kernel_rfl) ⟨c7_1, c7_5⟩ (fun wd hbd2 hHeld => ?_)
          have HHD := hHeld
          have HCd := HC2.out.below hbd2
          replace HBW := Lib.hid (HBW.out.trans (hbd2.mono HBW.out.size))
          have hsd := hbd2.size
          clear hbd2
          have rl := HCd.look pairKeyed Try.underlying67 Try.underlying3 (zeroInt _) HKEY.out
          rw [HF.out] at rl
          obtain ⟨v0, st, w3, w4, r1, r2, r3, hcnt, hgr, hgr1⟩ := HCd.bump2 pairLaw Try.underlying67 Try.underlying3 (fun w => zeroInt w) (by have := HNB.out; unfold maxLen; omega) HKEY.out (c := 1) (by decide)
          rw [HF.out] at r2
          have hne : wr.heap.size ≠ w1.heap.size := by omega
          have HS3 := Lib.hid (show w3.cell? ⟨wr.heap.size, 1, none⟩ = some (.string x.ty) ∧ w3.cell? ⟨wr.heap.size, 5, none⟩ = some (.string x.key) from ⟨hgr1.cell HHD.1 (by simpa using hne), hgr1.cell HHD.2 (by simpa using hne)⟩)
          have HS4 := Lib.hid (show w4.cell? ⟨wr.heap.size, 1, none⟩ = some (.string x.ty) ∧ w4.cell? ⟨wr.heap.size, 5, none⟩ = some (.string x.key) from ⟨hgr.cell HHD.1 (by simpa using hne), hgr.cell HHD.2 (by simpa using hne)⟩)
          have rl4 := hcnt.look pairKeyed Try.underlying67 Try.underlying3 (zeroInt _) HKEY.out
          rw [putF_same (pairKeyed.key HKEY.out)] at rl4
          replace HBW := Lib.hid (HBW.out.grown hgr (Nat.le_trans HBW.out.size (Nat.le_refl _)) (fun q hq => by cases hq; exact Nat.le_refl _))
          have HC4 := Lib.hid (hcnt.congr (seen_step (p := pairsP l) (S := pairsS l) HPK.out HKS.out (pairKeyed.key HKEY.out)))
          have hsz4 := hgr.size
          have HLT4 := Lib.hid (show w1.heap.size + 1 ≤ w4.heap.size by have := HLT.out; omega)
          have d7_1 := HS4.out.1
          have d7_5 := HS4.out.2
          unfold pairV at r1 r2 rl rl4
          unfold goInt at r1 r3
          have hwr : IntKind.i64.wrap 1 = 1 := by decide
          clear hcnt hgr hgr1 HCd HHD c7_1 c7_4 c7_5 B7
          refine wpAnyH_take (i := 0) (oi := ⟨some 24, _, _, _, _, _⟩) (v := ?_) rfl (by kernel_rfl) (by kernel_rfl) (by kernel_rfl) (fun _ _ _ h => h) (Or.inl ⟨by kernel_rfl, ?_⟩) (by assumption) ?_
          rotate_left
          · (intro w hSw; (try dsimp only at hSw); obtain ⟨hs1, hs5⟩ := hSw; go_simp; try with_reducible rfl)
          try simp only [Act.put, List.setIfInBounds_toArray, List.set_cons_zero, List.set_cons_succ]
          refine wpAnyH_take (i := 1) (oi := ⟨some 25, _, _, _, _, _⟩) (v := ?_) rfl (by kernel_rfl) (by kernel_rfl) (by kernel_rfl) (fun _ _ _ h => h) (Or.inl ⟨by kernel_rfl, ?_⟩) (by assumption) ?_
          rotate_left
          · (intro w hSw; (try dsimp only at hSw); obtain ⟨hs1, hs5⟩ := hSw; go_simp; try with_reducible rfl)
          try simp only [Act.put, List.setIfInBounds_toArray, List.set_cons_zero, List.set_cons_succ]
          refine wpAnyH_take (i := 2) (oi := ⟨some 26, _, _, _, _, _⟩) (v := ?_) rfl (by kernel_rfl) (by kernel_rfl) (by kernel_rfl) (fun _ _ _ h => h) (Or.inl ⟨by kernel_rfl, ?_⟩) (by assumption) ?_
          rotate_left
          · (intro w hSw; (try dsimp only at hSw); obtain ⟨hs1, hs5⟩ := hSw; go_simp; try with_reducible rfl)
          try simp only [Act.put, List.setIfInBounds_toArray, List.set_cons_zero, List.set_cons_succ]
          refine wpAnyH_take (i := 3) (oi := ⟨some 27, _, _, _, _, _⟩) (v := ?_) rfl (by kernel_rfl) (by kernel_rfl) (by kernel_rfl) (fun _ _ _ h => h) (Or.inl ⟨by kernel_rfl, ?_⟩) (by assumption) ?_
          rotate_left
          · (intro w hSw; (try dsimp only at hSw); obtain ⟨hs1, hs5⟩ := hSw; go_simp; try with_reducible rfl)
          try simp only [Act.put, List.setIfInBounds_toArray, List.set_cons_zero, List.set_cons_succ]
          refine wpAnyH_take (i := 4) (oi := ⟨some 28, _, _, _, _, _⟩) (v := ?_) rfl (by kernel_rfl) (by kernel_rfl) (by kernel_rfl) (fun _ _ _ h => h) (Or.inl ⟨by kernel_rfl, ?_⟩) (by assumption) ?_
          rotate_left
          · (intro w hSw; (try dsimp only at hSw); obtain ⟨hs1, hs5⟩ := hSw; go_simp; try with_reducible rfl)
          try simp only [Act.put, List.setIfInBounds_toArray, List.set_cons_zero, List.set_cons_succ]
          refine wpAnyH_take (i := 5) (oi := ⟨some 29, _, _, _, _, _⟩) (v := ?_) rfl (by kernel_rfl) (by kernel_rfl) (by kernel_rfl) (fun _ _ _ h => h) (Or.inl ⟨by kernel_rfl, ?_⟩) (by assumption) ?_
          rotate_left
          · (intro w hSw; (try dsimp only at hSw); obtain ⟨hs1, hs5⟩ := hSw; go_simp; try with_reducible rfl)
          try simp only [Act.put, List.setIfInBounds_toArray, List.set_cons_zero, List.set_cons_succ]
          refine wpAnyH_ready (rs := [6, 8]) (by kernel_rfl) (by simp) ?_
          refine AllReadyH.cons (o := ⟨some 30, _, _, _, _, _⟩) rfl (fun K hK => ?_) ?_
          · go_simp
            refine hK.out _ _ ?_ (fun hHeld2 => ?_)
            · exact hHeld
            clear hK K hHeld
            have hHeld := hHeld2
            clear hHeld2
            try simp only [Act.put, List.setIfInBounds_toArray, List.set_cons_zero, List.set_cons_succ]
            refine wpAnyH_take (i := 7) (oi := ⟨some 31, _, _, _, _, _⟩) (v := ?_) rfl (by kernel_rfl) (by kernel_rfl) (by kernel_rfl) (fun _ _ _ h => h) (Or.inl ⟨by kernel_rfl, ?_⟩) (by assumption) ?_
            rotate_left
            · (intro w hSw; (try dsimp only at hSw); obtain ⟨hs1, hs5⟩ := hSw; go_simp; try with_reducible rfl)
            try simp only [Act.put, List.setIfInBounds_toArray, List.set_cons_zero, List.set_cons_succ]
            refine wpAnyH_ready (rs := [8]) (by kernel_rfl) (by simp) ?_
            refine AllReadyH.cons (o := ⟨some 32, _, _, _, _, _⟩) rfl (fun K hK => ?_) AllReadyH.nil
            go_simp
            refine hK.out _ _ ?_ (fun hHeld2 => ?_)
            · exact HS3.out
            clear hK K hHeld
            have hHeld := hHeld2
            clear hHeld2
            try simp only [Act.put, List.setIfInBounds_toArray, List.set_cons_zero, List.set_cons_succ]
            refine wpAnyH_take (i := 9) (oi := ⟨some 33, _, _, _, _, _⟩) (v := ?_) rfl (by kernel_rfl) (by kernel_rfl) (by kernel_rfl) (fun _ _ _ h => h) (Or.inl ⟨by kernel_rfl, ?_⟩) (by assumption) ?_
            rotate_left
            · (intro w hSw; (try dsimp only at hSw); obtain ⟨hs1, hs5⟩ := hSw; go_simp; try with_reducible rfl)
            try simp only [Act.put, List.setIfInBounds_toArray, List.set_cons_zero, List.set_cons_succ]
            refine wpAnyH_ready (rs := [10]) (by kernel_rfl) (by simp) ?_
            refine AllReadyH.cons (o := ⟨none, _, _, _, _, _⟩) rfl (fun K hK => ?_) AllReadyH.nil
            go_simp
            refine hK.out _ _ ?_ (fun hHeld2 => ?_)
            · exact HS4.out
            clear hK K hHeld
            have hHeld := hHeld2
            clear hHeld2
            try simp only [Act.put, List.setIfInBounds_toArray, List.set_cons_zero, List.set_cons_succ]
            refine wpAnyH_done (by kernel_rfl) ?_ _
            go_wp2
            go_roundw
            case rel => exact ⟨k + 1, by omega, by go_num, HDS.out, HC4.out, by have := HLT.out; omega, HBW.out⟩
            case measure => simp [intOf]; omega
          refine AllReadyH.cons (o := ⟨some 32, _, _, _, _, _⟩) rfl (fun K hK => ?_) AllReadyH.nil
          · go_simp
            refine hK.out _ _ ?_ (fun hHeld2 => ?_)
            · exact HS3.out
            clear hK K hHeld
            have hHeld := hHeld2
            clear hHeld2
            try simp only [Act.put, List.setIfInBounds_toArray, List.set_cons_zero, List.set_cons_succ]
            refine wpAnyH_take (i := 9) (oi := ⟨some 33, _, _, _, _, _⟩) (v := ?_) rfl (by kernel_rfl) (by kernel_rfl) (by kernel_rfl) (fun _ _ _ h => h) (Or.inl ⟨by kernel_rfl, ?_⟩) (by assumption) ?_
            rotate_left
            · (intro w hSw; (try dsimp only at hSw); obtain ⟨hs1, hs5⟩ := hSw; go_simp; try with_reducible rfl)
            try simp only [Act.put, List.setIfInBounds_toArray, List.set_cons_zero, List.set_cons_succ]
            refine wpAnyH_ready (rs := [6]) (by kernel_rfl) (by simp) ?_
            refine AllReadyH.cons (o := ⟨some 30, _, _, _, _, _⟩) rfl (fun K hK => ?_) AllReadyH.nil
            go_simp
            refine hK.out _ _ ?_ (fun hHeld2 => ?_)
            · exact hHeld
            clear hK K hHeld
            have hHeld := hHeld2
            clear hHeld2
            try simp only [Act.put, List.setIfInBounds_toArray, List.set_cons_zero, List.set_cons_succ]
            refine wpAnyH_take (i := 7) (oi := ⟨some 31, _, _, _, _, _⟩) (v := ?_) rfl (by kernel_rfl) (by kernel_rfl) (by kernel_rfl) (fun _ _ _ h => h) (Or.inl ⟨by kernel_rfl, ?_⟩) (by assumption) ?_
            rotate_left
            · (intro w hSw; (try dsimp only at hSw); obtain ⟨hs1, hs5⟩ := hSw; go_simp; try with_reducible rfl)
            try simp only [Act.put, List.setIfInBounds_toArray, List.set_cons_zero, List.set_cons_succ]
            refine wpAnyH_ready (rs := [10]) (by kernel_rfl) (by simp) ?_
            refine AllReadyH.cons (o := ⟨none, _, _, _, _, _⟩) rfl (fun K hK => ?_) AllReadyH.nil
            go_simp
            refine hK.out _ _ ?_ (fun hHeld2 => ?_)
            · exact HS4.out
            clear hK K hHeld
            have hHeld := hHeld2
            clear hHeld2
            try simp only [Act.put, List.setIfInBounds_toArray, List.set_cons_zero, List.set_cons_succ]
            refine wpAnyH_done (by kernel_rfl) ?_ _
            go_wp2
            go_roundw
            case rel => exact ⟨k + 1, by omega, by go_num, HDS.out, HC4.out, by have := HLT.out; omega, HBW.out⟩
            case measure => simp [intOf]; omega
    · obtain rfl : k = l.length := by omega
      have h10 := Lib.hid (dist_yes HD.out)
      replace HB := HB.trans (hb.mono HB.size)
      replace HE := HE.below hb
      replace EV := EV.below hb
      replace B2 := IBox.below B2 hb (IBox.lt B2)
      clear hb HBW HC HD hk hlt hsz
      go_wp2_with (first
            | (refine wpl_load_box rfl 32 (.tmp 2) rfl _ rfl _ _ _ B2 Try.underlying32 rfl info_event ?_)
            | (go_at_call 16; (with_reducible refine (aselect2_any _ _ HE).mono ?_); rintro e wn ⟨AN, cN, rfl, hEE, hb⟩; replace HB := HB.trans (hb.mono HB.size); replace HE := HE.below hb; replace EV := EV.below hb; replace B2 := IBox.below B2 hb (IBox.lt B2); clear hb))
      have hL := selL_small ex
      go_loopw [47] (fun i wr => ∃ k : Nat, k ≤ l.length ∧ i = .int .i64 k ∧ Hid (noneV (strayB ex) l k) ∧ Below wn.heap.size wn wr) (fun i _ => l.length - (intOf i).toNat)
      case atStart => exact ⟨0, Nat.zero_le _, rfl, noneV_zero _ _, Below.refl _ _⟩
      case round =>
        obtain ⟨k, hk, rfl, HS, hb⟩ := hrel
        have HBW := Lib.hid hb
        by_cases hlt : k < l.length
        · obtain ⟨bl, off, x, hA, hx, hfc, hix⟩ := ev_get (EV.below hb) hlt
          subst hA
          have HX := Lib.hid hx
          have HFC := Lib.hid hfc
          have hbd : 0 ≤ (k : Int) ∧ (k : Int) < l.length := by omega
          replace hEE := hEE.below hb
          cases hK : x.hasKey
          · have HST := Lib.hid (show strayB ex x = true by unfold strayB; rw [hK]; rfl)
            clear hb hx hfc hix
            go_wp2_with (first
                  | (refine wpl_load_arr rfl 32 (.tmp 49) rfl _ _ rfl x.cells _ HFC.out Try.underlying32 rfl info_event ?_)
                  | (refine wpl_newbox 10 rfl rfl 32 rfl rfl (.tmp 50) rfl _ zeroE _ rfl rfl info_event rfl (ev_one _) ?_; intro w2 hw; have hb := hid_grow hw; have B10 := (hid_alloc hw).1; have c10_1 : w2.cell? ⟨_, 1, none⟩ = some (.string x.ty) := B10.cell 1; have c10_4 : w2.cell? ⟨_, 4, none⟩ = some (.bool x.hasKey) := B10.cell 4; have c10_5 : w2.cell? ⟨_, 5, none⟩ = some (.string x.key) := B10.cell 5; replace HBW := Lib.hid (HBW.out.trans (hb.mono HBW.out.size)); (try replace B2 := IBox.below B2 hb (IBox.lt B2)); (try replace hEE := hEE.below hb); clear hb; clear hw)
                  | (go_at_call 40; (with_reducible refine (containsE_any _ _ _ _ _ _ hEE hL).mono ?_); rintro e w3 ⟨rfl, hb⟩; replace HBW := Lib.hid (HBW.out.trans (hb.mono HBW.out.size)); clear hb))
            have HZ : c11 ex l = true := anyV_hit HX.out HST.out
            go_ret
            exact ⟨ret_int (by unfold listsS; rw [if_neg (by rw [h10.out]; decide), if_pos HZ]), HB.trans (HBW.out.mono HB.size)⟩
          · cases hM : mayE (selL ex) x.ty x.key
            · have HST := Lib.hid (show strayB ex x = true by unfold strayB; rw [hK, hM]; rfl)
              clear hb hx hfc hix
              go_wp2_with (first
                    | (refine wpl_load_arr rfl 32 (.tmp 49) rfl _ _ rfl x.cells _ HFC.out Try.underlying32 rfl info_event ?_)
                    | (refine wpl_newbox 10 rfl rfl 32 rfl rfl (.tmp 50) rfl _ zeroE _ rfl rfl info_event rfl (ev_one _) ?_; intro w2 hw; have hb := hid_grow hw; have B10 := (hid_alloc hw).1; have c10_1 : w2.cell? ⟨_, 1, none⟩ = some (.string x.ty) := B10.cell 1; have c10_4 : w2.cell? ⟨_, 4, none⟩ = some (.bool x.hasKey) := B10.cell 4; have c10_5 : w2.cell? ⟨_, 5, none⟩ = some (.string x.key) := B10.cell 5; replace HBW := Lib.hid (HBW.out.trans (hb.mono HBW.out.size)); (try replace B2 := IBox.below B2 hb (IBox.lt B2)); (try replace hEE := hEE.below hb); clear hb; clear hw)
                    | (go_at_call 40; (with_reducible refine (containsE_any _ _ _ _ _ _ hEE hL).mono ?_); rintro e w3 ⟨rfl, hb⟩; replace HBW := Lib.hid (HBW.out.trans (hb.mono HBW.out.size)); clear hb))
              have HZ : c11 ex l = true := anyV_hit HX.out HST.out
              go_ret
              exact ⟨ret_int (by unfold listsS; rw [if_neg (by rw [h10.out]; decide), if_pos HZ]), HB.trans (HBW.out.mono HB.size)⟩
            · have HST := Lib.hid (show strayB ex x = false by unfold strayB; rw [hK, hM]; rfl)
              clear hb hx hfc hix
              go_wp2_with (first
                    | (refine wpl_load_arr rfl 32 (.tmp 49) rfl _ _ rfl x.cells _ HFC.out Try.underlying32 rfl info_event ?_)
                    | (refine wpl_newbox 10 rfl rfl 32 rfl rfl (.tmp 50) rfl _ zeroE _ rfl rfl info_event rfl (ev_one _) ?_; intro w2 hw; have hb := hid_grow hw; have B10 := (hid_alloc hw).1; have c10_1 : w2.cell? ⟨_, 1, none⟩ = some (.string x.ty) := B10.cell 1; have c10_4 : w2.cell? ⟨_, 4, none⟩ = some (.bool x.hasKey) := B10.cell 4; have c10_5 : w2.cell? ⟨_, 5, none⟩ = some (.string x.key) := B10.cell 5; replace HBW := Lib.hid (HBW.out.trans (hb.mono HBW.out.size)); (try replace B2 := IBox.below B2 hb (IBox.lt B2)); (try replace hEE := hEE.below hb); clear hb; clear hw)
                    | (go_at_call 40; (with_reducible refine (containsE_any _ _ _ _ _ _ hEE hL).mono ?_); rintro e w3 ⟨rfl, hb⟩; replace HBW := Lib.hid (HBW.out.trans (hb.mono HBW.out.size)); clear hb))
              go_roundw
              case rel => exact ⟨k + 1, by omega, by go_num, noneV_step HS.out HX.out HST.out, HBW.out⟩
              case measure => simp [intOf]; omega
        · obtain rfl : k = l.length := by omega
          have h11 := Lib.hid (show c11 ex l = false from noneV_all HS.out)
          replace HB := HB.trans (hb.mono HB.size)
          replace HE := HE.below hb
          replace EV := EV.below hb
          replace B2 := IBox.below B2 hb (IBox.lt B2)
          clear hb HBW HS hk hlt
          have c2_2 : wr.cell? ⟨_, 2, none⟩ = some (.string ex.room) := B2.cell 2
          obtain ⟨wn, hwn⟩ : ∃ w9 : World, w9 = wr := ⟨wr, rfl⟩
          subst hwn
          clear hEE hL
          go_wp2
          go_loopw [67] (fun i wr => ∃ k : Nat, k ≤ l.length ∧ i = .int .i64 k ∧ Hid (noneV (otherB ex) l k) ∧ Below wn.heap.size wn wr) (fun i _ => l.length - (intOf i).toNat)
          case atStart => exact ⟨0, Nat.zero_le _, rfl, noneV_zero _ _, Below.refl _ _⟩
          case round =>
            obtain ⟨k, hk, rfl, HS, hb⟩ := hrel
            have HBW := Lib.hid hb
            by_cases hlt : k < l.length
            · obtain ⟨bl, off, x, hA, hx, hfc, hix⟩ := ev_get (EV.below hb) hlt
              subst hA
              have HX := Lib.hid hx
              have HFC := Lib.hid hfc
              have hbd : 0 ≤ (k : Int) ∧ (k : Int) < l.length := by omega
              replace c2_2 := cell_below hb c2_2
              cases hR : (x.room.toList == ex.room.toList)
              · have e3 : (x.room.toList != ex.room.toList) = !(x.room.toList == ex.room.toList) := rfl
                rw [hR] at e3
                have HST := Lib.hid (show otherB ex x = true by unfold otherB; rw [hR]; rfl)
                clear hb hx hfc hix
                go_wp2_with (first
                      | (refine wpl_load_arr rfl 32 (.tmp 69) rfl _ _ rfl x.cells _ HFC.out Try.underlying32 rfl info_event ?_)
                      | (refine wpl_newbox 12 rfl rfl 32 rfl rfl (.tmp 70) rfl _ zeroE _ rfl rfl info_event rfl (ev_one _) ?_; intro w2 hw; have hb := hid_grow hw; have B12 := (hid_alloc hw).1; have c12_2 : w2.cell? ⟨_, 2, none⟩ = some (.string x.room) := B12.cell 2; replace HBW := Lib.hid (HBW.out.trans (hb.mono HBW.out.size)); (try replace c2_2 := cell_below hb c2_2); (try replace hEE := hEE.below hb); clear hb; clear hw))
                have HZ : c12 ex l = true := anyV_hit HX.out HST.out
                go_ret
                exact ⟨ret_int (by unfold listsS; rw [if_neg (by rw [h10.out]; decide), if_neg (by rw [h11.out]; decide), if_pos HZ]), HB.trans (HBW.out.mono HB.size)⟩
              · have e3 : (x.room.toList != ex.room.toList) = !(x.room.toList == ex.room.toList) := rfl
                rw [hR] at e3
                have HST := Lib.hid (show otherB ex x = false by unfold otherB; rw [hR]; rfl)
                clear hb hx hfc hix
                go_wp2_with (first
                      | (refine wpl_load_arr rfl 32 (.tmp 69) rfl _ _ rfl x.cells _ HFC.out Try.underlying32 rfl info_event ?_)
                      | (refine wpl_newbox 12 rfl rfl 32 rfl rfl (.tmp 70) rfl _ zeroE _ rfl rfl info_event rfl (ev_one _) ?_; intro w2 hw; have hb := hid_grow hw; have B12 := (hid_alloc hw).1; have c12_2 : w2.cell? ⟨_, 2, none⟩ = some (.string x.room) := B12.cell 2; replace HBW := Lib.hid (HBW.out.trans (hb.mono HBW.out.size)); (try replace c2_2 := cell_below hb c2_2); (try replace hEE := hEE.below hb); clear hb; clear hw))
                go_roundw
                case rel => exact ⟨k + 1, by omega, by go_num, noneV_step HS.out HX.out HST.out, HBW.out⟩
                case measure => simp [intOf]; omega
            · obtain rfl : k = l.length := by omega
              have h12 := Lib.hid (show c12 ex l = false from noneV_all HS.out)
              replace HB := HB.trans (hb.mono HB.size)
              replace HE := HE.below hb
              replace EV := EV.below hb
              replace B2 := IBox.below B2 hb (IBox.lt B2)
              clear hb HBW HS hk hlt
              cases hS : standsB l ⟨#[109, 46, 114, 111, 111, 109, 46, 99, 114, 101, 97, 116, 101]⟩ ⟨#[]⟩
              all_goals
                have HSB := Lib.hid hS
                go_wp2_with (first
                  | (go_at_call 34; (with_reducible refine (findB_any l _ _ _ _ _ _ EV rfl HNB.out).mono ?_); rintro e w3 ⟨rfl, hb⟩; replace HB := HB.trans (hb.mono HB.size); clear hb)
                  | (refine wpl_newbox 13 rfl rfl 32 rfl rfl (.tmp 80) rfl _ zeroE _ rfl rfl info_event rfl (ev_one _) ?_; intro w2 hw; have hb := hid_grow hw; replace HB := HB.trans (hb.mono HB.size); clear hb hw))
                go_ret
                exact ⟨ret_int (by unfold listsS; rw [if_neg (by rw [h10.out]; decide), if_neg (by rw [h11.out]; decide), if_neg (by rw [h12.out]; decide), HSB.out]; rfl), HB⟩
end Go.Proofs.Ytpmdpfgaafaceaa
