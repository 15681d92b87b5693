/- Layer 9: the message that bytes begin with, by the document, walked. -/
import Derived.Test.YtbehakabglegjaaGreatDoorQ37
import Derived.Test.YtbehakabglegjaaGreatDoorQZip
namespace Go.Proofs.YtbehakabglegjaaGreatDoor
open Go.RowKit Go.PlainAid
set_option linter.unusedVariables false
set_option linter.unusedSimpArgs false
section
variable {n g : Nat} {R : Rd} {b : List UInt8} {A : Option Addr} {cp : Nat} {hs bd : Value} {w w' : World} {c : UInt8} {ans : Bool} {a k : Nat} {F : Fs} {m : Ms}
set_option maxRecDepth 100000 in
set_option maxHeartbeats 32000000 in
theorem one_any (hrow : RowB w A b) (hcap : b.length ≤ cp) (hA : ∀ bb off, A = some ⟨bb, off, none⟩ → bb < w.heap.size) (hl : b.length ≤ 1099511627776) (hb0 : b ≠ []) (a : Nat) :
    Calls Tryz.prog 50 #[.slice A b.length cp, .bool ans] w fun e w' => Below w.heap.size w w' ∧ OnV b ans a w.heap.size e w' := by
  have HLB := Lib.hid hl
  have HCAP := Lib.hid hcap
  have HAB := Lib.hid hA
  have HB0 := Lib.hid hb0
  clear hl hcap hA hb0
  rcases Bool.eq_false_or_eq_true ans with ha | ha
  focus
    have HAN := Lib.hid ha
    have HR0 : Hid (RnF b ans a 0 (stV ans a 0 Ms.zero 0) ⟨0, 0, false, true, Ms.zero⟩) := Lib.hid (.inl ⟨rfl, rfl, rfl, (by
      have h := Atk.start b ans a
      rw [newA_hF] at h
      have e : stV ans a 0 Ms.zero 0 = hF ans a 0 (if ans then 2 else 0) [] Ms.zero 0 := by rw [ha]; rfl
      rw [e]
      exact h)⟩)
    go_enter Tryz.func50, Tryz.ntmps50
    go_wp2_with (first
      | ((with_reducible refine is_alloc ?_); refine wpl_alloc_at rfl 25 rfl zeroM zeroM_zero ?_; intro w1 hw; have HB := hid_grow hw; have BX := (hid_alloc hw).1; have hz1 := Lib.hid (hid_alloc hw).2.1; replace hrow := hrow.bes (Bes.of_below (X := fun _ => False) HB) (fun _ _ _ x => x); clear hw)
      | ((with_reducible refine is_build2 _ ?_); refine wpl_build_at (vals := [(0, .slice A b.length cp), (4, .bool true)]) (rd_build A b.length cp) rfl _ rfl rfl ?_)
      | (refine wpl_box_at rfl 125 (.tmp 16) rfl _ rfl ?_; intro w2 hw; have hb := hid_grow hw; have M : RdM (w.heap.size + 1) w1.heap.size ⟨0, 0, false, true, Ms.zero⟩ b A cp (.slice none 0 0) (.slice none 0 0) w2 := ⟨(hid_alloc hw).1, Nat.le_of_eq hz1.out.symm, hrow.bes (Bes.of_below (X := fun _ => False) hb) (fun _ _ _ x => x), HCAP.out, fun bb off e => Nat.lt_succ_of_lt (HAB.out bb off e), ⟨rfl, .inl ⟨rfl, rfl⟩⟩, OwnB.nil _ _⟩; replace HB := zT HB hb; replace BX := zI BX hb; clear hb hw hrow; generalize hgn : w.heap.size + 1 = n at M; have HMN : Hid (w.heap.size < n) := Lib.hid (by omega); generalize w1.heap.size = g at *; clear hgn hz1)
      | (go_at_call 77; (refine (rwant_any (s := ⟨#[72, 84, 84, 80, 47, 49, 46, 49, 32]⟩) (x := 31) (st := stV ans a 0 Ms.zero) M HR0.out (fun _ _ => wt_ver (by rw [HAN.out]; rfl)) HLB.out (by decide)).mono ?_); rintro e w3 ⟨rfl, hb, R1, hm, hr, e9, e10, e11⟩; replace M := hm; replace HB := HB.trans (hb.mono (Nat.le_of_lt HMN.out)); replace BX := IBox.below BX hb HMN.out; have HR1 := Lib.hid hr; have HM1 := Lib.hid e9; have HH1 := Lib.hid e10; have HU1 := Lib.hid e11; clear hm hr e9 e10 e11 hb; have HRF1 : Hid (Rn b ans a (fun k m => Atk b ans a k (hF ans a k 3 [] m 0) ∧ m.stat = 0) R1) := Lib.hid (HR1.out.rn (fun h5 e => (by have e5 : stV ans a 0 Ms.zero (⟨#[72, 84, 84, 80, 47, 49, 46, 49, 32]⟩ : ByteArray).size = hF ans a (0 + 9) 3 [] Ms.zero 0 := (by rw [HAN.out]; rfl); rw [e5] at h5; rw [e, HM1.out]; exact ⟨h5, rfl⟩))))
      | (go_at_call 78; (refine (rstatus_any M HRF1.out HH1.out HLB.out).mono ?_); rintro e w4 ⟨rfl, hb, R3, hs3, bd3, hm, hr, hh⟩; replace M := hm; replace HB := HB.trans (hb.mono (Nat.le_of_lt HMN.out)); replace BX := IBox.below BX hb HMN.out; have HR3 := Lib.hid hr; have HH3 := Lib.hid hh; clear hm hr hh hb)
      | (go_at_call 79; (refine (rreason_any M HR3.out HH3.out HLB.out).mono ?_); rintro e w5 ⟨rfl, hb, R4, hs4, bd4, hm, hr, hh⟩; replace M := hm; replace HB := HB.trans (hb.mono (Nat.le_of_lt HMN.out)); replace BX := IBox.below BX hb HMN.out; have HR4 := Lib.hid hr; have HH4 := Lib.hid hh; clear hm hr hh hb))
    clear ha
    have HRH : Hid (Rn b ans a (fun k m => Atk b ans a k (hF ans a k 6 [] m 1)) R4) := HR4
    go_loopw [] (fun wr => ∃ (R1 : Rd) (hs1 bd1 : Value), RdM n g R1 b A cp hs1 bd1 wr ∧ Below w.heap.size w wr ∧ IBox wr w.heap.size 25 zeroM ∧ R1.head = true ∧ Hid (Rn b ans a (fun k m => Atk b ans a k (hF ans a k 6 [] m 1)) R1)) (fun wr => rdMes wr g b.length)
    case atStart => exact ⟨R4, _, _, M, HB, BX, HH4.out, HRH⟩
  rotate_left
  focus
    have HAN := Lib.hid ha
    have HR0 : Hid (Rn b ans a (fun k m => Atk b ans a k (hF ans a k 0 [] m 0)) ⟨0, 0, false, true, Ms.zero⟩) := Lib.hid (.inl ⟨rfl, rfl, (by
      have h := Atk.start b ans a
      rw [newA_hF] at h
      have e : hF ans a 0 (if ans then 2 else 0) [] Ms.zero 0 = hF ans a 0 0 [] Ms.zero 0 := by rw [ha]; rfl
      rw [e] at h
      exact h)⟩)
    go_enter Tryz.func50, Tryz.ntmps50
    go_wp2_with (first
      | ((with_reducible refine is_alloc ?_); refine wpl_alloc_at rfl 25 rfl zeroM zeroM_zero ?_; intro w1 hw; have HB := hid_grow hw; have BX := (hid_alloc hw).1; have hz1 := Lib.hid (hid_alloc hw).2.1; replace hrow := hrow.bes (Bes.of_below (X := fun _ => False) HB) (fun _ _ _ x => x); clear hw)
      | ((with_reducible refine is_build2 _ ?_); refine wpl_build_at (vals := [(0, .slice A b.length cp), (4, .bool true)]) (rd_build A b.length cp) rfl _ rfl rfl ?_)
      | (refine wpl_box_at rfl 125 (.tmp 16) rfl _ rfl ?_; intro w2 hw; have hb := hid_grow hw; have M : RdM (w.heap.size + 1) w1.heap.size ⟨0, 0, false, true, Ms.zero⟩ b A cp (.slice none 0 0) (.slice none 0 0) w2 := ⟨(hid_alloc hw).1, Nat.le_of_eq hz1.out.symm, hrow.bes (Bes.of_below (X := fun _ => False) hb) (fun _ _ _ x => x), HCAP.out, fun bb off e => Nat.lt_succ_of_lt (HAB.out bb off e), ⟨rfl, .inl ⟨rfl, rfl⟩⟩, OwnB.nil _ _⟩; replace HB := zT HB hb; replace BX := zI BX hb; clear hb hw hrow; generalize hgn : w.heap.size + 1 = n at M; have HMN : Hid (w.heap.size < n) := Lib.hid (by omega); generalize w1.heap.size = g at *; clear hgn hz1)
      | (go_at_call 80; (refine (rmethod_any M HR0.out rfl HLB.out).mono ?_); rintro e w3 ⟨rfl, hb, R1, hs1, bd1, hm, hr, hh⟩; replace M := hm; replace HB := HB.trans (hb.mono (Nat.le_of_lt HMN.out)); replace BX := IBox.below BX hb HMN.out; have HR1 := Lib.hid hr; have HH1 := Lib.hid hh; clear hm hr hh hb)
      | (go_at_call 81; (refine (rtarget_any M HR1.out HH1.out HLB.out).mono ?_); rintro e w4 ⟨rfl, hb, R2, hs2, bd2, hm, hr, hh⟩; replace M := hm; replace HB := HB.trans (hb.mono (Nat.le_of_lt HMN.out)); replace BX := IBox.below BX hb HMN.out; have HR2 := Lib.hid hr; have HH2 := Lib.hid hh; clear hm hr hh hb; have HRF2 : Hid (RnF b ans a R2.at_ (stV ans a R2.at_ R2.m 0) R2) := Lib.hid (HR2.out.rf (fun h => h)); have HWF2 : Hid (R2.bad = 0 → R2.more = false → Wt b ans a R2.at_ ⟨#[72, 84, 84, 80, 47, 49, 46, 49, 13]⟩ 31 R2.head (stV ans a R2.at_ R2.m)) := Lib.hid (fun _ _ => (by rw [HH2.out]; exact wt_ver (by rw [HAN.out]; rfl))))
      | (go_at_call 77; (with_reducible refine (rwant_any (s := ⟨#[72, 84, 84, 80, 47, 49, 46, 49, 13]⟩) (x := 31) (st := stV ans a R2.at_ R2.m) M HRF2.out HWF2.out HLB.out (by decide)).mono ?_); rintro e w5 ⟨rfl, hb, R3, hm, hr, e9, e10, e11⟩; replace M := hm; replace HB := HB.trans (hb.mono (Nat.le_of_lt HMN.out)); replace BX := IBox.below BX hb HMN.out; have HR3 := Lib.hid hr; have HM3 := Lib.hid e9; have HH3 := Lib.hid e10; have HU3 := Lib.hid e11; clear hm hr e9 e10 e11 hb; have HRF3 : Hid (RnF b ans a R3.at_ ((fun i => match i with | 0 => hF ans a R3.at_ 5 [] R3.m 0 | _ => hF ans a (R3.at_ + 1) 6 [] R3.m 1 : Nat → Fs) 0) R3) := Lib.hid (Rn.rf (HR3.out.rn (ok := fun k m => Atk b ans a k (hF ans a k 5 [] m 0)) (fun h5 e => (by have e5 : stV ans a R2.at_ R2.m (⟨#[72, 84, 84, 80, 47, 49, 46, 49, 13]⟩ : ByteArray).size = hF ans a (R2.at_ + 9) 5 [] R2.m 0 := (by rw [HAN.out]; rfl); rw [e5] at h5; rw [e, HM3.out]; exact h5))) (fun h => h)); have HWF3 : Hid (R3.bad = 0 → R3.more = false → Wt b ans a R3.at_ ⟨#[10]⟩ 3 R3.head (fun i => match i with | 0 => hF ans a R3.at_ 5 [] R3.m 0 | _ => hF ans a (R3.at_ + 1) 6 [] R3.m 1 : Nat → Fs)) := Lib.hid (fun _ _ => (by rw [HH3.out.trans HH2.out]; exact wt_nl)))
      | (go_at_call 77; (with_reducible refine (rwant_any (s := ⟨#[10]⟩) (x := 3) (st := (fun i => match i with | 0 => hF ans a R3.at_ 5 [] R3.m 0 | _ => hF ans a (R3.at_ + 1) 6 [] R3.m 1 : Nat → Fs)) M HRF3.out HWF3.out HLB.out (by decide)).mono ?_); rintro e w6 ⟨rfl, hb, R4, hm, hr, e9, e10, e11⟩; replace M := hm; replace HB := HB.trans (hb.mono (Nat.le_of_lt HMN.out)); replace BX := IBox.below BX hb HMN.out; have HR4 := Lib.hid hr; have HM4 := Lib.hid e9; have HH4 := Lib.hid e10; have HU4 := Lib.hid e11; clear hm hr e9 e10 e11 hb))
    clear ha
    have HRH : Hid (Rn b ans a (fun k m => Atk b ans a k (hF ans a k 6 [] m 1)) R4) := Lib.hid (HR4.out.rn (fun h5 e => by rw [e, HM4.out]; exact h5))
    replace HH4 : Hid (R4.head = true) := Lib.hid (HH4.out.trans (HH3.out.trans HH2.out))
    go_loopw [] (fun wr => ∃ (R1 : Rd) (hs1 bd1 : Value), RdM n g R1 b A cp hs1 bd1 wr ∧ Below w.heap.size w wr ∧ IBox wr w.heap.size 25 zeroM ∧ R1.head = true ∧ Hid (Rn b ans a (fun k m => Atk b ans a k (hF ans a k 6 [] m 1)) R1)) (fun wr => rdMes wr g b.length)
    case atStart => exact ⟨R4, _, _, M, HB, BX, HH4.out, HRH⟩
  all_goals
    clear HB M BX HRH HH4
    obtain ⟨R1, hs1, bd1, M, HB, BX, hh, HR1⟩ := hrel
    have HHH := Lib.hid hh
    have HM0 := Lib.hid M
    have hln := HLB.out
    clear hh
    have HLA : Hid (R1.at_ ≤ 1099511627776) := Lib.hid (by
      rcases HR1.out with h | h
      · have := h.2.2.1; omega
      · have := h.le; omega)
    cases hp : pkB b R1
    · have HPB := Lib.hid hp
      have HST := Lib.hid (HR1.out.none_ (fun h => ⟨_, h, rfl, rfl, fun _ => rfl⟩) hp)
      clear hp
      go_wp2_with (first
        | (go_at_call 82; (with_reducible refine (peek_none M HPB.out HLB.out HLA.out).mono ?_); rintro e w5 ⟨rfl, hm, hb⟩; replace M := hm; replace HB := HB.trans (hb.mono (Nat.le_of_lt HMN.out)); replace BX := IBox.below BX hb HMN.out; clear hm hb)
        | (go_at_call 77; (refine (rwant_any (st := fun _ => newA ans a) M (.inr HST.out) (fun e1 e2 => (HST.out.no e1 e2).elim) HLB.out (by decide)).mono ?_); rintro e w7 ⟨rfl, hb, R5, hm, hr, e9, e10, e11⟩; replace M := hm; replace HB := HB.trans (hb.mono (Nat.le_of_lt HMN.out)); replace BX := IBox.below BX hb HMN.out; have HR5 := Lib.hid hr; have HM5 := Lib.hid e9; have HH5 := Lib.hid e10; have HU5 := Lib.hid e11; clear hm hr e9 e10 e11 hb; have HS5 : Hid (Stp b ans a R5.at_ R5.bad R5.more) := Lib.hid (Or.resolve_left HR5.out (fun h => HST.out.no (HU5.out h.1 h.2.1).1 (HU5.out h.1 h.2.1).2)); have HQ : Hid (¬ (R5.bad = 0 ∧ R5.more = false)) := Lib.hid (fun x => HS5.out.no x.1 x.2))
        | (go_at_call 82; (refine (peek_none M (pk_stp HS5.out rfl rfl) HLB.out (Nat.le_trans HS5.out.le HLB.out)).mono ?_); rintro e w8 ⟨rfl, hm, hb⟩; rw [pkN_stp HS5.out rfl rfl] at hm; replace M := hm; replace HB := HB.trans (hb.mono (Nat.le_of_lt HMN.out)); replace BX := IBox.below BX hb HMN.out; clear hm hb)
        | (go_at_call 84; (refine (rstop_yes M HQ.out).mono ?_); rintro e wq ⟨rfl, rfl⟩))
      replace HST := HS5
      refine wp_region_S (S := fun w' => w'.cell? ⟨g, 1, none⟩ = some (.int .i64 (R5.at_ : Int)) ∧ w'.cell? ⟨g, 2, none⟩ = some (.int .i64 R5.bad) ∧ w'.cell? ⟨g, 3, none⟩ = some (.bool R5.more)) (by kernel_rfl) (fun w29 hh => ⟨(box_heap hh M.box).cell 1, (box_heap hh M.box).cell 2, (box_heap hh M.box).cell 3⟩) (fun w29 hh hbb HS0 => ?_)
      have hb := hbb _ (Nat.le_refl _)
      replace HB := zT HB hb
      replace BX := zI BX hb
      replace M := M.below hb
      clear hh hbb hb
      refine TKY 0 63 rfl (yields_bld (vals := []) (by kernel_rfl) zero_msg _ rfl rfl) ?_
      try simp only [Act.put, zA, zB, zC]
      refine TKC 1 64 rfl ?_
      try simp only [Act.put, zA, zB, zC]
      refine TKC 2 65 rfl ?_
      try simp only [Act.put, zA, zB, zC]
      refine TKC 3 66 rfl ?_
      try simp only [Act.put, zA, zB, zC]
      refine TKC 4 67 rfl ?_ (by (intro w hSw; (try dsimp only at hSw); have q1 := hSw.1; go_simp; try with_reducible rfl))
      try simp only [Act.put, zA, zB, zC]
      refine TKC 5 68 rfl ?_
      try simp only [Act.put, zA, zB, zC]
      refine TKC 6 69 rfl ?_
      try simp only [Act.put, zA, zB, zC]
      refine TKC 7 70 rfl ?_
      try simp only [Act.put, zA, zB, zC]
      refine TKC 8 71 rfl ?_ (by (intro w hSw; (try dsimp only at hSw); have q1 := hSw.2.1; go_simp; try with_reducible rfl))
      try simp only [Act.put, zA, zB, zC]
      refine TKC 9 72 rfl ?_
      try simp only [Act.put, zA, zB, zC]
      refine TKC 10 73 rfl ?_
      try simp only [Act.put, zA, zB, zC]
      refine TKC 11 74 rfl ?_
      try simp only [Act.put, zA, zB, zC]
      refine TKC 12 75 rfl ?_ (by (intro w hSw; (try dsimp only at hSw); have q1 := hSw.2.2; go_simp; try with_reducible rfl))
      try simp only [Act.put, zA, zB, zC]
      refine wpAnyH_ready (rs := [13]) (by kernel_rfl) (by simp) ?_
      refine AllReadyH.cons (o := ⟨none, _, _, _, _, _⟩) rfl (fun K hK => ?_) AllReadyH.nil
      simp only [Region.wanted, if_true]
      refine op_store_at 25 _ _ rfl w.heap.size zeroM rfl rfl _ _ BX info_msg rfl zero_one ?_
      intro w30 hw
      have hwb := (Bes.row (X := fun q => q = w.heap.size) hw rfl)
      replace M := M.besA hwb (fun e => by have h5 := M.gn; have h6 : g = w.heap.size := e; have := HMN.out; omega) (fun q h e => by have h6 : q = w.heap.size := e; have := HMN.out; omega) (fun bb off e x => by have h6 : bb = w.heap.size := x; have := HAB.out bb off e; omega)
      replace HB := HB.trans (hwb.below (fun q e => by rw [show q = w.heap.size from e]; exact Nat.le_refl _) HB.size)
      have BX2 := hid_row hw BX
      clear hw hwb BX
      replace HS0 : w30.cell? ⟨g, 1, none⟩ = some (.int .i64 (R5.at_ : Int)) ∧ w30.cell? ⟨g, 2, none⟩ = some (.int .i64 R5.bad) ∧ w30.cell? ⟨g, 3, none⟩ = some (.bool R5.more) := ⟨M.box.cell 1, M.box.cell 2, M.box.cell 3⟩
      refine hK.out _ _ HS0 (fun hS2 => ?_)
      clear hK K hS2
      try simp only [Act.put, zA, zB, zC]
      refine TKC 14 5 rfl ?_
      try simp only [Act.put, zA, zB, zC]
      refine TKC 15 6 rfl ?_
      try simp only [Act.put, zA, zB, zC]
      refine TKC 16 7 rfl ?_
      try simp only [Act.put, zA, zB, zC]
      refine wpAnyH_done (by kernel_rfl) ?_ _
      clear HS0
      go_wp2
      try simp only [Exit.inBlock, Exit.then]
      refine bodyPost_ret (results_one rfl _ _ w.heap.size _ zeroM _ rfl BX2 Tryz.underlying25 rfl info_msg) rfl ?_
      exact ⟨HB, zeroM, R5.at_, R5.bad, R5.more, rfl, .inl ⟨rfl, HST.out⟩⟩
    · rename_i c
      have HPB := Lib.hid hp
      obtain ⟨p1, p2, h, p3, p4⟩ := HR1.out.some_ hp
      have hk := p4 HHH.out
      have hlt : R1.at_ < b.length := (List.getElem?_eq_some_iff.1 p3).1
      have HP := Lib.hid (show R1.bad = 0 ∧ R1.more = false from ⟨p1, p2⟩)
      have HH64 : Hid (R1.m.heads.length ≤ 64) := Lib.hid h.fi.heads
      clear hp p1 p2 p4
      by_cases a1 : c.toNat = 13
      · obtain rfl : c = 13 := UInt8.toNat_inj.1 a1
        have b1 : ((13 : UInt8).toNat : Int) = 13 := rfl
        have HAT := Lib.hid h
        have HP3 := Lib.hid p3
        clear h p3 hk hlt
        go_wp2_with (first
          | (go_at_call 82; (with_reducible refine (peek_some M HPB.out HLB.out).mono ?_); rintro e w5 ⟨rfl, hm, hb⟩; replace M := hm; replace HB := HB.trans (hb.mono (Nat.le_of_lt HMN.out)); replace BX := IBox.below BX hb HMN.out; clear hm hb)
          | (go_at_call 77; (refine (rwant_any (s := ⟨#[13]⟩) (x := 3) (st := fun i => match i with | 0 => hF ans a R1.at_ 6 [] R1.m 1 | _ => hF ans a (R1.at_ + 1) 5 [] R1.m 2) M (.inl ⟨HP.out.1, HP.out.2, rfl, HAT.out⟩) (fun _ _ => by rw [HHH.out]; exact wt_end HP3.out) HLB.out (by decide)).mono ?_); rintro e w6 ⟨rfl, hb, R5, hm, hr, e9, e10, e11⟩; replace M := hm; replace HB := HB.trans (hb.mono (Nat.le_of_lt HMN.out)); replace BX := IBox.below BX hb HMN.out; have HR5 := Lib.hid hr; have HM5 := Lib.hid e9; have HH5 := Lib.hid e10; have HU5 := Lib.hid e11; clear hm hr e9 e10 e11 hb))
        have HH5T : Hid (R5.head = true) := Lib.hid (HH5.out.trans HHH.out)
        have HR5B : Hid (Rn b ans a (fun k m => Atk b ans a k (hF ans a k 5 [] m 2)) R5) := Lib.hid (HR5.out.rn (fun h5 e => by rw [e, HM5.out]; exact h5))
        clear HR5 HU5 HM5 HH5 HPB HAT HP3 HP HLA
        have HLA : Hid (R5.at_ ≤ 1099511627776) := Lib.hid (by
          have := HLB.out
          rcases HR5B.out with h | h
          · have := h.2.2.1; omega
          · have := h.le; omega)
        cases hp : pkB b R5
        · have HPB := Lib.hid hp
          have HST := Lib.hid (HR5B.out.none_ (fun h => ⟨_, h, rfl, rfl, fun _ => rfl⟩) hp)
          have HQ : Hid (¬ ((pkN b R5).bad = 0 ∧ (pkN b R5).more = false)) := Lib.hid (fun x => HST.out.no x.1 x.2)
          clear hp
          generalize hRZ : pkN b R5 = RZ at HST HQ
          go_wp2_with (first
            | (go_at_call 82; (with_reducible refine (peek_none M HPB.out HLB.out HLA.out).mono ?_); rintro e w7 ⟨rfl, hm, hb⟩; rw [hRZ] at hm; replace M := hm; replace HB := HB.trans (hb.mono (Nat.le_of_lt HMN.out)); replace BX := IBox.below BX hb HMN.out; clear hm hb)
            | (go_at_call 84; (refine (rstop_yes M HQ.out).mono ?_); rintro e wq ⟨rfl, rfl⟩))
          clear hRZ
          refine wp_region_S (S := fun w' => w'.cell? ⟨g, 1, none⟩ = some (.int .i64 (RZ.at_ : Int)) ∧ w'.cell? ⟨g, 2, none⟩ = some (.int .i64 RZ.bad) ∧ w'.cell? ⟨g, 3, none⟩ = some (.bool RZ.more)) (by kernel_rfl) (fun w29 hh => ⟨(box_heap hh M.box).cell 1, (box_heap hh M.box).cell 2, (box_heap hh M.box).cell 3⟩) (fun w29 hh hbb HS0 => ?_)
          have hb := hbb _ (Nat.le_refl _)
          replace HB := zT HB hb
          replace BX := zI BX hb
          replace M := M.below hb
          clear hh hbb hb
          refine TKY 0 63 rfl (yields_bld (vals := []) (by kernel_rfl) zero_msg _ rfl rfl) ?_
          try simp only [Act.put, zA, zB, zC]
          refine TKC 1 64 rfl ?_
          try simp only [Act.put, zA, zB, zC]
          refine TKC 2 65 rfl ?_
          try simp only [Act.put, zA, zB, zC]
          refine TKC 3 66 rfl ?_
          try simp only [Act.put, zA, zB, zC]
          refine TKC 4 67 rfl ?_ (by (intro w hSw; (try dsimp only at hSw); have q1 := hSw.1; go_simp; try with_reducible rfl))
          try simp only [Act.put, zA, zB, zC]
          refine TKC 5 68 rfl ?_
          try simp only [Act.put, zA, zB, zC]
          refine TKC 6 69 rfl ?_
          try simp only [Act.put, zA, zB, zC]
          refine TKC 7 70 rfl ?_
          try simp only [Act.put, zA, zB, zC]
          refine TKC 8 71 rfl ?_ (by (intro w hSw; (try dsimp only at hSw); have q1 := hSw.2.1; go_simp; try with_reducible rfl))
          try simp only [Act.put, zA, zB, zC]
          refine TKC 9 72 rfl ?_
          try simp only [Act.put, zA, zB, zC]
          refine TKC 10 73 rfl ?_
          try simp only [Act.put, zA, zB, zC]
          refine TKC 11 74 rfl ?_
          try simp only [Act.put, zA, zB, zC]
          refine TKC 12 75 rfl ?_ (by (intro w hSw; (try dsimp only at hSw); have q1 := hSw.2.2; go_simp; try with_reducible rfl))
          try simp only [Act.put, zA, zB, zC]
          refine wpAnyH_ready (rs := [13]) (by kernel_rfl) (by simp) ?_
          refine AllReadyH.cons (o := ⟨none, _, _, _, _, _⟩) rfl (fun K hK => ?_) AllReadyH.nil
          simp only [Region.wanted, if_true]
          refine op_store_at 25 _ _ rfl w.heap.size zeroM rfl rfl _ _ BX info_msg rfl zero_one ?_
          intro w30 hw
          have hwb := (Bes.row (X := fun q => q = w.heap.size) hw rfl)
          replace M := M.besA hwb (fun e => by have h5 := M.gn; have h6 : g = w.heap.size := e; have := HMN.out; omega) (fun q h e => by have h6 : q = w.heap.size := e; have := HMN.out; omega) (fun bb off e x => by have h6 : bb = w.heap.size := x; have := HAB.out bb off e; omega)
          replace HB := HB.trans (hwb.below (fun q e => by rw [show q = w.heap.size from e]; exact Nat.le_refl _) HB.size)
          have BX2 := hid_row hw BX
          clear hw hwb BX
          replace HS0 : w30.cell? ⟨g, 1, none⟩ = some (.int .i64 (RZ.at_ : Int)) ∧ w30.cell? ⟨g, 2, none⟩ = some (.int .i64 RZ.bad) ∧ w30.cell? ⟨g, 3, none⟩ = some (.bool RZ.more) := ⟨M.box.cell 1, M.box.cell 2, M.box.cell 3⟩
          refine hK.out _ _ HS0 (fun hS2 => ?_)
          clear hK K hS2
          try simp only [Act.put, zA, zB, zC]
          refine TKC 14 5 rfl ?_
          try simp only [Act.put, zA, zB, zC]
          refine TKC 15 6 rfl ?_
          try simp only [Act.put, zA, zB, zC]
          refine TKC 16 7 rfl ?_
          try simp only [Act.put, zA, zB, zC]
          refine wpAnyH_done (by kernel_rfl) ?_ _
          clear HS0
          go_wp2
          try simp only [Exit.inBlock, Exit.then]
          refine bodyPost_ret (results_one rfl _ _ w.heap.size _ zeroM _ rfl BX2 Tryz.underlying25 rfl info_msg) rfl ?_
          exact ⟨HB, zeroM, RZ.at_, RZ.bad, RZ.more, rfl, .inl ⟨rfl, HST.out⟩⟩
        · rename_i c
          have HPB := Lib.hid hp
          obtain ⟨p1, p2, h, p3, p4⟩ := HR5B.out.some_ hp
          have hk := p4 HH5T.out
          have hlt : R5.at_ < b.length := (List.getElem?_eq_some_iff.1 p3).1
          have HP := Lib.hid (show R5.bad = 0 ∧ R5.more = false from ⟨p1, p2⟩)
          clear hp p1 p2 p4
          by_cases a2 : c.toNat = 10
          · obtain rfl : c = 10 := UInt8.toNat_inj.1 a2
            have b2 : ((10 : UInt8).toNat : Int) = 10 := rfl
            have hal5 : (R5.at_ : Int) ≤ 1099511627776 := by have := HLA.out; omega
            obtain ⟨hs5, hhs5⟩ : ∃ v, v = hs1 := ⟨_, rfl⟩
            have HLEN : Hid (∀ wx, HdAt wx hs1 R5.m.heads → Calls Tryz.prog 85 #[hs1] wx fun e w' => e = .returned (.int .i64 (lenS (headsS R5.m.heads 0))) ∧ Below wx.heap.size wx w') := Lib.hid fun wx hd => rlength_any hd (by have := h.fi.heads; show R5.m.heads.length ≤ _; have h5 : R5.m.heads.length ≤ 64 := h.fi.heads; omega) (fun p hp => h.hz p hp)
            have HQ1 := Lib.hid HP.out.1
            have HQ2 := Lib.hid HP.out.2
            have HF64 : Hid (R5.m.heads.length ≤ 64) := Lib.hid h.fi.heads
            have HBE : Hid (R5.m.body = []) := Lib.hid (h.fi.early (by show 5 ≤ 7; omega)).1
            have hk9 := lens_kind R5.m.heads
            obtain ⟨N, hN⟩ : ∃ N, lenS (headsS R5.m.heads 0) = N := ⟨_, rfl⟩
            rw [hN] at HLEN hk9
            clear hhs5
            have HK := Lib.hid hk
            rcases hk9 with rfl | rfl | hN0
            · have HST : Hid (Stp b ans a R5.at_ 32 false) := Lib.hid (Stp.bad h rfl rfl p3 (lb_bad hk rfl hN) (by omega))
              clear h p3 hk hlt hN
              go_wp2_with (first
                | (go_at_call 82; (with_reducible refine (peek_some M HPB.out HLB.out).mono ?_); rintro e w7 ⟨rfl, hm, hb⟩; replace M := hm; replace HB := HB.trans (hb.mono (Nat.le_of_lt HMN.out)); replace BX := IBox.below BX hb HMN.out; clear hm hb; have c9 : w7.cell? ⟨g, 9, none⟩ = some hs1 := M.box.cell 9)
                | (go_at_call 84; (refine (rstop_no M HQ1.out HQ2.out).mono ?_); rintro e wq ⟨rfl, rfl⟩)
                | (go_at_call 85; (refine (HLEN.out _ (hd_own M.rh)).mono ?_); rintro e w8 ⟨rfl, hb⟩; replace M := M.below hb; replace BX := zI BX hb; replace HB := zT HB hb; clear hb c9))
              refine wp_region_S (S := fun w' => w'.cell? ⟨g, 1, none⟩ = some (.int .i64 (R5.at_ : Int))) (by kernel_rfl) (fun w29 hh => (box_heap hh M.box).cell 1) (fun w29 hh hbb HS0 => ?_)
              have hb := hbb _ (Nat.le_refl _)
              replace HB := zT HB hb
              replace BX := zI BX hb
              replace M := M.below hb
              clear hh hbb hb
              refine TKY 0 84 rfl (yields_bld (vals := []) (by kernel_rfl) zero_msg _ rfl rfl) ?_
              try simp only [Act.put, zA, zB, zC]
              refine TKC 1 85 rfl ?_
              try simp only [Act.put, zA, zB, zC]
              refine TKC 2 86 rfl ?_
              try simp only [Act.put, zA, zB, zC]
              refine TKC 3 87 rfl ?_
              try simp only [Act.put, zA, zB, zC]
              refine TKC 4 88 rfl ?_ (by (intro w hSw; (try dsimp only at hSw); have q1 := hSw; go_simp; try with_reducible rfl))
              try simp only [Act.put, zA, zB, zC]
              refine wpAnyH_ready (rs := [5]) (by kernel_rfl) (by simp) ?_
              refine AllReadyH.cons (o := ⟨none, _, _, _, _, _⟩) rfl (fun K hK => ?_) AllReadyH.nil
              simp only [Region.wanted, if_true]
              refine op_store_at 25 _ _ rfl w.heap.size zeroM rfl rfl _ _ BX info_msg rfl zero_one ?_
              intro w30 hw
              have hwb := (Bes.row (X := fun q => q = w.heap.size) hw rfl)
              replace M := M.besA hwb (fun e => by have h5 := M.gn; have h6 : g = w.heap.size := e; have := HMN.out; omega) (fun q h e => by have h6 : q = w.heap.size := e; have := HMN.out; omega) (fun bb off e x => by have h6 : bb = w.heap.size := x; have := HAB.out bb off e; omega)
              replace HB := HB.trans (hwb.below (fun q e => by rw [show q = w.heap.size from e]; exact Nat.le_refl _) HB.size)
              have BX2 := hid_row hw BX
              clear hw hwb BX
              replace HS0 : w30.cell? ⟨g, 1, none⟩ = some (.int .i64 (R5.at_ : Int)) := M.box.cell 1
              refine hK.out _ _ HS0 (fun hS2 => ?_)
              clear hK K hS2
              try simp only [Act.put, zA, zB, zC]
              refine TKC 6 5 rfl ?_
              try simp only [Act.put, zA, zB, zC]
              refine TKC 7 6 rfl ?_
              try simp only [Act.put, zA, zB, zC]
              refine TKC 8 7 rfl ?_
              try simp only [Act.put, zA, zB, zC]
              refine wpAnyH_done (by kernel_rfl) ?_ _
              clear HS0
              go_wp2
              try simp only [Exit.inBlock, Exit.then]
              refine bodyPost_ret (results_one rfl _ _ w.heap.size _ zeroM _ rfl BX2 Tryz.underlying25 rfl info_msg) rfl ?_
              exact ⟨HB, zeroM, R5.at_, 32, false, rfl, .inl ⟨rfl, HST.out⟩⟩
            · have HN : Hid (Atk b ans a (R5.at_ + 1) _) := Lib.hid (h.step p3 (lb_pieces hk rfl hN))
              clear h p3 hk hlt hN
              go_wp2_with (first
                | (go_at_call 82; (with_reducible refine (peek_some M HPB.out HLB.out).mono ?_); rintro e w7 ⟨rfl, hm, hb⟩; replace M := hm; replace HB := HB.trans (hb.mono (Nat.le_of_lt HMN.out)); replace BX := IBox.below BX hb HMN.out; clear hm hb; have c9 : w7.cell? ⟨g, 9, none⟩ = some hs1 := M.box.cell 9)
                | (go_at_call 84; (refine (rstop_no M HQ1.out HQ2.out).mono ?_); rintro e wq ⟨rfl, rfl⟩)
                | (go_at_call 85; (refine (HLEN.out _ (hd_own M.rh)).mono ?_); rintro e w8 ⟨rfl, hb⟩; replace M := M.below hb; replace BX := zI BX hb; replace HB := zT HB hb; clear hb c9; have c1 : w8.cell? ⟨g, 1, none⟩ = some (.int .i64 (R5.at_ : Int)) := M.box.cell 1)
                | ((with_reducible refine is_store ?_); refine wpl_store_cell rfl 3 (.tmp 102) _ rfl g 1 rfl (.int .i64 ((R5.at_ : Int) + 1)) rfl _ _ M.box (show 1 < 11 by decide) one_i rfl ?_; intro w9 hw; have hlw := M.low hw; replace HB := HB.trans (hlw.mono (Nat.le_of_lt HMN.out)); replace BX := IBox.below BX hlw HMN.out; replace M := M.s1 (R5.at_ + 1) hw; clear hw hlw c1)
                | ((with_reducible refine is_store ?_); refine wpl_store_cell rfl 4 (.tmp 105) _ rfl g 4 rfl (.bool false) rfl _ _ M.box (show 4 < 11 by decide) one_b rfl ?_; intro w10 hw; have hlw := M.low hw; replace HB := HB.trans (hlw.mono (Nat.le_of_lt HMN.out)); replace BX := IBox.below BX hlw HMN.out; replace M := M.s4 false hw; clear hw hlw))
              go_loopw [] (fun wx => ∃ (R2 : Rd) (hs2 bd2 : Value), RdM n g R2 b A cp hs2 bd2 wx ∧ Below w.heap.size w wx ∧ IBox wx w.heap.size 25 zeroM ∧ R2.head = false ∧ Hid (Rn b ans a (fun k m => (∃ left, Atk b ans a k (bF ans a k 9 [] m left 0 2)) ∧ m.body.length ≤ 65536 ∧ m.heads.length ≤ 64) R2)) (fun wx => rdMes wx g b.length)
              case atStart => exact ⟨_, _, _, M, HB, BX, rfl, Lib.hid (.inl ⟨HP.out.1, HP.out.2, ⟨_, HN.out⟩, (by show R5.m.body.length ≤ _; rw [HBE.out]; exact Nat.zero_le _), HF64.out⟩)⟩
              case round =>
                clear HB M BX HN
                obtain ⟨R2, hs2, bd2, M, HB, BX, hh2, HR2⟩ := hrel
                have HHR := Lib.hid hh2
                have HM2 := Lib.hid M
                clear hh2 HQ1 HQ2
                rcases HR2.out with h | h
                · obtain ⟨h1, h2, ⟨left, h3⟩, h4, h5⟩ := h
                  have HQ1 := Lib.hid h1
                  have HQ2 := Lib.hid h2
                  have HL9 := Lib.hid h3
                  have HE2 := Lib.hid h4
                  have HE3 := Lib.hid h5
                  clear h1 h2 h3 h4 h5
                  go_wp2_with (first
                    | (go_at_call 84; (refine (rstop_no M HQ1.out HQ2.out).mono ?_); rintro e wq ⟨rfl, rfl⟩)
                    | (go_at_call 87; (refine (rchunk_any M HQ1.out HQ2.out HL9.out HE2.out HE3.out HHR.out HLB.out HB0.out).mono ?_); rintro e w12 ⟨hb, q, RZ, hs8, bd8, rfl, hm, hh8, hd8⟩; replace M := hm; replace HB := HB.trans (hb.mono (Nat.le_of_lt HMN.out)); replace BX := IBox.below BX hb HMN.out; clear hm hb))
                  · rcases hd8 with ⟨rfl, hr⟩ | ⟨rfl, hr⟩
                    · exact absurd (by assumption : (!true) = true) (by decide)
                    · have HRE : Hid (Rn b ans a (fun k m => Atk b ans a k (eF ans a k m) ∧ m.body.length ≤ 65536 ∧ m.heads.length ≤ 64) RZ) := Lib.hid (hr.mono (fun k m h => ⟨h.1, h.2.1, h.2.2.2⟩))
                      clear hr hh8 HQ1 HQ2 HE2 HE3
                      rcases HRE.out with h | h
                      · have HQ1 := Lib.hid h.1
                        have HQ2 := Lib.hid h.2.1
                        have HE1 := Lib.hid h.2.2.1
                        have HE2 := Lib.hid h.2.2.2.1
                        have HE3 := Lib.hid h.2.2.2.2
                        clear h HRE
                        go_wp2_with (first
                          | (go_at_call 84; (refine (rstop_no M HQ1.out HQ2.out).mono ?_); rintro e wq ⟨rfl, rfl⟩))
                        refine wp_region_S (S := fun w' => w'.rangeAt g 5 (Mm.cells ⟨RZ.m, hs8, bd8⟩).toList ∧ w'.cell? ⟨g, 1, none⟩ = some (.int .i64 (RZ.at_ : Int))) (by kernel_rfl) (fun w29 hh => ⟨fun j v hv => (World.cell?_of_block (by rw [hh])).trans (M.part j v hv), (box_heap hh M.box).cell 1⟩) (fun w29 hh hbb HS0 => ?_)
                        have hb := hbb _ (Nat.le_refl _)
                        replace HB := zT HB hb
                        replace BX := zI BX hb
                        replace M := M.below hb
                        clear hh hbb hb
                        refine TKC 0 137 rfl ?_
                        try simp only [Act.put, zA, zB, zC]
                        refine TKC 1 138 rfl ?_
                        try simp only [Act.put, zA, zB, zC]
                        refine TKC 2 139 rfl ?_
                        try simp only [Act.put, zA, zB, zC]
                        refine TKY 3 140 rfl (yields_rowS (by kernel_rfl) _ _ rfl _ _ rfl _ _ (fun _ h => h.1) Tryz.underlying25 rfl (by show _ = some 6; exact info_msg)) ?_
                        try simp only [Act.put, zA, zB, zC]
                        refine TKC 4 141 rfl ?_
                        try simp only [Act.put, zA, zB, zC]
                        refine TKC 5 142 rfl ?_
                        try simp only [Act.put, zA, zB, zC]
                        refine TKC 6 143 rfl ?_
                        try simp only [Act.put, zA, zB, zC]
                        refine TKC 7 144 rfl ?_ (by (intro w hSw; (try dsimp only at hSw); have q1 := hSw.2; go_simp; try with_reducible rfl))
                        try simp only [Act.put, zA, zB, zC]
                        refine wpAnyH_ready (rs := [8]) (by kernel_rfl) (by simp) ?_
                        refine AllReadyH.cons (o := ⟨none, _, _, _, _, _⟩) rfl (fun K hK => ?_) AllReadyH.nil
                        simp only [Region.wanted, if_true]
                        refine op_store_at 25 _ _ rfl w.heap.size (Mm.cells ⟨RZ.m, hs8, bd8⟩) rfl rfl _ _ BX info_msg rfl (mm_one2 M) ?_
                        intro w30 hw
                        have hwb := (Bes.row (X := fun q => q = w.heap.size) hw rfl)
                        replace M := M.besA hwb (fun e => by have h5 := M.gn; have h6 : g = w.heap.size := e; have := HMN.out; omega) (fun q h e => by have h6 : q = w.heap.size := e; have := HMN.out; omega) (fun bb off e x => by have h6 : bb = w.heap.size := x; have := HAB.out bb off e; omega)
                        replace HB := HB.trans (hwb.below (fun q e => by rw [show q = w.heap.size from e]; exact Nat.le_refl _) HB.size)
                        have BX2 := hid_row hw BX
                        clear hw hwb BX
                        replace HS0 : w30.rangeAt g 5 (Mm.cells ⟨RZ.m, hs8, bd8⟩).toList ∧ w30.cell? ⟨g, 1, none⟩ = some (.int .i64 (RZ.at_ : Int)) := ⟨M.part, M.box.cell 1⟩
                        refine hK.out _ _ HS0 (fun hS2 => ?_)
                        clear hK K hS2
                        try simp only [Act.put, zA, zB, zC]
                        refine TKC 9 5 rfl ?_
                        try simp only [Act.put, zA, zB, zC]
                        refine TKC 10 6 rfl ?_
                        try simp only [Act.put, zA, zB, zC]
                        refine TKC 11 7 rfl ?_
                        try simp only [Act.put, zA, zB, zC]
                        refine wpAnyH_done (by kernel_rfl) ?_ _
                        clear HS0
                        go_wp2
                        try simp only [Exit.inBlock, Exit.then]
                        refine bodyPost_ret (results_one rfl _ _ w.heap.size _ (Mm.cells ⟨RZ.m, hs8, bd8⟩) _ rfl BX2 Tryz.underlying25 rfl info_msg) rfl ?_
                        exact ⟨HB, _, RZ.at_, 0, false, rfl, .inr ⟨rfl, rfl, HE1.out.pos_, ⟨RZ.m, hs8, bd8⟩, HE1.out, rfl, M.mm HE3.out HE2.out, fun q e => e.elim (fun e => Nat.le_trans (Nat.le_of_lt HMN.out) (own_in M.rh e).1) (fun e => Nat.le_trans (Nat.le_of_lt HMN.out) (own_in M.rb e).1)⟩⟩
                      · have HQ : Hid (¬ (RZ.bad = 0 ∧ RZ.more = false)) := Lib.hid (fun x => h.no x.1 x.2)
                        have HST := Lib.hid h
                        clear h HRE
                        go_wp2_with (first
                          | (go_at_call 84; (refine (rstop_yes M HQ.out).mono ?_); rintro e wq ⟨rfl, rfl⟩))
                        refine wp_region_S (S := fun w' => w'.cell? ⟨g, 1, none⟩ = some (.int .i64 (RZ.at_ : Int)) ∧ w'.cell? ⟨g, 2, none⟩ = some (.int .i64 RZ.bad) ∧ w'.cell? ⟨g, 3, none⟩ = some (.bool RZ.more)) (by kernel_rfl) (fun w29 hh => ⟨(box_heap hh M.box).cell 1, (box_heap hh M.box).cell 2, (box_heap hh M.box).cell 3⟩) (fun w29 hh hbb HS0 => ?_)
                        have hb := hbb _ (Nat.le_refl _)
                        replace HB := zT HB hb
                        replace BX := zI BX hb
                        replace M := M.below hb
                        clear hh hbb hb
                        refine TKY 0 124 rfl (yields_bld (vals := []) (by kernel_rfl) zero_msg _ rfl rfl) ?_
                        try simp only [Act.put, zA, zB, zC]
                        refine TKC 1 125 rfl ?_
                        try simp only [Act.put, zA, zB, zC]
                        refine TKC 2 126 rfl ?_
                        try simp only [Act.put, zA, zB, zC]
                        refine TKC 3 127 rfl ?_
                        try simp only [Act.put, zA, zB, zC]
                        refine TKC 4 128 rfl ?_ (by (intro w hSw; (try dsimp only at hSw); have q1 := hSw.1; go_simp; try with_reducible rfl))
                        try simp only [Act.put, zA, zB, zC]
                        refine TKC 5 129 rfl ?_
                        try simp only [Act.put, zA, zB, zC]
                        refine TKC 6 130 rfl ?_
                        try simp only [Act.put, zA, zB, zC]
                        refine TKC 7 131 rfl ?_
                        try simp only [Act.put, zA, zB, zC]
                        refine TKC 8 132 rfl ?_ (by (intro w hSw; (try dsimp only at hSw); have q1 := hSw.2.1; go_simp; try with_reducible rfl))
                        try simp only [Act.put, zA, zB, zC]
                        refine TKC 9 133 rfl ?_
                        try simp only [Act.put, zA, zB, zC]
                        refine TKC 10 134 rfl ?_
                        try simp only [Act.put, zA, zB, zC]
                        refine TKC 11 135 rfl ?_
                        try simp only [Act.put, zA, zB, zC]
                        refine TKC 12 136 rfl ?_ (by (intro w hSw; (try dsimp only at hSw); have q1 := hSw.2.2; go_simp; try with_reducible rfl))
                        try simp only [Act.put, zA, zB, zC]
                        refine wpAnyH_ready (rs := [13]) (by kernel_rfl) (by simp) ?_
                        refine AllReadyH.cons (o := ⟨none, _, _, _, _, _⟩) rfl (fun K hK => ?_) AllReadyH.nil
                        simp only [Region.wanted, if_true]
                        refine op_store_at 25 _ _ rfl w.heap.size zeroM rfl rfl _ _ BX info_msg rfl zero_one ?_
                        intro w30 hw
                        have hwb := (Bes.row (X := fun q => q = w.heap.size) hw rfl)
                        replace M := M.besA hwb (fun e => by have h5 := M.gn; have h6 : g = w.heap.size := e; have := HMN.out; omega) (fun q h e => by have h6 : q = w.heap.size := e; have := HMN.out; omega) (fun bb off e x => by have h6 : bb = w.heap.size := x; have := HAB.out bb off e; omega)
                        replace HB := HB.trans (hwb.below (fun q e => by rw [show q = w.heap.size from e]; exact Nat.le_refl _) HB.size)
                        have BX2 := hid_row hw BX
                        clear hw hwb BX
                        replace HS0 : w30.cell? ⟨g, 1, none⟩ = some (.int .i64 (RZ.at_ : Int)) ∧ w30.cell? ⟨g, 2, none⟩ = some (.int .i64 RZ.bad) ∧ w30.cell? ⟨g, 3, none⟩ = some (.bool RZ.more) := ⟨M.box.cell 1, M.box.cell 2, M.box.cell 3⟩
                        refine hK.out _ _ HS0 (fun hS2 => ?_)
                        clear hK K hS2
                        try simp only [Act.put, zA, zB, zC]
                        refine TKC 14 5 rfl ?_
                        try simp only [Act.put, zA, zB, zC]
                        refine TKC 15 6 rfl ?_
                        try simp only [Act.put, zA, zB, zC]
                        refine TKC 16 7 rfl ?_
                        try simp only [Act.put, zA, zB, zC]
                        refine wpAnyH_done (by kernel_rfl) ?_ _
                        clear HS0
                        go_wp2
                        try simp only [Exit.inBlock, Exit.then]
                        refine bodyPost_ret (results_one rfl _ _ w.heap.size _ zeroM _ rfl BX2 Tryz.underlying25 rfl info_msg) rfl ?_
                        exact ⟨HB, zeroM, RZ.at_, RZ.bad, RZ.more, rfl, .inl ⟨rfl, HST.out⟩⟩
                  · rcases hd8 with ⟨rfl, hr⟩ | ⟨rfl, hr⟩
                    · refine ⟨⟨RZ, _, _, M, HB, BX, hh8, Lib.hid (hr.mono (fun k m h => ⟨h.1, h.2.1, h.2.2.2⟩))⟩, ?_⟩
                      rw [rdMes_of HM2.out, rdMes_of M, if_pos (show R2.bad = 0 ∧ R2.more = false from ⟨HQ1.out, HQ2.out⟩)]
                      have := HL9.out.1
                      rcases hr with h | h
                      · rw [if_pos ⟨h.1, h.2.1⟩]
                        have := h.2.2.2.2.1
                        have h9 : ∃ left, Atk b ans a RZ.at_ (bF ans a RZ.at_ 9 [] RZ.m left 0 2) := h.2.2.1
                        obtain ⟨left, h9⟩ := h9
                        have := h9.1
                        omega
                      · rw [if_neg (fun x => h.no x.1 x.2)]
                        omega
                    · exact absurd (by assumption : (!false) = false) (by decide)
                · have HQ : Hid (¬ (R2.bad = 0 ∧ R2.more = false)) := Lib.hid (fun x => h.no x.1 x.2)
                  have HST := Lib.hid h
                  clear h
                  go_wp2_with (first
                    | (go_at_call 84; (refine (rstop_yes M HQ.out).mono ?_); rintro e wq ⟨rfl, rfl⟩))
                  refine wp_region_S (S := fun w' => w'.cell? ⟨g, 1, none⟩ = some (.int .i64 (R2.at_ : Int)) ∧ w'.cell? ⟨g, 2, none⟩ = some (.int .i64 R2.bad) ∧ w'.cell? ⟨g, 3, none⟩ = some (.bool R2.more)) (by kernel_rfl) (fun w29 hh => ⟨(box_heap hh M.box).cell 1, (box_heap hh M.box).cell 2, (box_heap hh M.box).cell 3⟩) (fun w29 hh hbb HS0 => ?_)
                  have hb := hbb _ (Nat.le_refl _)
                  replace HB := zT HB hb
                  replace BX := zI BX hb
                  replace M := M.below hb
                  clear hh hbb hb
                  refine TKY 0 124 rfl (yields_bld (vals := []) (by kernel_rfl) zero_msg _ rfl rfl) ?_
                  try simp only [Act.put, zA, zB, zC]
                  refine TKC 1 125 rfl ?_
                  try simp only [Act.put, zA, zB, zC]
                  refine TKC 2 126 rfl ?_
                  try simp only [Act.put, zA, zB, zC]
                  refine TKC 3 127 rfl ?_
                  try simp only [Act.put, zA, zB, zC]
                  refine TKC 4 128 rfl ?_ (by (intro w hSw; (try dsimp only at hSw); have q1 := hSw.1; go_simp; try with_reducible rfl))
                  try simp only [Act.put, zA, zB, zC]
                  refine TKC 5 129 rfl ?_
                  try simp only [Act.put, zA, zB, zC]
                  refine TKC 6 130 rfl ?_
                  try simp only [Act.put, zA, zB, zC]
                  refine TKC 7 131 rfl ?_
                  try simp only [Act.put, zA, zB, zC]
                  refine TKC 8 132 rfl ?_ (by (intro w hSw; (try dsimp only at hSw); have q1 := hSw.2.1; go_simp; try with_reducible rfl))
                  try simp only [Act.put, zA, zB, zC]
                  refine TKC 9 133 rfl ?_
                  try simp only [Act.put, zA, zB, zC]
                  refine TKC 10 134 rfl ?_
                  try simp only [Act.put, zA, zB, zC]
                  refine TKC 11 135 rfl ?_
                  try simp only [Act.put, zA, zB, zC]
                  refine TKC 12 136 rfl ?_ (by (intro w hSw; (try dsimp only at hSw); have q1 := hSw.2.2; go_simp; try with_reducible rfl))
                  try simp only [Act.put, zA, zB, zC]
                  refine wpAnyH_ready (rs := [13]) (by kernel_rfl) (by simp) ?_
                  refine AllReadyH.cons (o := ⟨none, _, _, _, _, _⟩) rfl (fun K hK => ?_) AllReadyH.nil
                  simp only [Region.wanted, if_true]
                  refine op_store_at 25 _ _ rfl w.heap.size zeroM rfl rfl _ _ BX info_msg rfl zero_one ?_
                  intro w30 hw
                  have hwb := (Bes.row (X := fun q => q = w.heap.size) hw rfl)
                  replace M := M.besA hwb (fun e => by have h5 := M.gn; have h6 : g = w.heap.size := e; have := HMN.out; omega) (fun q h e => by have h6 : q = w.heap.size := e; have := HMN.out; omega) (fun bb off e x => by have h6 : bb = w.heap.size := x; have := HAB.out bb off e; omega)
                  replace HB := HB.trans (hwb.below (fun q e => by rw [show q = w.heap.size from e]; exact Nat.le_refl _) HB.size)
                  have BX2 := hid_row hw BX
                  clear hw hwb BX
                  replace HS0 : w30.cell? ⟨g, 1, none⟩ = some (.int .i64 (R2.at_ : Int)) ∧ w30.cell? ⟨g, 2, none⟩ = some (.int .i64 R2.bad) ∧ w30.cell? ⟨g, 3, none⟩ = some (.bool R2.more) := ⟨M.box.cell 1, M.box.cell 2, M.box.cell 3⟩
                  refine hK.out _ _ HS0 (fun hS2 => ?_)
                  clear hK K hS2
                  try simp only [Act.put, zA, zB, zC]
                  refine TKC 14 5 rfl ?_
                  try simp only [Act.put, zA, zB, zC]
                  refine TKC 15 6 rfl ?_
                  try simp only [Act.put, zA, zB, zC]
                  refine TKC 16 7 rfl ?_
                  try simp only [Act.put, zA, zB, zC]
                  refine wpAnyH_done (by kernel_rfl) ?_ _
                  clear HS0
                  go_wp2
                  try simp only [Exit.inBlock, Exit.then]
                  refine bodyPost_ret (results_one rfl _ _ w.heap.size _ zeroM _ rfl BX2 Tryz.underlying25 rfl info_msg) rfl ?_
                  exact ⟨HB, zeroM, R2.at_, R2.bad, R2.more, rfl, .inl ⟨rfl, HST.out⟩⟩
            · obtain ⟨N, rfl⟩ : ∃ M : Nat, N = (M : Int) := ⟨N.toNat, by omega⟩
              by_cases hN6 : 65536 < N
              · have b4 : (65536 : Int) < (N : Int) := by omega
                have b5 : ((N : Int) == -2) = false := by rw [beq_eq_false_iff_ne]; omega
                have HST : Hid (Stp b ans a R5.at_ 2 false) := Lib.hid (Stp.bad h rfl rfl p3 (lb_long hk rfl (by omega)) (by omega))
                clear h p3 hk hlt hN hN6 hN0
                go_wp2_with (first
                  | (go_at_call 82; (with_reducible refine (peek_some M HPB.out HLB.out).mono ?_); rintro e w7 ⟨rfl, hm, hb⟩; replace M := hm; replace HB := HB.trans (hb.mono (Nat.le_of_lt HMN.out)); replace BX := IBox.below BX hb HMN.out; clear hm hb; have c9 : w7.cell? ⟨g, 9, none⟩ = some hs1 := M.box.cell 9)
                  | (go_at_call 84; (refine (rstop_no M HQ1.out HQ2.out).mono ?_); rintro e wq ⟨rfl, rfl⟩)
                  | (go_at_call 85; (refine (HLEN.out _ (hd_own M.rh)).mono ?_); rintro e w8 ⟨rfl, hb⟩; replace M := M.below hb; replace BX := zI BX hb; replace HB := zT HB hb; clear hb c9))
                refine wp_region_S (S := fun w' => w'.cell? ⟨g, 1, none⟩ = some (.int .i64 (R5.at_ : Int))) (by kernel_rfl) (fun w29 hh => (box_heap hh M.box).cell 1) (fun w29 hh hbb HS0 => ?_)
                have hb := hbb _ (Nat.le_refl _)
                replace HB := zT HB hb
                replace BX := zI BX hb
                replace M := M.below hb
                clear hh hbb hb
                refine TKY 0 91 rfl (yields_bld (vals := []) (by kernel_rfl) zero_msg _ rfl rfl) ?_
                try simp only [Act.put, zA, zB, zC]
                refine TKC 1 92 rfl ?_
                try simp only [Act.put, zA, zB, zC]
                refine TKC 2 93 rfl ?_
                try simp only [Act.put, zA, zB, zC]
                refine TKC 3 94 rfl ?_
                try simp only [Act.put, zA, zB, zC]
                refine TKC 4 95 rfl ?_ (by (intro w hSw; (try dsimp only at hSw); have q1 := hSw; go_simp; try with_reducible rfl))
                try simp only [Act.put, zA, zB, zC]
                refine wpAnyH_ready (rs := [5]) (by kernel_rfl) (by simp) ?_
                refine AllReadyH.cons (o := ⟨none, _, _, _, _, _⟩) rfl (fun K hK => ?_) AllReadyH.nil
                simp only [Region.wanted, if_true]
                refine op_store_at 25 _ _ rfl w.heap.size zeroM rfl rfl _ _ BX info_msg rfl zero_one ?_
                intro w30 hw
                have hwb := (Bes.row (X := fun q => q = w.heap.size) hw rfl)
                replace M := M.besA hwb (fun e => by have h5 := M.gn; have h6 : g = w.heap.size := e; have := HMN.out; omega) (fun q h e => by have h6 : q = w.heap.size := e; have := HMN.out; omega) (fun bb off e x => by have h6 : bb = w.heap.size := x; have := HAB.out bb off e; omega)
                replace HB := HB.trans (hwb.below (fun q e => by rw [show q = w.heap.size from e]; exact Nat.le_refl _) HB.size)
                have BX2 := hid_row hw BX
                clear hw hwb BX
                replace HS0 : w30.cell? ⟨g, 1, none⟩ = some (.int .i64 (R5.at_ : Int)) := M.box.cell 1
                refine hK.out _ _ HS0 (fun hS2 => ?_)
                clear hK K hS2
                try simp only [Act.put, zA, zB, zC]
                refine TKC 6 5 rfl ?_
                try simp only [Act.put, zA, zB, zC]
                refine TKC 7 6 rfl ?_
                try simp only [Act.put, zA, zB, zC]
                refine TKC 8 7 rfl ?_
                try simp only [Act.put, zA, zB, zC]
                refine wpAnyH_done (by kernel_rfl) ?_ _
                clear HS0
                go_wp2
                try simp only [Exit.inBlock, Exit.then]
                refine bodyPost_ret (results_one rfl _ _ w.heap.size _ zeroM _ rfl BX2 Tryz.underlying25 rfl info_msg) rfl ?_
                exact ⟨HB, zeroM, R5.at_, 2, false, rfl, .inl ⟨rfl, HST.out⟩⟩
              · have b4 : ¬ (65536 : Int) < (N : Int) := by omega
                have b5 : ((N : Int) == -2) = false := by rw [beq_eq_false_iff_ne]; omega
                have b6 : ((N : Int) == -1) = false := by rw [beq_eq_false_iff_ne]; omega
                have HN : Hid (Atk b ans a (R5.at_ + 1) (if N = 0 then eF ans a (R5.at_ + 1) R5.m else bF ans a (R5.at_ + 1) 8 [] R5.m (N : Int) 0 2)) := Lib.hid (h.step p3 (lb_bytes hk rfl hN (by omega)))
                have HN6 : Hid (N ≤ 65536) := Lib.hid (by omega)
                have HL1 := Lib.hid hlt
                clear h p3 hk hlt hN hN6
                go_wp2_with (first
                  | (go_at_call 82; (with_reducible refine (peek_some M HPB.out HLB.out).mono ?_); rintro e w7 ⟨rfl, hm, hb⟩; replace M := hm; replace HB := HB.trans (hb.mono (Nat.le_of_lt HMN.out)); replace BX := IBox.below BX hb HMN.out; clear hm hb; have c9 : w7.cell? ⟨g, 9, none⟩ = some hs1 := M.box.cell 9)
                  | (go_at_call 84; (refine (rstop_no M HQ1.out HQ2.out).mono ?_); rintro e wq ⟨rfl, rfl⟩)
                  | (go_at_call 85; (refine (HLEN.out _ (hd_own M.rh)).mono ?_); rintro e w8 ⟨rfl, hb⟩; replace M := M.below hb; replace BX := zI BX hb; replace HB := zT HB hb; clear hb c9; have c1 : w8.cell? ⟨g, 1, none⟩ = some (.int .i64 (R5.at_ : Int)) := M.box.cell 1)
                  | ((with_reducible refine is_store ?_); refine wpl_store_cell rfl 3 (.tmp 102) _ rfl g 1 rfl (.int .i64 ((R5.at_ : Int) + 1)) rfl _ _ M.box (show 1 < 11 by decide) one_i rfl ?_; intro w9 hw; have hlw := M.low hw; replace HB := HB.trans (hlw.mono (Nat.le_of_lt HMN.out)); replace BX := IBox.below BX hlw HMN.out; replace M := M.s1 (R5.at_ + 1) hw; clear hw hlw c1)
                  | ((with_reducible refine is_store ?_); refine wpl_store_cell rfl 4 (.tmp 105) _ rfl g 4 rfl (.bool false) rfl _ _ M.box (show 4 < 11 by decide) one_b rfl ?_; intro w10 hw; have hlw := M.low hw; replace HB := HB.trans (hlw.mono (Nat.le_of_lt HMN.out)); replace BX := IBox.below BX hlw HMN.out; replace M := M.s4 false hw; clear hw hlw)
                  | (go_at_call 86; (refine (rtake_any M HLB.out (by have := HN6.out; omega) (by have := HK.out; show R5.at_ + 1 ≤ _; omega) (by show R5.m.body.length ≤ _; rw [HBE.out]; exact Nat.zero_le _) HB0.out).mono ?_); rintro e w11 ⟨rfl, hb, bd7, hm⟩; replace M := hm; replace HB := HB.trans (hb.mono (Nat.le_of_lt HMN.out)); replace BX := IBox.below BX hb HMN.out; clear hm hb))
                have HRE := Lib.hid (tk_bytes (R := { R5 with at_ := R5.at_ + 1, head := false }) (N := N) HP.out.1 HP.out.2 HN.out HF64.out HBE.out HN6.out)
                generalize hRZ : tkR b { R5 with at_ := R5.at_ + 1, head := false } N = RZ at *
                clear hRZ
                go_loopw [] (fun wx => wx = w11) (fun _ => 0)
                case atStart => rfl
                case round =>
                  obtain rfl := hrel
                  rcases HRE.out with h | h
                  · have HQ1 := Lib.hid h.1
                    have HQ2 := Lib.hid h.2.1
                    have HE1 := Lib.hid h.2.2.1
                    have HE2 := Lib.hid h.2.2.2.1
                    have HE3 := Lib.hid h.2.2.2.2
                    clear h HRE
                    go_wp2_with (first
                      | (go_at_call 84; (refine (rstop_no M HQ1.out HQ2.out).mono ?_); rintro e wq ⟨rfl, rfl⟩))
                    refine wp_region_S (S := fun w' => w'.rangeAt g 5 (Mm.cells ⟨RZ.m, hs1, bd7⟩).toList ∧ w'.cell? ⟨g, 1, none⟩ = some (.int .i64 (RZ.at_ : Int))) (by kernel_rfl) (fun w29 hh => ⟨fun j v hv => (World.cell?_of_block (by rw [hh])).trans (M.part j v hv), (box_heap hh M.box).cell 1⟩) (fun w29 hh hbb HS0 => ?_)
                    have hb := hbb _ (Nat.le_refl _)
                    replace HB := zT HB hb
                    replace BX := zI BX hb
                    replace M := M.below hb
                    clear hh hbb hb
                    refine TKC 0 137 rfl ?_
                    try simp only [Act.put, zA, zB, zC]
                    refine TKC 1 138 rfl ?_
                    try simp only [Act.put, zA, zB, zC]
                    refine TKC 2 139 rfl ?_
                    try simp only [Act.put, zA, zB, zC]
                    refine TKY 3 140 rfl (yields_rowS (by kernel_rfl) _ _ rfl _ _ rfl _ _ (fun _ h => h.1) Tryz.underlying25 rfl (by show _ = some 6; exact info_msg)) ?_
                    try simp only [Act.put, zA, zB, zC]
                    refine TKC 4 141 rfl ?_
                    try simp only [Act.put, zA, zB, zC]
                    refine TKC 5 142 rfl ?_
                    try simp only [Act.put, zA, zB, zC]
                    refine TKC 6 143 rfl ?_
                    try simp only [Act.put, zA, zB, zC]
                    refine TKC 7 144 rfl ?_ (by (intro w hSw; (try dsimp only at hSw); have q1 := hSw.2; go_simp; try with_reducible rfl))
                    try simp only [Act.put, zA, zB, zC]
                    refine wpAnyH_ready (rs := [8]) (by kernel_rfl) (by simp) ?_
                    refine AllReadyH.cons (o := ⟨none, _, _, _, _, _⟩) rfl (fun K hK => ?_) AllReadyH.nil
                    simp only [Region.wanted, if_true]
                    refine op_store_at 25 _ _ rfl w.heap.size (Mm.cells ⟨RZ.m, hs1, bd7⟩) rfl rfl _ _ BX info_msg rfl (mm_one2 M) ?_
                    intro w30 hw
                    have hwb := (Bes.row (X := fun q => q = w.heap.size) hw rfl)
                    replace M := M.besA hwb (fun e => by have h5 := M.gn; have h6 : g = w.heap.size := e; have := HMN.out; omega) (fun q h e => by have h6 : q = w.heap.size := e; have := HMN.out; omega) (fun bb off e x => by have h6 : bb = w.heap.size := x; have := HAB.out bb off e; omega)
                    replace HB := HB.trans (hwb.below (fun q e => by rw [show q = w.heap.size from e]; exact Nat.le_refl _) HB.size)
                    have BX2 := hid_row hw BX
                    clear hw hwb BX
                    replace HS0 : w30.rangeAt g 5 (Mm.cells ⟨RZ.m, hs1, bd7⟩).toList ∧ w30.cell? ⟨g, 1, none⟩ = some (.int .i64 (RZ.at_ : Int)) := ⟨M.part, M.box.cell 1⟩
                    refine hK.out _ _ HS0 (fun hS2 => ?_)
                    clear hK K hS2
                    try simp only [Act.put, zA, zB, zC]
                    refine TKC 9 5 rfl ?_
                    try simp only [Act.put, zA, zB, zC]
                    refine TKC 10 6 rfl ?_
                    try simp only [Act.put, zA, zB, zC]
                    refine TKC 11 7 rfl ?_
                    try simp only [Act.put, zA, zB, zC]
                    refine wpAnyH_done (by kernel_rfl) ?_ _
                    clear HS0
                    go_wp2
                    try simp only [Exit.inBlock, Exit.then]
                    refine bodyPost_ret (results_one rfl _ _ w.heap.size _ (Mm.cells ⟨RZ.m, hs1, bd7⟩) _ rfl BX2 Tryz.underlying25 rfl info_msg) rfl ?_
                    exact ⟨HB, _, RZ.at_, 0, false, rfl, .inr ⟨rfl, rfl, HE1.out.pos_, ⟨RZ.m, hs1, bd7⟩, HE1.out, rfl, M.mm HE3.out HE2.out, fun q e => e.elim (fun e => Nat.le_trans (Nat.le_of_lt HMN.out) (own_in M.rh e).1) (fun e => Nat.le_trans (Nat.le_of_lt HMN.out) (own_in M.rb e).1)⟩⟩
                  · have HQ : Hid (¬ (RZ.bad = 0 ∧ RZ.more = false)) := Lib.hid (fun x => h.no x.1 x.2)
                    have HST := Lib.hid h
                    clear h HRE
                    go_wp2_with (first
                      | (go_at_call 84; (refine (rstop_yes M HQ.out).mono ?_); rintro e wq ⟨rfl, rfl⟩))
                    refine wp_region_S (S := fun w' => w'.cell? ⟨g, 1, none⟩ = some (.int .i64 (RZ.at_ : Int)) ∧ w'.cell? ⟨g, 2, none⟩ = some (.int .i64 RZ.bad) ∧ w'.cell? ⟨g, 3, none⟩ = some (.bool RZ.more)) (by kernel_rfl) (fun w29 hh => ⟨(box_heap hh M.box).cell 1, (box_heap hh M.box).cell 2, (box_heap hh M.box).cell 3⟩) (fun w29 hh hbb HS0 => ?_)
                    have hb := hbb _ (Nat.le_refl _)
                    replace HB := zT HB hb
                    replace BX := zI BX hb
                    replace M := M.below hb
                    clear hh hbb hb
                    refine TKY 0 124 rfl (yields_bld (vals := []) (by kernel_rfl) zero_msg _ rfl rfl) ?_
                    try simp only [Act.put, zA, zB, zC]
                    refine TKC 1 125 rfl ?_
                    try simp only [Act.put, zA, zB, zC]
                    refine TKC 2 126 rfl ?_
                    try simp only [Act.put, zA, zB, zC]
                    refine TKC 3 127 rfl ?_
                    try simp only [Act.put, zA, zB, zC]
                    refine TKC 4 128 rfl ?_ (by (intro w hSw; (try dsimp only at hSw); have q1 := hSw.1; go_simp; try with_reducible rfl))
                    try simp only [Act.put, zA, zB, zC]
                    refine TKC 5 129 rfl ?_
                    try simp only [Act.put, zA, zB, zC]
                    refine TKC 6 130 rfl ?_
                    try simp only [Act.put, zA, zB, zC]
                    refine TKC 7 131 rfl ?_
                    try simp only [Act.put, zA, zB, zC]
                    refine TKC 8 132 rfl ?_ (by (intro w hSw; (try dsimp only at hSw); have q1 := hSw.2.1; go_simp; try with_reducible rfl))
                    try simp only [Act.put, zA, zB, zC]
                    refine TKC 9 133 rfl ?_
                    try simp only [Act.put, zA, zB, zC]
                    refine TKC 10 134 rfl ?_
                    try simp only [Act.put, zA, zB, zC]
                    refine TKC 11 135 rfl ?_
                    try simp only [Act.put, zA, zB, zC]
                    refine TKC 12 136 rfl ?_ (by (intro w hSw; (try dsimp only at hSw); have q1 := hSw.2.2; go_simp; try with_reducible rfl))
                    try simp only [Act.put, zA, zB, zC]
                    refine wpAnyH_ready (rs := [13]) (by kernel_rfl) (by simp) ?_
                    refine AllReadyH.cons (o := ⟨none, _, _, _, _, _⟩) rfl (fun K hK => ?_) AllReadyH.nil
                    simp only [Region.wanted, if_true]
                    refine op_store_at 25 _ _ rfl w.heap.size zeroM rfl rfl _ _ BX info_msg rfl zero_one ?_
                    intro w30 hw
                    have hwb := (Bes.row (X := fun q => q = w.heap.size) hw rfl)
                    replace M := M.besA hwb (fun e => by have h5 := M.gn; have h6 : g = w.heap.size := e; have := HMN.out; omega) (fun q h e => by have h6 : q = w.heap.size := e; have := HMN.out; omega) (fun bb off e x => by have h6 : bb = w.heap.size := x; have := HAB.out bb off e; omega)
                    replace HB := HB.trans (hwb.below (fun q e => by rw [show q = w.heap.size from e]; exact Nat.le_refl _) HB.size)
                    have BX2 := hid_row hw BX
                    clear hw hwb BX
                    replace HS0 : w30.cell? ⟨g, 1, none⟩ = some (.int .i64 (RZ.at_ : Int)) ∧ w30.cell? ⟨g, 2, none⟩ = some (.int .i64 RZ.bad) ∧ w30.cell? ⟨g, 3, none⟩ = some (.bool RZ.more) := ⟨M.box.cell 1, M.box.cell 2, M.box.cell 3⟩
                    refine hK.out _ _ HS0 (fun hS2 => ?_)
                    clear hK K hS2
                    try simp only [Act.put, zA, zB, zC]
                    refine TKC 14 5 rfl ?_
                    try simp only [Act.put, zA, zB, zC]
                    refine TKC 15 6 rfl ?_
                    try simp only [Act.put, zA, zB, zC]
                    refine TKC 16 7 rfl ?_
                    try simp only [Act.put, zA, zB, zC]
                    refine wpAnyH_done (by kernel_rfl) ?_ _
                    clear HS0
                    go_wp2
                    try simp only [Exit.inBlock, Exit.then]
                    refine bodyPost_ret (results_one rfl _ _ w.heap.size _ zeroM _ rfl BX2 Tryz.underlying25 rfl info_msg) rfl ?_
                    exact ⟨HB, zeroM, RZ.at_, RZ.bad, RZ.more, rfl, .inl ⟨rfl, HST.out⟩⟩
          · have b2 : ((c.toNat : Int) == 10) = false := by rw [beq_eq_false_iff_ne]; omega
            have HST : Hid (Stp b ans a R5.at_ 3 R5.more) := Lib.hid (by rw [HP.out.2]; exact Stp.bad h rfl rfl p3 (line_bad hk a2) (by omega))
            have HQ : Hid (¬ (({ R5 with bad := 3 } : Rd).bad = 0 ∧ ({ R5 with bad := 3 } : Rd).more = false)) := Lib.hid (fun x => by cases x.1)
            clear h p3 hk hlt
            go_wp2_with (first
              | (go_at_call 82; (with_reducible refine (peek_some M HPB.out HLB.out).mono ?_); rintro e w7 ⟨rfl, hm, hb⟩; replace M := hm; replace HB := HB.trans (hb.mono (Nat.le_of_lt HMN.out)); replace BX := IBox.below BX hb HMN.out; clear hm hb)
              | ((with_reducible refine is_store ?_); refine wpl_store_cell rfl 31 (.tmp 60) _ rfl g 2 rfl (.int .i64 3) rfl _ _ M.box (show 2 < 11 by decide) one_c rfl ?_; intro w8 hw; have hlw := M.low hw; replace HB := HB.trans (hlw.mono (Nat.le_of_lt HMN.out)); replace BX := IBox.below BX hlw HMN.out; replace M := M.s2 3 hw; clear hw hlw)
              | (go_at_call 84; (refine (rstop_yes M HQ.out).mono ?_); rintro e wq ⟨rfl, rfl⟩))
            generalize hRZ : ({ R5 with bad := 3 } : Rd) = RZ at M HQ
            replace HST : Hid (Stp b ans a RZ.at_ RZ.bad RZ.more) := Lib.hid (by rw [← hRZ]; exact HST.out)
            clear hRZ
            refine wp_region_S (S := fun w' => w'.cell? ⟨g, 1, none⟩ = some (.int .i64 (RZ.at_ : Int)) ∧ w'.cell? ⟨g, 2, none⟩ = some (.int .i64 RZ.bad) ∧ w'.cell? ⟨g, 3, none⟩ = some (.bool RZ.more)) (by kernel_rfl) (fun w29 hh => ⟨(box_heap hh M.box).cell 1, (box_heap hh M.box).cell 2, (box_heap hh M.box).cell 3⟩) (fun w29 hh hbb HS0 => ?_)
            have hb := hbb _ (Nat.le_refl _)
            replace HB := zT HB hb
            replace BX := zI BX hb
            replace M := M.below hb
            clear hh hbb hb
            refine TKY 0 63 rfl (yields_bld (vals := []) (by kernel_rfl) zero_msg _ rfl rfl) ?_
            try simp only [Act.put, zA, zB, zC]
            refine TKC 1 64 rfl ?_
            try simp only [Act.put, zA, zB, zC]
            refine TKC 2 65 rfl ?_
            try simp only [Act.put, zA, zB, zC]
            refine TKC 3 66 rfl ?_
            try simp only [Act.put, zA, zB, zC]
            refine TKC 4 67 rfl ?_ (by (intro w hSw; (try dsimp only at hSw); have q1 := hSw.1; go_simp; try with_reducible rfl))
            try simp only [Act.put, zA, zB, zC]
            refine TKC 5 68 rfl ?_
            try simp only [Act.put, zA, zB, zC]
            refine TKC 6 69 rfl ?_
            try simp only [Act.put, zA, zB, zC]
            refine TKC 7 70 rfl ?_
            try simp only [Act.put, zA, zB, zC]
            refine TKC 8 71 rfl ?_ (by (intro w hSw; (try dsimp only at hSw); have q1 := hSw.2.1; go_simp; try with_reducible rfl))
            try simp only [Act.put, zA, zB, zC]
            refine TKC 9 72 rfl ?_
            try simp only [Act.put, zA, zB, zC]
            refine TKC 10 73 rfl ?_
            try simp only [Act.put, zA, zB, zC]
            refine TKC 11 74 rfl ?_
            try simp only [Act.put, zA, zB, zC]
            refine TKC 12 75 rfl ?_ (by (intro w hSw; (try dsimp only at hSw); have q1 := hSw.2.2; go_simp; try with_reducible rfl))
            try simp only [Act.put, zA, zB, zC]
            refine wpAnyH_ready (rs := [13]) (by kernel_rfl) (by simp) ?_
            refine AllReadyH.cons (o := ⟨none, _, _, _, _, _⟩) rfl (fun K hK => ?_) AllReadyH.nil
            simp only [Region.wanted, if_true]
            refine op_store_at 25 _ _ rfl w.heap.size zeroM rfl rfl _ _ BX info_msg rfl zero_one ?_
            intro w30 hw
            have hwb := (Bes.row (X := fun q => q = w.heap.size) hw rfl)
            replace M := M.besA hwb (fun e => by have h5 := M.gn; have h6 : g = w.heap.size := e; have := HMN.out; omega) (fun q h e => by have h6 : q = w.heap.size := e; have := HMN.out; omega) (fun bb off e x => by have h6 : bb = w.heap.size := x; have := HAB.out bb off e; omega)
            replace HB := HB.trans (hwb.below (fun q e => by rw [show q = w.heap.size from e]; exact Nat.le_refl _) HB.size)
            have BX2 := hid_row hw BX
            clear hw hwb BX
            replace HS0 : w30.cell? ⟨g, 1, none⟩ = some (.int .i64 (RZ.at_ : Int)) ∧ w30.cell? ⟨g, 2, none⟩ = some (.int .i64 RZ.bad) ∧ w30.cell? ⟨g, 3, none⟩ = some (.bool RZ.more) := ⟨M.box.cell 1, M.box.cell 2, M.box.cell 3⟩
            refine hK.out _ _ HS0 (fun hS2 => ?_)
            clear hK K hS2
            try simp only [Act.put, zA, zB, zC]
            refine TKC 14 5 rfl ?_
            try simp only [Act.put, zA, zB, zC]
            refine TKC 15 6 rfl ?_
            try simp only [Act.put, zA, zB, zC]
            refine TKC 16 7 rfl ?_
            try simp only [Act.put, zA, zB, zC]
            refine wpAnyH_done (by kernel_rfl) ?_ _
            clear HS0
            go_wp2
            try simp only [Exit.inBlock, Exit.then]
            refine bodyPost_ret (results_one rfl _ _ w.heap.size _ zeroM _ rfl BX2 Tryz.underlying25 rfl info_msg) rfl ?_
            exact ⟨HB, zeroM, RZ.at_, RZ.bad, RZ.more, rfl, .inl ⟨rfl, HST.out⟩⟩
      · have b1 : ((c.toNat : Int) == 13) = false := by rw [beq_eq_false_iff_ne]; omega
        have HAT := Lib.hid h
        have HP3 := Lib.hid p3
        have HK := Lib.hid hk
        have HL1 := Lib.hid hlt
        clear h p3 hk hlt
        go_wp2_with (first
          | (go_at_call 82; (with_reducible refine (peek_some M HPB.out HLB.out).mono ?_); rintro e w5 ⟨rfl, hm, hb⟩; replace M := hm; replace HB := HB.trans (hb.mono (Nat.le_of_lt HMN.out)); replace BX := IBox.below BX hb HMN.out; clear hm hb)
          | (go_at_call 83; (refine (rheader_any M HP.out.1 HP.out.2 HAT.out HP3.out (fun e => a1 (by rw [e]; rfl)) HK.out HH64.out HHH.out HLB.out).mono ?_); rintro e w6 ⟨rfl, hb, R5, hs5, bd5, hm, hr, hh⟩; replace M := hm; replace HB := HB.trans (hb.mono (Nat.le_of_lt HMN.out)); replace BX := IBox.below BX hb HMN.out; have HR5 := Lib.hid hr; have HH5 := Lib.hid hh; clear hm hr hh hb))
        go_roundw
        case rel => exact ⟨R5, _, _, M, HB, BX, HH5.out, Lib.hid (HR5.out.mono (fun k m h => h.1))⟩
        case measure =>
          rw [rdMes_of HM0.out, rdMes_of M, if_pos HP.out]
          have := HL1.out
          rcases HR5.out with h | h
          · rw [if_pos ⟨h.1, h.2.1⟩]
            have := h.2.2.2.2
            omega
          · rw [if_neg (fun x => h.no x.1 x.2)]
            omega
end
end Go.Proofs.YtbehakabglegjaaGreatDoor
