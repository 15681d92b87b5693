/- Layer 2: the closure that reads one field of an object. -/
import Derived.Test.YtnjhmnolngdfaaaGreatDoorQ13
import Derived.Test.YtnjhmnolngdfaaaGreatDoorQZip
namespace Go.Proofs.YtnjhmnolngdfaaaGreatDoor
open Go.RowKit Go.PlainAid
set_option linter.unusedVariables false
set_option linter.unusedSimpArgs false

/-- The object's own variables lie apart. -/
def OS (b0 b1 gv gr gd gh mb : Nat) : Prop := b0 ≤ gh ∧ gh < b1 ∧ b0 ≤ mb ∧ mb < b1 ∧ gh ≠ gv ∧ mb ≠ gv ∧ mb ≠ gr ∧ mb ≠ gd ∧ gh ≠ mb
def OSt (r : Nat) (s : ByteArray) (b0 b1 gv gr gd gh mb : Nat) (dep : Int) (i : Nat) (x : List ByteArray × List JT) (w : World) : Prop :=
  ∃ A c acc L, L.length = acc.length ∧ acc = L.map (·.2) ∧ x = (L.map (·.1), L.map fun p => er p.2) ∧ acc.length ≤ i ∧ (∀ p ∈ L, p.1.size ≤ reach) ∧ OS b0 b1 gv gr gd gh mb ∧
    LK r s b0 b1 gv gr gd dep 52 7 i (KC 5 (.slice none 0 0) (.slice A acc.length c)) (.slice A acc.length c) acc.length (fldL L) acc w ∧ IBox w gh 92 #[.map (some mb)] ∧ NSet w mb acc.length (L.map (·.1))
theorem ost_more {r : Nat} {s : ByteArray} {b0 b1 gv gr gd gh mb : Nat} {dep : Int} {L : List (ByteArray × JV)} {acc : List JV} {j : JV} {t : JT} {k ga cap : Nat} {nm : ByteArray} {w : World} (he : er j = t) (hk : acc.length + 1 ≤ k) (hnm : nm.size ≤ reach)
    (hn : (L.length = acc.length ∧ acc = L.map (·.2)) ∧ ∀ p ∈ L, p.1.size ≤ reach)
    (h : LK r s b0 b1 gv gr gd dep 52 7 k (KC 5 (.slice none 0 0) (.slice (some ⟨ga, 0, none⟩) (acc.length + 1) cap)) (.slice (some ⟨ga, 0, none⟩) (acc.length + 1) cap) (acc.length + 1) (fldL L ++ (fldA (nm, j)).toList) (acc ++ [j]) w)
    (hB : IBox w gh 92 #[.map (some mb)]) (hN : NSet w mb (acc.length + 1) (L.map (·.1) ++ [nm])) (hO : OS b0 b1 gv gr gd gh mb) :
    OSt r s b0 b1 gv gr gd gh mb dep k (L.map (·.1) ++ [nm], (L.map fun p => er p.2) ++ [t]) w := by
  refine ⟨some ⟨ga, 0, none⟩, cap, acc ++ [j], L ++ [(nm, j)], by simp [hn.1.1], by simp [hn.1.2], by simp [he], by simpa using hk, fun p hp => ?_, hO, ?_, hB, ?_⟩
  · rcases List.mem_append.1 hp with hp | hp
    · exact hn.2 p hp
    · obtain rfl : p = (nm, j) := by simpa using hp
      exact hnm
  · rw [fldL_app, fldL_one, List.length_append]
    exact h
  · rw [List.length_append, List.map_append]
    exact hN
set_option maxRecDepth 10000 in
set_option maxHeartbeats 8000000 in
theorem one_obj {d : Nat} (hd : d ≤ 31) (hval : ValOK d) {r : Nat} {s : ByteArray} {b0 b1 gv gr gd gh mb : Nat} {i : Nat} {x : List ByteArray × List JT} {w : World} (h : OSt r s b0 b1 gv gr gd gh mb (31 - (d : Int)) i x w) (his : i ≤ s.size) (hs : s.size ≤ 65536) :
    Calls Tryz.prog 61 #[At gr, At gh, At gv, At gd] w (GotS (OSt r s b0 b1 gv gr gd gh mb (31 - (d : Int))) b0 r (objStep s (valueTo s d) i x) w) := by
  obtain ⟨A, c, acc, L, hLl, hLa, rfl, hlen, hLn, HST, HL, HB, HN⟩ := h
  have HLA := Lib.hid (And.intro hLl hLa)
  have HLN := Lib.hid hLn
  clear hLl hLa hLn
  obtain ⟨hgh0, hgh1, hmb0, hmb1, hgv, hmv, hmr, hmd, hgm⟩ := HST
  have HST : OS b0 b1 gv gr gd gh mb := ⟨hgh0, hgh1, hmb0, hmb1, hgv, hmv, hmr, hmd, hgm⟩
  have hr0 := HL.st.1
  obtain ⟨ie, z, hie1, hie2, hie3, hie4, hz⟩ := fld_slice0
  subst hz
  have HF := Fr.refl b0 r w
  have c1 := HL.rd.c1
  have cr := HL.rb.cell 0
  have ch := HB.cell 0
  have hdw : IntKind.i64.wrap (31 - (d : Int) + 1) = 32 - (d : Int) := by rw [IntKind.wrap_i64]; omega
  by_cases h34 : pk s i = 34
  · have hil : i < s.size := pk_lt h34 (by omega)
    cases ht : textTo s i with
    | bad c' p =>
      have HT := Lib.hid ht
      have HK : Hid (objStep s (valueTo s d) i (L.map (·.1), L.map fun p => er p.2) = .bad c' p) := Lib.hid (by unfold objStep; rw [if_pos h34, ht])
      clear ht
      go_enter Tryz.func61, Tryz.ntmps61
      go_wp2_with (first
        | (go_at_call 55; (with_reducible refine (peek_b HL.rd).mono ?_); rintro e w1 ⟨rfl, hb⟩; have hm := Mv.of (r := r) hb; have hr4 := HL.rd.below hb; clear hb; replace HB := Bes.box hm HB (fun e => by have e2 : gh = r := e; omega); replace HN := HN.bes hm (fun e => by have e2 : mb = r := e; omega); replace HL := HL.mv hm hr4; replace HF := HF.trans (Fr.mv hm); replace c1 := HL.rd.c1; replace cr := HL.rb.cell 0; replace ch := HB.cell 0; clear hm hr4)
        | (go_at_call 58; (with_reducible refine (text_any HL.rd HL.gl hil hs).mono ?_); rw [HT.out]; rintro e w4 ⟨hm, ⟨g, rfl, hg⟩⟩; replace HF := HF.trans (Fr.mv hm)))
      exact ⟨rfl, GotS.bad HK.out HF ⟨g, rfl, hg⟩⟩
    | ok nm k2 =>
      have HT := Lib.hid ht
      have hk2 := text_goes hil nm k2 ht
      have hnmr : nm.size ≤ reach := by have := text_size ht hil; unfold reach; omega
      obtain ⟨k3, hk3⟩ : ∃ k3, k3 = skipTo s k2 := ⟨_, rfl⟩
      have HK3 := Lib.hid hk3
      have hk3s : k3 ≤ s.size := by rw [hk3]; exact skip_le hk2.2
      have hk3k : k2 ≤ k3 := by rw [hk3]; exact skip_ge
      have hk2s := hk2.2
      have hk2k := hk2.1
      clear hk2
      cases hh : hasN (L.map (·.1)) nm with
      | true =>
        have HH := Lib.hid hh
        have HK : Hid (objStep s (valueTo s d) i (L.map (·.1), L.map fun p => er p.2) = .bad 6 i) := Lib.hid (by unfold objStep; rw [if_pos h34, ht]; show (if hasN (L.map (·.1)) nm = true then _ else _) = _; rw [if_pos hh])
        clear ht hh hk3
        go_enter Tryz.func61, Tryz.ntmps61
        go_wp2_with (first
          | (go_at_call 55; (with_reducible refine (peek_b HL.rd).mono ?_); rintro e w1 ⟨rfl, hb⟩; have hm := Mv.of (r := r) hb; have hr4 := HL.rd.below hb; clear hb; replace HB := Bes.box hm HB (fun e => by have e2 : gh = r := e; omega); replace HN := HN.bes hm (fun e => by have e2 : mb = r := e; omega); replace HL := HL.mv hm hr4; replace HF := HF.trans (Fr.mv hm); replace c1 := HL.rd.c1; replace cr := HL.rb.cell 0; replace ch := HB.cell 0; clear hm hr4)
          | (go_at_call 58; (with_reducible refine (text_any HL.rd HL.gl hil hs).mono ?_); rw [HT.out]; rintro e w4 ⟨hm, rfl, hr4⟩; replace HB := Bes.box hm HB (fun e => by have e2 : gh = r := e; omega); replace HN := HN.bes hm (fun e => by have e2 : mb = r := e; omega); replace HL := HL.mv hm hr4; replace HF := HF.trans (Fr.mv hm); replace c1 := HL.rd.c1; replace cr := HL.rb.cell 0; replace ch := HB.cell 0; clear hm hr4)
          | (at_lookup; refine wpl_look_n rfl (.tmp 21) (.tmp 22) rfl HN rfl nm rfl hnmr ?_; rw [HH.out])
          | ((with_reducible refine is_alloc ?_); refine wpl_alloc_at rfl 93 rfl _ zeroU ?_; intro w7 hw; have hb := hid_grow hw; have B6 := hid_alloc0 hw; clear hw; have hm := Mv.of (r := r) hb; have hr4 := HL.rd.below hb; clear hb; replace HB := Bes.box hm HB (fun e => by have e2 : gh = r := e; omega); replace HN := HN.bes hm (fun e => by have e2 : mb = r := e; omega); replace HL := HL.mv hm hr4; replace HF := HF.trans (Fr.mv hm); replace c1 := HL.rd.c1; replace cr := HL.rb.cell 0; replace ch := HB.cell 0; clear hm hr4)
          | (go_at_call 39; (with_reducible refine (fail_any _ _ _ _).mono ?_); rintro e w5 ⟨⟨g, rfl, hg⟩, hb⟩; replace HF := HF.trans (Fr.mv (Mv.of hb))))
        exact ⟨rfl, GotS.bad HK.out HF ⟨g, rfl, hg⟩⟩
      | false =>
        have HH := Lib.hid hh
        have hstep : objStep s (valueTo s d) i (L.map (·.1), L.map fun p => er p.2) = (match wordTo s ⟨#[58]⟩ 1 k3 with
            | .bad c p => .bad c p
            | .ok _ k2 => (valueTo s d (skipTo s k2)).map fun t => (L.map (·.1) ++ [nm], (L.map fun p => er p.2) ++ [t])) := by
          unfold objStep
          rw [if_pos h34, ht, hk3]
          show (if hasN (L.map (·.1)) nm = true then _ else _) = _
          rw [if_neg (by rw [hh]; decide)]
          rfl
        cases hw : wordTo s ⟨#[58]⟩ 1 k3 with
        | bad c' p =>
          have HW := Lib.hid hw
          have HK : Hid (objStep s (valueTo s d) i (L.map (·.1), L.map fun p => er p.2) = .bad c' p) := Lib.hid (by rw [hstep, hw])
          clear ht hh hk3 hw hstep
          go_enter Tryz.func61, Tryz.ntmps61
          go_wp2_with (first
            | (go_at_call 55; (with_reducible refine (peek_b HL.rd).mono ?_); rintro e w1 ⟨rfl, hb⟩; have hm := Mv.of (r := r) hb; have hr4 := HL.rd.below hb; clear hb; replace HB := Bes.box hm HB (fun e => by have e2 : gh = r := e; omega); replace HN := HN.bes hm (fun e => by have e2 : mb = r := e; omega); replace HL := HL.mv hm hr4; replace HF := HF.trans (Fr.mv hm); replace c1 := HL.rd.c1; replace cr := HL.rb.cell 0; replace ch := HB.cell 0; clear hm hr4)
            | (go_at_call 58; (with_reducible refine (text_any HL.rd HL.gl hil hs).mono ?_); rw [HT.out]; rintro e w4 ⟨hm, rfl, hr4⟩; replace HB := Bes.box hm HB (fun e => by have e2 : gh = r := e; omega); replace HN := HN.bes hm (fun e => by have e2 : mb = r := e; omega); replace HL := HL.mv hm hr4; replace HF := HF.trans (Fr.mv hm); replace c1 := HL.rd.c1; replace cr := HL.rb.cell 0; replace ch := HB.cell 0; clear hm hr4)
            | (at_lookup; refine wpl_look_n rfl (.tmp 21) (.tmp 22) rfl HN rfl nm rfl hnmr ?_; rw [HH.out])
            | ((with_reducible refine is_alloc ?_); refine wpl_alloc_at rfl 93 rfl _ zeroU ?_; intro w7 hw; have hb := hid_grow hw; have B6 := hid_alloc0 hw; clear hw; have hm := Mv.of (r := r) hb; have hr4 := HL.rd.below hb; clear hb; replace HB := Bes.box hm HB (fun e => by have e2 : gh = r := e; omega); replace HN := HN.bes hm (fun e => by have e2 : mb = r := e; omega); replace HL := HL.mv hm hr4; replace HF := HF.trans (Fr.mv hm); replace c1 := HL.rd.c1; replace cr := HL.rb.cell 0; replace ch := HB.cell 0; clear hm hr4)
            | (at_mapUpdate; refine wpl_put_n rfl (.tmp 30) (.tmp 31) (.tmp 32) rfl HN (by unfold maxLen; omega) rfl nm rfl rfl hnmr ?_; intro w8 hn8 hb8; replace HN := hn8; replace HB := Bes.box hb8 HB (fun e => hgm (by have e2 : gh = mb := e; exact e2)); replace HF := HL.frG HF hmb0 hb8; replace HL := HL.other hb8 hmb0 hmb1 hmv hmr hmd; clear hn8 hb8; replace c1 := HL.rd.c1; replace cr := HL.rb.cell 0; replace ch := HB.cell 0)
            | (go_at_call 37; (with_reducible refine (blanks_any HL.rd hk2s hs).mono ?_); rintro e w1 ⟨rfl, hr4, hm⟩; rw [← HK3.out] at hr4; replace HB := Bes.box hm HB (fun e => by have e2 : gh = r := e; omega); replace HN := HN.bes hm (fun e => by have e2 : mb = r := e; omega); replace HL := HL.mv hm hr4; replace HF := HF.trans (Fr.mv hm); replace c1 := HL.rd.c1; replace cr := HL.rb.cell 0; replace ch := HB.cell 0; clear hm hr4)
            | (go_at_call 56; (with_reducible refine (word_any ⟨#[58]⟩ HL.rd hk3s hs (by decide)).mono ?_); rw [show (⟨#[58]⟩ : ByteArray).size = 1 from rfl, HW.out]; rintro e w4 ⟨hm, ⟨g, rfl, hg⟩⟩; replace HF := HF.trans (Fr.mv hm)))
          exact ⟨rfl, GotS.bad HK.out HF ⟨g, rfl, hg⟩⟩
        | ok u k4 =>
          have HW := Lib.hid hw
          have hk4 := word_goes 1 k3 (by omega) bt_colon u k4 hw
          have hk4s := hk4.2
          have hk4k := hk4.1
          clear hk4
          obtain ⟨k5, hk5⟩ : ∃ k5, k5 = skipTo s k4 := ⟨_, rfl⟩
          have HK5 := Lib.hid hk5
          have hki : k5 ≤ s.size := by rw [hk5]; exact skip_le hk4s
          have hk5k : k4 ≤ k5 := by rw [hk5]; exact skip_ge
          have hnames := And.intro HLA.out HLN.out
          have HNM := Lib.hid hnames
          clear hnames
          cases ho : valueTo s d k5 with
          | bad c' p =>
            have HO := Lib.hid ho
            have HK : Hid (objStep s (valueTo s d) i (L.map (·.1), L.map fun p => er p.2) = .bad c' p) := Lib.hid (by rw [hstep, hw]; show (valueTo s d (skipTo s k4)).map _ = _; rw [← hk5, ho]; rfl)
            clear ht hh hk3 hw hstep hk5 ho
            go_enter Tryz.func61, Tryz.ntmps61
            go_wp2_with (first
              | (go_at_call 55; (with_reducible refine (peek_b HL.rd).mono ?_); rintro e w1 ⟨rfl, hb⟩; have hm := Mv.of (r := r) hb; have hr4 := HL.rd.below hb; clear hb; replace HB := Bes.box hm HB (fun e => by have e2 : gh = r := e; omega); replace HN := HN.bes hm (fun e => by have e2 : mb = r := e; omega); replace HL := HL.mv hm hr4; replace HF := HF.trans (Fr.mv hm); replace c1 := HL.rd.c1; replace cr := HL.rb.cell 0; replace ch := HB.cell 0; clear hm hr4)
              | (go_at_call 58; (with_reducible refine (text_any HL.rd HL.gl hil hs).mono ?_); rw [HT.out]; rintro e w4 ⟨hm, rfl, hr4⟩; replace HB := Bes.box hm HB (fun e => by have e2 : gh = r := e; omega); replace HN := HN.bes hm (fun e => by have e2 : mb = r := e; omega); replace HL := HL.mv hm hr4; replace HF := HF.trans (Fr.mv hm); replace c1 := HL.rd.c1; replace cr := HL.rb.cell 0; replace ch := HB.cell 0; clear hm hr4)
              | (at_lookup; refine wpl_look_n rfl (.tmp 21) (.tmp 22) rfl HN rfl nm rfl hnmr ?_; rw [HH.out])
              | ((with_reducible refine is_alloc ?_); refine wpl_alloc_at rfl 93 rfl _ zeroU ?_; intro w7 hw; have hb := hid_grow hw; have B6 := hid_alloc0 hw; clear hw; have hm := Mv.of (r := r) hb; have hr4 := HL.rd.below hb; clear hb; replace HB := Bes.box hm HB (fun e => by have e2 : gh = r := e; omega); replace HN := HN.bes hm (fun e => by have e2 : mb = r := e; omega); replace HL := HL.mv hm hr4; replace HF := HF.trans (Fr.mv hm); replace c1 := HL.rd.c1; replace cr := HL.rb.cell 0; replace ch := HB.cell 0; clear hm hr4)
              | (at_mapUpdate; refine wpl_put_n rfl (.tmp 30) (.tmp 31) (.tmp 32) rfl HN (by unfold maxLen; omega) rfl nm rfl rfl hnmr ?_; intro w8 hn8 hb8; replace HN := hn8; replace HB := Bes.box hb8 HB (fun e => hgm (by have e2 : gh = mb := e; exact e2)); replace HF := HL.frG HF hmb0 hb8; replace HL := HL.other hb8 hmb0 hmb1 hmv hmr hmd; clear hn8 hb8; replace c1 := HL.rd.c1; replace cr := HL.rb.cell 0; replace ch := HB.cell 0)
              | (go_at_call 37; (with_reducible refine (blanks_any HL.rd hk2s hs).mono ?_); rintro e w1 ⟨rfl, hr4, hm⟩; rw [← HK3.out] at hr4; replace HB := Bes.box hm HB (fun e => by have e2 : gh = r := e; omega); replace HN := HN.bes hm (fun e => by have e2 : mb = r := e; omega); replace HL := HL.mv hm hr4; replace HF := HF.trans (Fr.mv hm); replace c1 := HL.rd.c1; replace cr := HL.rb.cell 0; replace ch := HB.cell 0; clear hm hr4)
              | (go_at_call 56; (with_reducible refine (word_any ⟨#[58]⟩ HL.rd hk3s hs (by decide)).mono ?_); rw [show (⟨#[58]⟩ : ByteArray).size = 1 from rfl, HW.out]; rintro e w4 ⟨hm, rfl, hr4⟩; replace HB := Bes.box hm HB (fun e => by have e2 : gh = r := e; omega); replace HN := HN.bes hm (fun e => by have e2 : mb = r := e; omega); replace HL := HL.mv hm hr4; replace HF := HF.trans (Fr.mv hm); replace c1 := HL.rd.c1; replace cr := HL.rb.cell 0; replace ch := HB.cell 0; clear hm hr4)
              | (go_at_call 37; (with_reducible refine (blanks_any HL.rd hk4s hs).mono ?_); rintro e w1 ⟨rfl, hr4, hm⟩; rw [← HK5.out] at hr4; replace HB := Bes.box hm HB (fun e => by have e2 : gh = r := e; omega); replace HN := HN.bes hm (fun e => by have e2 : mb = r := e; omega); replace HL := HL.mv hm hr4; replace HF := HF.trans (Fr.mv hm); replace c1 := HL.rd.c1; replace cr := HL.rb.cell 0; replace ch := HB.cell 0; clear hm hr4))
            refine wp_region_S (S := fun w' => IBox w' gr 68 #[At r] ∧ IBox w' gd 3 #[.int .i64 (31 - (d : Int))]) (by kernel_rfl) (fun w2 hh => ⟨box_heap hh HL.rb, box_heap hh HL.db⟩) (fun w2 hh hbb hS => ?_)
            have hb2 := hbb _ (Nat.le_refl _)
            replace HL := HL.below hb2
            replace HF := HF.trans (Fr.mv (Mv.of hb2))
            replace HB := Bes.box (Mv.of (r := r) hb2) HB (fun e => by have e2 : gh = r := e; omega)
            replace HN := HN.bes (Mv.of (r := r) hb2) (fun e => by have e2 : mb = r := e; omega)
            clear hbb hh hb2
            refine TKC 0 39 rfl ?_
            try simp only [Act.put, zA, zB, zC]
            refine TKB 3 42 ?_ rfl ?_ ?_
            rotate_left
            · (intro w hSw; (try dsimp only at hSw); have := hSw.1.cell 0; go_simp; try with_reducible rfl)
            try simp only [Act.put, zA, zB, zC]
            refine TKB 4 43 ?_ rfl ?_ ?_
            rotate_left
            · (intro w hSw; (try dsimp only at hSw); have := hSw.2.cell 0; go_simp; try with_reducible rfl)
            try simp only [Act.put, zA, zB, zC]
            refine TKB 5 44 (.int .i64 (32 - (d : Int))) rfl ?_ ?_
            · (intro w hSw; (try dsimp only at hSw); go_simp; try simp only [hdw])
            try simp only [Act.put, zA, zB, zC]
            refine TKC 2 41 rfl ?_
            try simp only [Act.put, zA, zB, zC]
            refine wpAnyH_ready (rs := [1, 6, 9]) (by kernel_rfl) (by simp) ?_
            refine AllReadyH.cons (o := ⟨some 40, _, _, _, _, _⟩) rfl (fun K hK => ?_) ?_
            · have cg : _ = some (Value.slice A acc.length c) := HL.box.cell 5
              go_simp
              refine hK.out _ _ ⟨HL.rb, HL.db⟩ (fun hS2 => ?_)
              clear hK K cg
              try simp only [Act.put, zA, zB, zC]
              refine TKC 8 47 rfl ?_
              try simp only [Act.put, zA, zB, zC]
              refine wpAnyH_ready (rs := [6, 9]) (by kernel_rfl) (by simp) ?_
              refine AllReadyH.cons (o := ⟨some 45, _, _, _, _, _⟩) rfl (fun K hK => ?_) ?_
              · go_simp
                (go_at_call 38; (with_reducible refine (hval.at HL.rd HL.gl hki hs).mono ?_); rw [HO.out]; rintro e w9 ⟨hm, ⟨g, rfl, hg⟩⟩)
                exact ⟨rfl, GotS.bad HK.out (HF.trans (Fr.mv hm)) ⟨g, rfl, hg⟩⟩
              refine AllReadyH.cons (o := ⟨some 48, _, _, _, _, _⟩) rfl (fun K hK => ?_) AllReadyH.nil
              simp only [Region.wanted, if_true]
              refine op_slice_at 1 _ _ ie _ (by rw [hie3]; exact fld_fill (⟨#[]⟩, JV.zero)) 23 52 _ rfl rfl rfl hie1 hie2 (by rw [hie3]; decide) (by rw [hie3]; decide) ?_
              intro w3 hw
              have hb3 := hid_grow hw
              have BN := (hid_alloc hw).1
              have hrn := HL.rd.lt
              replace HL := HL.below hb3
              replace HF := HF.trans (Fr.mv (Mv.of hb3))
              replace HB := Bes.box (Mv.of (r := r) hb3) HB (fun e => by have e2 : gh = r := e; omega)
              replace HN := HN.bes (Mv.of (r := r) hb3) (fun e => by have e2 : mb = r := e; omega)
              clear hw hb3
              refine hK.out _ _ ⟨HL.rb, HL.db⟩ (fun hS2 => ?_)
              clear hK K
              try simp only [Act.put, zA, zB, zC]
              refine wpAnyH_ready (rs := [6]) (by kernel_rfl) (by simp) ?_
              refine AllReadyH.cons (o := ⟨some 45, _, _, _, _, _⟩) rfl (fun K hK => ?_) AllReadyH.nil
              go_simp
              (go_at_call 38; (with_reducible refine (hval.at HL.rd HL.gl hki hs).mono ?_); rw [HO.out]; rintro e w9 ⟨hm, ⟨g, rfl, hg⟩⟩)
              exact ⟨rfl, GotS.bad HK.out (HF.trans (Fr.mv hm)) ⟨g, rfl, hg⟩⟩
            refine AllReadyH.cons (o := ⟨some 45, _, _, _, _, _⟩) rfl (fun K hK => ?_) ?_
            · go_simp
              (go_at_call 38; (with_reducible refine (hval.at HL.rd HL.gl hki hs).mono ?_); rw [HO.out]; rintro e w9 ⟨hm, ⟨g, rfl, hg⟩⟩)
              exact ⟨rfl, GotS.bad HK.out (HF.trans (Fr.mv hm)) ⟨g, rfl, hg⟩⟩
            refine AllReadyH.cons (o := ⟨some 48, _, _, _, _, _⟩) rfl (fun K hK => ?_) AllReadyH.nil
            simp only [Region.wanted, if_true]
            refine op_slice_at 1 _ _ ie _ (by rw [hie3]; exact fld_fill (⟨#[]⟩, JV.zero)) 23 52 _ rfl rfl rfl hie1 hie2 (by rw [hie3]; decide) (by rw [hie3]; decide) ?_
            intro w3 hw
            have hb3 := hid_grow hw
            have BN := (hid_alloc hw).1
            have hrn := HL.rd.lt
            replace HL := HL.below hb3
            replace HF := HF.trans (Fr.mv (Mv.of hb3))
            replace HB := Bes.box (Mv.of (r := r) hb3) HB (fun e => by have e2 : gh = r := e; omega)
            replace HN := HN.bes (Mv.of (r := r) hb3) (fun e => by have e2 : mb = r := e; omega)
            clear hw hb3
            refine hK.out _ _ ⟨HL.rb, HL.db⟩ (fun hS2 => ?_)
            clear hK K
            try simp only [Act.put, zA, zB, zC]
            refine wpAnyH_ready (rs := [1, 6]) (by kernel_rfl) (by simp) ?_
            refine AllReadyH.cons (o := ⟨some 40, _, _, _, _, _⟩) rfl (fun K hK => ?_) ?_
            · have cg : _ = some (Value.slice A acc.length c) := HL.box.cell 5
              go_simp
              refine hK.out _ _ ⟨HL.rb, HL.db⟩ (fun hS2 => ?_)
              clear hK K cg
              try simp only [Act.put, zA, zB, zC]
              refine TKC 8 47 rfl ?_
              try simp only [Act.put, zA, zB, zC]
              refine wpAnyH_ready (rs := [6]) (by kernel_rfl) (by simp) ?_
              refine AllReadyH.cons (o := ⟨some 45, _, _, _, _, _⟩) rfl (fun K hK => ?_) AllReadyH.nil
              go_simp
              (go_at_call 38; (with_reducible refine (hval.at HL.rd HL.gl hki hs).mono ?_); rw [HO.out]; rintro e w9 ⟨hm, ⟨g, rfl, hg⟩⟩)
              exact ⟨rfl, GotS.bad HK.out (HF.trans (Fr.mv hm)) ⟨g, rfl, hg⟩⟩
            refine AllReadyH.cons (o := ⟨some 45, _, _, _, _, _⟩) rfl (fun K hK => ?_) AllReadyH.nil
            go_simp
            (go_at_call 38; (with_reducible refine (hval.at HL.rd HL.gl hki hs).mono ?_); rw [HO.out]; rintro e w9 ⟨hm, ⟨g, rfl, hg⟩⟩)
            exact ⟨rfl, GotS.bad HK.out (HF.trans (Fr.mv hm)) ⟨g, rfl, hg⟩⟩
          | ok t k =>
            have HO := Lib.hid ho
            have hki2 : acc.length + 1 ≤ k := by have := (value_goes d k5 t k ho).1; omega
            have HK : Hid (objStep s (valueTo s d) i (L.map (·.1), L.map fun p => er p.2) = .ok (L.map (·.1) ++ [nm], (L.map fun p => er p.2) ++ [t]) k) := Lib.hid (by rw [hstep, hw]; show (valueTo s d (skipTo s k4)).map _ = _; rw [← hk5, ho]; rfl)
            clear ht hh hk3 hw hstep hk5 ho
            go_enter Tryz.func61, Tryz.ntmps61
            go_wp2_with (first
              | (go_at_call 55; (with_reducible refine (peek_b HL.rd).mono ?_); rintro e w1 ⟨rfl, hb⟩; have hm := Mv.of (r := r) hb; have hr4 := HL.rd.below hb; clear hb; replace HB := Bes.box hm HB (fun e => by have e2 : gh = r := e; omega); replace HN := HN.bes hm (fun e => by have e2 : mb = r := e; omega); replace HL := HL.mv hm hr4; replace HF := HF.trans (Fr.mv hm); replace c1 := HL.rd.c1; replace cr := HL.rb.cell 0; replace ch := HB.cell 0; clear hm hr4)
              | (go_at_call 58; (with_reducible refine (text_any HL.rd HL.gl hil hs).mono ?_); rw [HT.out]; rintro e w4 ⟨hm, rfl, hr4⟩; replace HB := Bes.box hm HB (fun e => by have e2 : gh = r := e; omega); replace HN := HN.bes hm (fun e => by have e2 : mb = r := e; omega); replace HL := HL.mv hm hr4; replace HF := HF.trans (Fr.mv hm); replace c1 := HL.rd.c1; replace cr := HL.rb.cell 0; replace ch := HB.cell 0; clear hm hr4)
              | (at_lookup; refine wpl_look_n rfl (.tmp 21) (.tmp 22) rfl HN rfl nm rfl hnmr ?_; rw [HH.out])
              | ((with_reducible refine is_alloc ?_); refine wpl_alloc_at rfl 93 rfl _ zeroU ?_; intro w7 hw; have hb := hid_grow hw; have B6 := hid_alloc0 hw; clear hw; have hm := Mv.of (r := r) hb; have hr4 := HL.rd.below hb; clear hb; replace HB := Bes.box hm HB (fun e => by have e2 : gh = r := e; omega); replace HN := HN.bes hm (fun e => by have e2 : mb = r := e; omega); replace HL := HL.mv hm hr4; replace HF := HF.trans (Fr.mv hm); replace c1 := HL.rd.c1; replace cr := HL.rb.cell 0; replace ch := HB.cell 0; clear hm hr4)
              | (at_mapUpdate; refine wpl_put_n rfl (.tmp 30) (.tmp 31) (.tmp 32) rfl HN (by unfold maxLen; omega) rfl nm rfl rfl hnmr ?_; intro w8 hn8 hb8; replace HN := hn8; replace HB := Bes.box hb8 HB (fun e => hgm (by have e2 : gh = mb := e; exact e2)); replace HF := HL.frG HF hmb0 hb8; replace HL := HL.other hb8 hmb0 hmb1 hmv hmr hmd; clear hn8 hb8; replace c1 := HL.rd.c1; replace cr := HL.rb.cell 0; replace ch := HB.cell 0)
              | (go_at_call 37; (with_reducible refine (blanks_any HL.rd hk2s hs).mono ?_); rintro e w1 ⟨rfl, hr4, hm⟩; rw [← HK3.out] at hr4; replace HB := Bes.box hm HB (fun e => by have e2 : gh = r := e; omega); replace HN := HN.bes hm (fun e => by have e2 : mb = r := e; omega); replace HL := HL.mv hm hr4; replace HF := HF.trans (Fr.mv hm); replace c1 := HL.rd.c1; replace cr := HL.rb.cell 0; replace ch := HB.cell 0; clear hm hr4)
              | (go_at_call 56; (with_reducible refine (word_any ⟨#[58]⟩ HL.rd hk3s hs (by decide)).mono ?_); rw [show (⟨#[58]⟩ : ByteArray).size = 1 from rfl, HW.out]; rintro e w4 ⟨hm, rfl, hr4⟩; replace HB := Bes.box hm HB (fun e => by have e2 : gh = r := e; omega); replace HN := HN.bes hm (fun e => by have e2 : mb = r := e; omega); replace HL := HL.mv hm hr4; replace HF := HF.trans (Fr.mv hm); replace c1 := HL.rd.c1; replace cr := HL.rb.cell 0; replace ch := HB.cell 0; clear hm hr4)
              | (go_at_call 37; (with_reducible refine (blanks_any HL.rd hk4s hs).mono ?_); rintro e w1 ⟨rfl, hr4, hm⟩; rw [← HK5.out] at hr4; replace HB := Bes.box hm HB (fun e => by have e2 : gh = r := e; omega); replace HN := HN.bes hm (fun e => by have e2 : mb = r := e; omega); replace HL := HL.mv hm hr4; replace HF := HF.trans (Fr.mv hm); replace c1 := HL.rd.c1; replace cr := HL.rb.cell 0; replace ch := HB.cell 0; clear hm hr4))
            refine wp_region_S (S := fun w' => IBox w' gr 68 #[At r] ∧ IBox w' gd 3 #[.int .i64 (31 - (d : Int))]) (by kernel_rfl) (fun w2 hh => ⟨box_heap hh HL.rb, box_heap hh HL.db⟩) (fun w2 hh hbb hS => ?_)
            have hb2 := hbb _ (Nat.le_refl _)
            replace HL := HL.below hb2
            replace HF := HF.trans (Fr.mv (Mv.of hb2))
            replace HB := Bes.box (Mv.of (r := r) hb2) HB (fun e => by have e2 : gh = r := e; omega)
            replace HN := HN.bes (Mv.of (r := r) hb2) (fun e => by have e2 : mb = r := e; omega)
            clear hbb hh hb2
            refine TKC 0 39 rfl ?_
            try simp only [Act.put, zA, zB, zC]
            refine TKB 3 42 ?_ rfl ?_ ?_
            rotate_left
            · (intro w hSw; (try dsimp only at hSw); have := hSw.1.cell 0; go_simp; try with_reducible rfl)
            try simp only [Act.put, zA, zB, zC]
            refine TKB 4 43 ?_ rfl ?_ ?_
            rotate_left
            · (intro w hSw; (try dsimp only at hSw); have := hSw.2.cell 0; go_simp; try with_reducible rfl)
            try simp only [Act.put, zA, zB, zC]
            refine TKB 5 44 (.int .i64 (32 - (d : Int))) rfl ?_ ?_
            · (intro w hSw; (try dsimp only at hSw); go_simp; try simp only [hdw])
            try simp only [Act.put, zA, zB, zC]
            refine TKC 2 41 rfl ?_
            try simp only [Act.put, zA, zB, zC]
            refine wpAnyH_ready (rs := [1, 6, 9]) (by kernel_rfl) (by simp) ?_
            refine AllReadyH.cons (o := ⟨some 40, _, _, _, _, _⟩) rfl (fun K hK => ?_) ?_
            · have cg : _ = some (Value.slice A acc.length c) := HL.box.cell 5
              go_simp
              refine hK.out _ _ ⟨HL.rb, HL.db⟩ (fun hS2 => ?_)
              clear hK K cg
              try simp only [Act.put, zA, zB, zC]
              refine TKC 8 47 rfl ?_
              try simp only [Act.put, zA, zB, zC]
              refine wpAnyH_ready (rs := [6, 9]) (by kernel_rfl) (by simp) ?_
              refine AllReadyH.cons (o := ⟨some 45, _, _, _, _, _⟩) rfl (fun K hK => ?_) ?_
              · go_simp
                (go_at_call 38; (with_reducible refine (hval.at HL.rd HL.gl hki hs).mono ?_); rw [HO.out]; rintro e w9 ⟨hm, ⟨j, rfl, hj, hej, hoff⟩, hr4⟩)
                have hlo := fun q (e : (Value.slice A acc.length c).ownBlock = some q) => (own_in HL.own e).2
                have hb1s := HL.st.2.2.2.2.2.2.2.2.2
                replace HL := (HL.mv hm hr4).add hj hb1s hlo hoff
                replace HF := HF.trans (Fr.mv hm)
                replace HB := Bes.box hm HB (fun e => by have e2 : gh = r := e; omega)
                replace HN := HN.bes hm (fun e => by have e2 : mb = r := e; omega)
                clear hm hr4 hj hoff hlo hb1s
                refine hK.out _ _ ⟨HL.rb, HL.db⟩ (fun hS2 => ?_)
                clear hK K
                try simp only [Act.put, zA, zB, zC]
                refine wpAnyH_take (i := 7) (oi := ⟨some 46, _, _, _, _, _⟩) (v := _) rfl (by kernel_rfl) (by kernel_rfl) (by kernel_rfl) (fun _ _ _ h => h) (yields_build (by kernel_rfl) (fld_build nm j) _ rfl rfl) (by assumption) ?_
                try simp only [Act.put, zA, zB, zC]
                refine wpAnyH_ready (rs := [9]) (by kernel_rfl) (by simp) ?_
                refine AllReadyH.cons (o := ⟨some 48, _, _, _, _, _⟩) rfl (fun K hK => ?_) AllReadyH.nil
                simp only [Region.wanted, if_true]
                refine op_slice_at 1 _ _ ie _ (by rw [hie3]; exact fld_fill (⟨#[]⟩, JV.zero)) 23 52 _ rfl rfl rfl hie1 hie2 (by rw [hie3]; decide) (by rw [hie3]; decide) ?_
                intro w3 hw
                have hb3 := hid_grow hw
                have BN := (hid_alloc hw).1
                have hrn := HL.rd.lt
                replace HL := HL.below hb3
                replace HF := HF.trans (Fr.mv (Mv.of hb3))
                replace HB := Bes.box (Mv.of (r := r) hb3) HB (fun e => by have e2 : gh = r := e; omega)
                replace HN := HN.bes (Mv.of (r := r) hb3) (fun e => by have e2 : mb = r := e; omega)
                clear hw hb3
                refine hK.out _ _ ⟨HL.rb, HL.db⟩ (fun hS2 => ?_)
                clear hK K
                try simp only [Act.put, zA, zB, zC]
                refine wpAnyH_ready (rs := [10]) (by kernel_rfl) (by simp) ?_
                refine AllReadyH.cons (o := ⟨some 49, _, _, _, _, _⟩) rfl (fun K hK => ?_) AllReadyH.nil
                simp only [Region.wanted, if_true]
                refine op_append_at _ _ 23 rfl b1 52 ie _ 7 104 rfl hie1 hie2 hie3 hie4 rfl (by decide) (.slice A acc.length c) acc.length _ rfl HL.own _ _ _ _ BN rfl rfl (fld_one _) (by unfold maxLen; omega) (by omega) HL.st.2.2.2.2.2.2.2.2.2 ?_
                intro ga cap w4 HO2 hgrow hat hlt
                have hxl := HL.own.1
                have hba := HL.append HO2 hgrow hat
                replace HF := HL.frOwn HF hba.2
                replace HB := Bes.box hba.2 HB (fun e => by have := (own_in HL.own e).1; omega)
                replace HN := HN.bes hba.2 (fun e => by have := (own_in HL.own e).1; omega)
                replace HL := hba.1
                have hbg : b1 ≤ ga := (own_in HL.own rfl).1
                have hb0 := HL.st
                clear hgrow hba BN HO2 hat
                refine hK.out _ _ ⟨HL.rb, HL.db⟩ (fun hS2 => ?_)
                clear hK K
                try simp only [Act.put, zA, zB, zC]
                refine TKB 11 50 ?_ rfl ?_ ?_
                rotate_left
                · (intro w hSw; go_simp; rw [if_pos (by omega)])
                try simp only [Act.put, zA, zB, zC]
                refine TKC 13 51 rfl ?_
                try simp only [Act.put, zA, zB, zC]
                refine wpAnyH_ready (rs := [12, 14]) (by kernel_rfl) (by simp) ?_
                refine AllReadyH.cons (o := ⟨none, _, _, _, _, _⟩) rfl (fun K hK => ?_) ?_
                · simp only [Region.wanted, if_true]
                  refine op_store_own 52 _ _ rfl (fldA (nm, j)) HL.own hxl rfl rfl rfl info_field7 (fld_one _) ?_
                  intro w5 HO3 hbe
                  replace HF := HL.frG HF (by omega) hbe
                  replace HB := Bes.box hbe HB (fun e => by have e2 : gh = ga := e; omega)
                  replace HN := HN.bes hbe (fun e => by have e2 : mb = ga := e; omega)
                  replace HL := HL.stored rfl HO3 hbe
                  clear hbe HO3
                  refine hK.out _ _ ⟨HL.rb, HL.db⟩ (fun hS2 => ?_)
                  clear hK K
                  try simp only [Act.put, zA, zB, zC]
                  refine wpAnyH_ready (rs := [14]) (by kernel_rfl) (by simp) ?_
                  refine AllReadyH.cons (o := ⟨none, _, _, _, _, _⟩) rfl (fun K hK => ?_) AllReadyH.nil
                  simp only [Region.wanted, if_true]
                  refine op_store_cell 23 _ _ rfl gv 5 rfl (.slice (some ⟨ga, 0, none⟩) (acc.length + 1) cap) rfl _ _ HL.box (by show 5 < 6; omega) info_sl2 rfl ?_
                  intro w6 hw
                  rw [KC_set5] at hw
                  have hpt := HL.put hw
                  replace HF := HL.frG HF hb0.2.1 hpt.2
                  replace HB := Bes.box hpt.2 HB (fun e => hgv (by have e2 : gh = gv := e; exact e2))
                  replace HN := HN.bes hpt.2 (fun e => hmv (by have e2 : mb = gv := e; exact e2))
                  replace HL := hpt.1
                  clear hpt hw
                  refine hK.out _ _ ⟨HL.rb, HL.db⟩ (fun hS2 => ?_)
                  clear hK K
                  try simp only [Act.put, zA, zB, zC]
                  refine wpAnyH_done (by kernel_rfl) ?_ _
                  go_end0
                  exact GotS.ok HK.out HF rfl (ost_more hej hki2 hnmr HNM.out HL HB HN HST)
                refine AllReadyH.cons (o := ⟨none, _, _, _, _, _⟩) rfl (fun K hK => ?_) AllReadyH.nil
                simp only [Region.wanted, if_true]
                refine op_store_cell 23 _ _ rfl gv 5 rfl (.slice (some ⟨ga, 0, none⟩) (acc.length + 1) cap) rfl _ _ HL.box (by show 5 < 6; omega) info_sl2 rfl ?_
                intro w6 hw
                rw [KC_set5] at hw
                have hpt := HL.put hw
                replace HF := HL.frG HF hb0.2.1 hpt.2
                replace HB := Bes.box hpt.2 HB (fun e => hgv (by have e2 : gh = gv := e; exact e2))
                replace HN := HN.bes hpt.2 (fun e => hmv (by have e2 : mb = gv := e; exact e2))
                replace HL := hpt.1
                clear hpt hw
                refine hK.out _ _ ⟨HL.rb, HL.db⟩ (fun hS2 => ?_)
                clear hK K
                try simp only [Act.put, zA, zB, zC]
                refine wpAnyH_ready (rs := [12]) (by kernel_rfl) (by simp) ?_
                refine AllReadyH.cons (o := ⟨none, _, _, _, _, _⟩) rfl (fun K hK => ?_) AllReadyH.nil
                simp only [Region.wanted, if_true]
                refine op_store_own 52 _ _ rfl (fldA (nm, j)) HL.own hxl rfl rfl rfl info_field7 (fld_one _) ?_
                intro w5 HO3 hbe
                replace HF := HL.frG HF (by omega) hbe
                replace HB := Bes.box hbe HB (fun e => by have e2 : gh = ga := e; omega)
                replace HN := HN.bes hbe (fun e => by have e2 : mb = ga := e; omega)
                replace HL := HL.stored rfl HO3 hbe
                clear hbe HO3
                refine hK.out _ _ ⟨HL.rb, HL.db⟩ (fun hS2 => ?_)
                clear hK K
                try simp only [Act.put, zA, zB, zC]
                refine wpAnyH_done (by kernel_rfl) ?_ _
                go_end0
                exact GotS.ok HK.out HF rfl (ost_more hej hki2 hnmr HNM.out HL HB HN HST)
              refine AllReadyH.cons (o := ⟨some 48, _, _, _, _, _⟩) rfl (fun K hK => ?_) AllReadyH.nil
              simp only [Region.wanted, if_true]
              refine op_slice_at 1 _ _ ie _ (by rw [hie3]; exact fld_fill (⟨#[]⟩, JV.zero)) 23 52 _ rfl rfl rfl hie1 hie2 (by rw [hie3]; decide) (by rw [hie3]; decide) ?_
              intro w3 hw
              have hb3 := hid_grow hw
              have BN := (hid_alloc hw).1
              have hrn := HL.rd.lt
              replace HL := HL.below hb3
              replace HF := HF.trans (Fr.mv (Mv.of hb3))
              replace HB := Bes.box (Mv.of (r := r) hb3) HB (fun e => by have e2 : gh = r := e; omega)
              replace HN := HN.bes (Mv.of (r := r) hb3) (fun e => by have e2 : mb = r := e; omega)
              clear hw hb3
              refine hK.out _ _ ⟨HL.rb, HL.db⟩ (fun hS2 => ?_)
              clear hK K
              try simp only [Act.put, zA, zB, zC]
              refine wpAnyH_ready (rs := [6]) (by kernel_rfl) (by simp) ?_
              refine AllReadyH.cons (o := ⟨some 45, _, _, _, _, _⟩) rfl (fun K hK => ?_) AllReadyH.nil
              go_simp
              (go_at_call 38; (with_reducible refine (hval.at HL.rd HL.gl hki hs).mono ?_); rw [HO.out]; rintro e w9 ⟨hm, ⟨j, rfl, hj, hej, hoff⟩, hr4⟩)
              have hlo := fun q (e : (Value.slice A acc.length c).ownBlock = some q) => (own_in HL.own e).2
              have hb1s := HL.st.2.2.2.2.2.2.2.2.2
              replace BN := BN.mv hm (Nat.ne_of_gt hrn)
              replace HL := (HL.mv hm hr4).add hj hb1s hlo hoff
              replace HF := HF.trans (Fr.mv hm)
              replace HB := Bes.box hm HB (fun e => by have e2 : gh = r := e; omega)
              replace HN := HN.bes hm (fun e => by have e2 : mb = r := e; omega)
              clear hm hr4 hj hoff hlo hb1s
              refine hK.out _ _ ⟨HL.rb, HL.db⟩ (fun hS2 => ?_)
              clear hK K
              try simp only [Act.put, zA, zB, zC]
              refine wpAnyH_take (i := 7) (oi := ⟨some 46, _, _, _, _, _⟩) (v := _) rfl (by kernel_rfl) (by kernel_rfl) (by kernel_rfl) (fun _ _ _ h => h) (yields_build (by kernel_rfl) (fld_build nm j) _ rfl rfl) (by assumption) ?_
              try simp only [Act.put, zA, zB, zC]
              refine wpAnyH_ready (rs := [10]) (by kernel_rfl) (by simp) ?_
              refine AllReadyH.cons (o := ⟨some 49, _, _, _, _, _⟩) rfl (fun K hK => ?_) AllReadyH.nil
              simp only [Region.wanted, if_true]
              refine op_append_at _ _ 23 rfl b1 52 ie _ 7 104 rfl hie1 hie2 hie3 hie4 rfl (by decide) (.slice A acc.length c) acc.length _ rfl HL.own _ _ _ _ BN rfl rfl (fld_one _) (by unfold maxLen; omega) (by omega) HL.st.2.2.2.2.2.2.2.2.2 ?_
              intro ga cap w4 HO2 hgrow hat hlt
              have hxl := HL.own.1
              have hba := HL.append HO2 hgrow hat
              replace HF := HL.frOwn HF hba.2
              replace HB := Bes.box hba.2 HB (fun e => by have := (own_in HL.own e).1; omega)
              replace HN := HN.bes hba.2 (fun e => by have := (own_in HL.own e).1; omega)
              replace HL := hba.1
              have hbg : b1 ≤ ga := (own_in HL.own rfl).1
              have hb0 := HL.st
              clear hgrow hba BN HO2 hat
              refine hK.out _ _ ⟨HL.rb, HL.db⟩ (fun hS2 => ?_)
              clear hK K
              try simp only [Act.put, zA, zB, zC]
              refine TKB 11 50 ?_ rfl ?_ ?_
              rotate_left
              · (intro w hSw; go_simp; rw [if_pos (by omega)])
              try simp only [Act.put, zA, zB, zC]
              refine TKC 13 51 rfl ?_
              try simp only [Act.put, zA, zB, zC]
              refine wpAnyH_ready (rs := [12, 14]) (by kernel_rfl) (by simp) ?_
              refine AllReadyH.cons (o := ⟨none, _, _, _, _, _⟩) rfl (fun K hK => ?_) ?_
              · simp only [Region.wanted, if_true]
                refine op_store_own 52 _ _ rfl (fldA (nm, j)) HL.own hxl rfl rfl rfl info_field7 (fld_one _) ?_
                intro w5 HO3 hbe
                replace HF := HL.frG HF (by omega) hbe
                replace HB := Bes.box hbe HB (fun e => by have e2 : gh = ga := e; omega)
                replace HN := HN.bes hbe (fun e => by have e2 : mb = ga := e; omega)
                replace HL := HL.stored rfl HO3 hbe
                clear hbe HO3
                refine hK.out _ _ ⟨HL.rb, HL.db⟩ (fun hS2 => ?_)
                clear hK K
                try simp only [Act.put, zA, zB, zC]
                refine wpAnyH_ready (rs := [14]) (by kernel_rfl) (by simp) ?_
                refine AllReadyH.cons (o := ⟨none, _, _, _, _, _⟩) rfl (fun K hK => ?_) AllReadyH.nil
                simp only [Region.wanted, if_true]
                refine op_store_cell 23 _ _ rfl gv 5 rfl (.slice (some ⟨ga, 0, none⟩) (acc.length + 1) cap) rfl _ _ HL.box (by show 5 < 6; omega) info_sl2 rfl ?_
                intro w6 hw
                rw [KC_set5] at hw
                have hpt := HL.put hw
                replace HF := HL.frG HF hb0.2.1 hpt.2
                replace HB := Bes.box hpt.2 HB (fun e => hgv (by have e2 : gh = gv := e; exact e2))
                replace HN := HN.bes hpt.2 (fun e => hmv (by have e2 : mb = gv := e; exact e2))
                replace HL := hpt.1
                clear hpt hw
                refine hK.out _ _ ⟨HL.rb, HL.db⟩ (fun hS2 => ?_)
                clear hK K
                try simp only [Act.put, zA, zB, zC]
                refine wpAnyH_done (by kernel_rfl) ?_ _
                go_end0
                exact GotS.ok HK.out HF rfl (ost_more hej hki2 hnmr HNM.out HL HB HN HST)
              refine AllReadyH.cons (o := ⟨none, _, _, _, _, _⟩) rfl (fun K hK => ?_) AllReadyH.nil
              simp only [Region.wanted, if_true]
              refine op_store_cell 23 _ _ rfl gv 5 rfl (.slice (some ⟨ga, 0, none⟩) (acc.length + 1) cap) rfl _ _ HL.box (by show 5 < 6; omega) info_sl2 rfl ?_
              intro w6 hw
              rw [KC_set5] at hw
              have hpt := HL.put hw
              replace HF := HL.frG HF hb0.2.1 hpt.2
              replace HB := Bes.box hpt.2 HB (fun e => hgv (by have e2 : gh = gv := e; exact e2))
              replace HN := HN.bes hpt.2 (fun e => hmv (by have e2 : mb = gv := e; exact e2))
              replace HL := hpt.1
              clear hpt hw
              refine hK.out _ _ ⟨HL.rb, HL.db⟩ (fun hS2 => ?_)
              clear hK K
              try simp only [Act.put, zA, zB, zC]
              refine wpAnyH_ready (rs := [12]) (by kernel_rfl) (by simp) ?_
              refine AllReadyH.cons (o := ⟨none, _, _, _, _, _⟩) rfl (fun K hK => ?_) AllReadyH.nil
              simp only [Region.wanted, if_true]
              refine op_store_own 52 _ _ rfl (fldA (nm, j)) HL.own hxl rfl rfl rfl info_field7 (fld_one _) ?_
              intro w5 HO3 hbe
              replace HF := HL.frG HF (by omega) hbe
              replace HB := Bes.box hbe HB (fun e => by have e2 : gh = ga := e; omega)
              replace HN := HN.bes hbe (fun e => by have e2 : mb = ga := e; omega)
              replace HL := HL.stored rfl HO3 hbe
              clear hbe HO3
              refine hK.out _ _ ⟨HL.rb, HL.db⟩ (fun hS2 => ?_)
              clear hK K
              try simp only [Act.put, zA, zB, zC]
              refine wpAnyH_done (by kernel_rfl) ?_ _
              go_end0
              exact GotS.ok HK.out HF rfl (ost_more hej hki2 hnmr HNM.out HL HB HN HST)
            refine AllReadyH.cons (o := ⟨some 45, _, _, _, _, _⟩) rfl (fun K hK => ?_) ?_
            · go_simp
              (go_at_call 38; (with_reducible refine (hval.at HL.rd HL.gl hki hs).mono ?_); rw [HO.out]; rintro e w9 ⟨hm, ⟨j, rfl, hj, hej, hoff⟩, hr4⟩)
              have hlo := fun q (e : (Value.slice A acc.length c).ownBlock = some q) => (own_in HL.own e).2
              have hb1s := HL.st.2.2.2.2.2.2.2.2.2
              replace HL := (HL.mv hm hr4).add hj hb1s hlo hoff
              replace HF := HF.trans (Fr.mv hm)
              replace HB := Bes.box hm HB (fun e => by have e2 : gh = r := e; omega)
              replace HN := HN.bes hm (fun e => by have e2 : mb = r := e; omega)
              clear hm hr4 hj hoff hlo hb1s
              refine hK.out _ _ ⟨HL.rb, HL.db⟩ (fun hS2 => ?_)
              clear hK K
              try simp only [Act.put, zA, zB, zC]
              refine wpAnyH_take (i := 7) (oi := ⟨some 46, _, _, _, _, _⟩) (v := _) rfl (by kernel_rfl) (by kernel_rfl) (by kernel_rfl) (fun _ _ _ h => h) (yields_build (by kernel_rfl) (fld_build nm j) _ rfl rfl) (by assumption) ?_
              try simp only [Act.put, zA, zB, zC]
              refine wpAnyH_ready (rs := [1, 9]) (by kernel_rfl) (by simp) ?_
              refine AllReadyH.cons (o := ⟨some 40, _, _, _, _, _⟩) rfl (fun K hK => ?_) ?_
              · have cg : _ = some (Value.slice A acc.length c) := HL.box.cell 5
                go_simp
                refine hK.out _ _ ⟨HL.rb, HL.db⟩ (fun hS2 => ?_)
                clear hK K cg
                try simp only [Act.put, zA, zB, zC]
                refine TKC 8 47 rfl ?_
                try simp only [Act.put, zA, zB, zC]
                refine wpAnyH_ready (rs := [9]) (by kernel_rfl) (by simp) ?_
                refine AllReadyH.cons (o := ⟨some 48, _, _, _, _, _⟩) rfl (fun K hK => ?_) AllReadyH.nil
                simp only [Region.wanted, if_true]
                refine op_slice_at 1 _ _ ie _ (by rw [hie3]; exact fld_fill (⟨#[]⟩, JV.zero)) 23 52 _ rfl rfl rfl hie1 hie2 (by rw [hie3]; decide) (by rw [hie3]; decide) ?_
                intro w3 hw
                have hb3 := hid_grow hw
                have BN := (hid_alloc hw).1
                have hrn := HL.rd.lt
                replace HL := HL.below hb3
                replace HF := HF.trans (Fr.mv (Mv.of hb3))
                replace HB := Bes.box (Mv.of (r := r) hb3) HB (fun e => by have e2 : gh = r := e; omega)
                replace HN := HN.bes (Mv.of (r := r) hb3) (fun e => by have e2 : mb = r := e; omega)
                clear hw hb3
                refine hK.out _ _ ⟨HL.rb, HL.db⟩ (fun hS2 => ?_)
                clear hK K
                try simp only [Act.put, zA, zB, zC]
                refine wpAnyH_ready (rs := [10]) (by kernel_rfl) (by simp) ?_
                refine AllReadyH.cons (o := ⟨some 49, _, _, _, _, _⟩) rfl (fun K hK => ?_) AllReadyH.nil
                simp only [Region.wanted, if_true]
                refine op_append_at _ _ 23 rfl b1 52 ie _ 7 104 rfl hie1 hie2 hie3 hie4 rfl (by decide) (.slice A acc.length c) acc.length _ rfl HL.own _ _ _ _ BN rfl rfl (fld_one _) (by unfold maxLen; omega) (by omega) HL.st.2.2.2.2.2.2.2.2.2 ?_
                intro ga cap w4 HO2 hgrow hat hlt
                have hxl := HL.own.1
                have hba := HL.append HO2 hgrow hat
                replace HF := HL.frOwn HF hba.2
                replace HB := Bes.box hba.2 HB (fun e => by have := (own_in HL.own e).1; omega)
                replace HN := HN.bes hba.2 (fun e => by have := (own_in HL.own e).1; omega)
                replace HL := hba.1
                have hbg : b1 ≤ ga := (own_in HL.own rfl).1
                have hb0 := HL.st
                clear hgrow hba BN HO2 hat
                refine hK.out _ _ ⟨HL.rb, HL.db⟩ (fun hS2 => ?_)
                clear hK K
                try simp only [Act.put, zA, zB, zC]
                refine TKB 11 50 ?_ rfl ?_ ?_
                rotate_left
                · (intro w hSw; go_simp; rw [if_pos (by omega)])
                try simp only [Act.put, zA, zB, zC]
                refine TKC 13 51 rfl ?_
                try simp only [Act.put, zA, zB, zC]
                refine wpAnyH_ready (rs := [12, 14]) (by kernel_rfl) (by simp) ?_
                refine AllReadyH.cons (o := ⟨none, _, _, _, _, _⟩) rfl (fun K hK => ?_) ?_
                · simp only [Region.wanted, if_true]
                  refine op_store_own 52 _ _ rfl (fldA (nm, j)) HL.own hxl rfl rfl rfl info_field7 (fld_one _) ?_
                  intro w5 HO3 hbe
                  replace HF := HL.frG HF (by omega) hbe
                  replace HB := Bes.box hbe HB (fun e => by have e2 : gh = ga := e; omega)
                  replace HN := HN.bes hbe (fun e => by have e2 : mb = ga := e; omega)
                  replace HL := HL.stored rfl HO3 hbe
                  clear hbe HO3
                  refine hK.out _ _ ⟨HL.rb, HL.db⟩ (fun hS2 => ?_)
                  clear hK K
                  try simp only [Act.put, zA, zB, zC]
                  refine wpAnyH_ready (rs := [14]) (by kernel_rfl) (by simp) ?_
                  refine AllReadyH.cons (o := ⟨none, _, _, _, _, _⟩) rfl (fun K hK => ?_) AllReadyH.nil
                  simp only [Region.wanted, if_true]
                  refine op_store_cell 23 _ _ rfl gv 5 rfl (.slice (some ⟨ga, 0, none⟩) (acc.length + 1) cap) rfl _ _ HL.box (by show 5 < 6; omega) info_sl2 rfl ?_
                  intro w6 hw
                  rw [KC_set5] at hw
                  have hpt := HL.put hw
                  replace HF := HL.frG HF hb0.2.1 hpt.2
                  replace HB := Bes.box hpt.2 HB (fun e => hgv (by have e2 : gh = gv := e; exact e2))
                  replace HN := HN.bes hpt.2 (fun e => hmv (by have e2 : mb = gv := e; exact e2))
                  replace HL := hpt.1
                  clear hpt hw
                  refine hK.out _ _ ⟨HL.rb, HL.db⟩ (fun hS2 => ?_)
                  clear hK K
                  try simp only [Act.put, zA, zB, zC]
                  refine wpAnyH_done (by kernel_rfl) ?_ _
                  go_end0
                  exact GotS.ok HK.out HF rfl (ost_more hej hki2 hnmr HNM.out HL HB HN HST)
                refine AllReadyH.cons (o := ⟨none, _, _, _, _, _⟩) rfl (fun K hK => ?_) AllReadyH.nil
                simp only [Region.wanted, if_true]
                refine op_store_cell 23 _ _ rfl gv 5 rfl (.slice (some ⟨ga, 0, none⟩) (acc.length + 1) cap) rfl _ _ HL.box (by show 5 < 6; omega) info_sl2 rfl ?_
                intro w6 hw
                rw [KC_set5] at hw
                have hpt := HL.put hw
                replace HF := HL.frG HF hb0.2.1 hpt.2
                replace HB := Bes.box hpt.2 HB (fun e => hgv (by have e2 : gh = gv := e; exact e2))
                replace HN := HN.bes hpt.2 (fun e => hmv (by have e2 : mb = gv := e; exact e2))
                replace HL := hpt.1
                clear hpt hw
                refine hK.out _ _ ⟨HL.rb, HL.db⟩ (fun hS2 => ?_)
                clear hK K
                try simp only [Act.put, zA, zB, zC]
                refine wpAnyH_ready (rs := [12]) (by kernel_rfl) (by simp) ?_
                refine AllReadyH.cons (o := ⟨none, _, _, _, _, _⟩) rfl (fun K hK => ?_) AllReadyH.nil
                simp only [Region.wanted, if_true]
                refine op_store_own 52 _ _ rfl (fldA (nm, j)) HL.own hxl rfl rfl rfl info_field7 (fld_one _) ?_
                intro w5 HO3 hbe
                replace HF := HL.frG HF (by omega) hbe
                replace HB := Bes.box hbe HB (fun e => by have e2 : gh = ga := e; omega)
                replace HN := HN.bes hbe (fun e => by have e2 : mb = ga := e; omega)
                replace HL := HL.stored rfl HO3 hbe
                clear hbe HO3
                refine hK.out _ _ ⟨HL.rb, HL.db⟩ (fun hS2 => ?_)
                clear hK K
                try simp only [Act.put, zA, zB, zC]
                refine wpAnyH_done (by kernel_rfl) ?_ _
                go_end0
                exact GotS.ok HK.out HF rfl (ost_more hej hki2 hnmr HNM.out HL HB HN HST)
              refine AllReadyH.cons (o := ⟨some 48, _, _, _, _, _⟩) rfl (fun K hK => ?_) AllReadyH.nil
              simp only [Region.wanted, if_true]
              refine op_slice_at 1 _ _ ie _ (by rw [hie3]; exact fld_fill (⟨#[]⟩, JV.zero)) 23 52 _ rfl rfl rfl hie1 hie2 (by rw [hie3]; decide) (by rw [hie3]; decide) ?_
              intro w3 hw
              have hb3 := hid_grow hw
              have BN := (hid_alloc hw).1
              have hrn := HL.rd.lt
              replace HL := HL.below hb3
              replace HF := HF.trans (Fr.mv (Mv.of hb3))
              replace HB := Bes.box (Mv.of (r := r) hb3) HB (fun e => by have e2 : gh = r := e; omega)
              replace HN := HN.bes (Mv.of (r := r) hb3) (fun e => by have e2 : mb = r := e; omega)
              clear hw hb3
              refine hK.out _ _ ⟨HL.rb, HL.db⟩ (fun hS2 => ?_)
              clear hK K
              try simp only [Act.put, zA, zB, zC]
              refine wpAnyH_ready (rs := [1]) (by kernel_rfl) (by simp) ?_
              refine AllReadyH.cons (o := ⟨some 40, _, _, _, _, _⟩) rfl (fun K hK => ?_) AllReadyH.nil
              have cg : _ = some (Value.slice A acc.length c) := HL.box.cell 5
              go_simp
              refine hK.out _ _ ⟨HL.rb, HL.db⟩ (fun hS2 => ?_)
              clear hK K cg
              try simp only [Act.put, zA, zB, zC]
              refine TKC 8 47 rfl ?_
              try simp only [Act.put, zA, zB, zC]
              refine wpAnyH_ready (rs := [10]) (by kernel_rfl) (by simp) ?_
              refine AllReadyH.cons (o := ⟨some 49, _, _, _, _, _⟩) rfl (fun K hK => ?_) AllReadyH.nil
              simp only [Region.wanted, if_true]
              refine op_append_at _ _ 23 rfl b1 52 ie _ 7 104 rfl hie1 hie2 hie3 hie4 rfl (by decide) (.slice A acc.length c) acc.length _ rfl HL.own _ _ _ _ BN rfl rfl (fld_one _) (by unfold maxLen; omega) (by omega) HL.st.2.2.2.2.2.2.2.2.2 ?_
              intro ga cap w4 HO2 hgrow hat hlt
              have hxl := HL.own.1
              have hba := HL.append HO2 hgrow hat
              replace HF := HL.frOwn HF hba.2
              replace HB := Bes.box hba.2 HB (fun e => by have := (own_in HL.own e).1; omega)
              replace HN := HN.bes hba.2 (fun e => by have := (own_in HL.own e).1; omega)
              replace HL := hba.1
              have hbg : b1 ≤ ga := (own_in HL.own rfl).1
              have hb0 := HL.st
              clear hgrow hba BN HO2 hat
              refine hK.out _ _ ⟨HL.rb, HL.db⟩ (fun hS2 => ?_)
              clear hK K
              try simp only [Act.put, zA, zB, zC]
              refine TKB 11 50 ?_ rfl ?_ ?_
              rotate_left
              · (intro w hSw; go_simp; rw [if_pos (by omega)])
              try simp only [Act.put, zA, zB, zC]
              refine TKC 13 51 rfl ?_
              try simp only [Act.put, zA, zB, zC]
              refine wpAnyH_ready (rs := [12, 14]) (by kernel_rfl) (by simp) ?_
              refine AllReadyH.cons (o := ⟨none, _, _, _, _, _⟩) rfl (fun K hK => ?_) ?_
              · simp only [Region.wanted, if_true]
                refine op_store_own 52 _ _ rfl (fldA (nm, j)) HL.own hxl rfl rfl rfl info_field7 (fld_one _) ?_
                intro w5 HO3 hbe
                replace HF := HL.frG HF (by omega) hbe
                replace HB := Bes.box hbe HB (fun e => by have e2 : gh = ga := e; omega)
                replace HN := HN.bes hbe (fun e => by have e2 : mb = ga := e; omega)
                replace HL := HL.stored rfl HO3 hbe
                clear hbe HO3
                refine hK.out _ _ ⟨HL.rb, HL.db⟩ (fun hS2 => ?_)
                clear hK K
                try simp only [Act.put, zA, zB, zC]
                refine wpAnyH_ready (rs := [14]) (by kernel_rfl) (by simp) ?_
                refine AllReadyH.cons (o := ⟨none, _, _, _, _, _⟩) rfl (fun K hK => ?_) AllReadyH.nil
                simp only [Region.wanted, if_true]
                refine op_store_cell 23 _ _ rfl gv 5 rfl (.slice (some ⟨ga, 0, none⟩) (acc.length + 1) cap) rfl _ _ HL.box (by show 5 < 6; omega) info_sl2 rfl ?_
                intro w6 hw
                rw [KC_set5] at hw
                have hpt := HL.put hw
                replace HF := HL.frG HF hb0.2.1 hpt.2
                replace HB := Bes.box hpt.2 HB (fun e => hgv (by have e2 : gh = gv := e; exact e2))
                replace HN := HN.bes hpt.2 (fun e => hmv (by have e2 : mb = gv := e; exact e2))
                replace HL := hpt.1
                clear hpt hw
                refine hK.out _ _ ⟨HL.rb, HL.db⟩ (fun hS2 => ?_)
                clear hK K
                try simp only [Act.put, zA, zB, zC]
                refine wpAnyH_done (by kernel_rfl) ?_ _
                go_end0
                exact GotS.ok HK.out HF rfl (ost_more hej hki2 hnmr HNM.out HL HB HN HST)
              refine AllReadyH.cons (o := ⟨none, _, _, _, _, _⟩) rfl (fun K hK => ?_) AllReadyH.nil
              simp only [Region.wanted, if_true]
              refine op_store_cell 23 _ _ rfl gv 5 rfl (.slice (some ⟨ga, 0, none⟩) (acc.length + 1) cap) rfl _ _ HL.box (by show 5 < 6; omega) info_sl2 rfl ?_
              intro w6 hw
              rw [KC_set5] at hw
              have hpt := HL.put hw
              replace HF := HL.frG HF hb0.2.1 hpt.2
              replace HB := Bes.box hpt.2 HB (fun e => hgv (by have e2 : gh = gv := e; exact e2))
              replace HN := HN.bes hpt.2 (fun e => hmv (by have e2 : mb = gv := e; exact e2))
              replace HL := hpt.1
              clear hpt hw
              refine hK.out _ _ ⟨HL.rb, HL.db⟩ (fun hS2 => ?_)
              clear hK K
              try simp only [Act.put, zA, zB, zC]
              refine wpAnyH_ready (rs := [12]) (by kernel_rfl) (by simp) ?_
              refine AllReadyH.cons (o := ⟨none, _, _, _, _, _⟩) rfl (fun K hK => ?_) AllReadyH.nil
              simp only [Region.wanted, if_true]
              refine op_store_own 52 _ _ rfl (fldA (nm, j)) HL.own hxl rfl rfl rfl info_field7 (fld_one _) ?_
              intro w5 HO3 hbe
              replace HF := HL.frG HF (by omega) hbe
              replace HB := Bes.box hbe HB (fun e => by have e2 : gh = ga := e; omega)
              replace HN := HN.bes hbe (fun e => by have e2 : mb = ga := e; omega)
              replace HL := HL.stored rfl HO3 hbe
              clear hbe HO3
              refine hK.out _ _ ⟨HL.rb, HL.db⟩ (fun hS2 => ?_)
              clear hK K
              try simp only [Act.put, zA, zB, zC]
              refine wpAnyH_done (by kernel_rfl) ?_ _
              go_end0
              exact GotS.ok HK.out HF rfl (ost_more hej hki2 hnmr HNM.out HL HB HN HST)
            refine AllReadyH.cons (o := ⟨some 48, _, _, _, _, _⟩) rfl (fun K hK => ?_) AllReadyH.nil
            simp only [Region.wanted, if_true]
            refine op_slice_at 1 _ _ ie _ (by rw [hie3]; exact fld_fill (⟨#[]⟩, JV.zero)) 23 52 _ rfl rfl rfl hie1 hie2 (by rw [hie3]; decide) (by rw [hie3]; decide) ?_
            intro w3 hw
            have hb3 := hid_grow hw
            have BN := (hid_alloc hw).1
            have hrn := HL.rd.lt
            replace HL := HL.below hb3
            replace HF := HF.trans (Fr.mv (Mv.of hb3))
            replace HB := Bes.box (Mv.of (r := r) hb3) HB (fun e => by have e2 : gh = r := e; omega)
            replace HN := HN.bes (Mv.of (r := r) hb3) (fun e => by have e2 : mb = r := e; omega)
            clear hw hb3
            refine hK.out _ _ ⟨HL.rb, HL.db⟩ (fun hS2 => ?_)
            clear hK K
            try simp only [Act.put, zA, zB, zC]
            refine wpAnyH_ready (rs := [1, 6]) (by kernel_rfl) (by simp) ?_
            refine AllReadyH.cons (o := ⟨some 40, _, _, _, _, _⟩) rfl (fun K hK => ?_) ?_
            · have cg : _ = some (Value.slice A acc.length c) := HL.box.cell 5
              go_simp
              refine hK.out _ _ ⟨HL.rb, HL.db⟩ (fun hS2 => ?_)
              clear hK K cg
              try simp only [Act.put, zA, zB, zC]
              refine TKC 8 47 rfl ?_
              try simp only [Act.put, zA, zB, zC]
              refine wpAnyH_ready (rs := [6]) (by kernel_rfl) (by simp) ?_
              refine AllReadyH.cons (o := ⟨some 45, _, _, _, _, _⟩) rfl (fun K hK => ?_) AllReadyH.nil
              go_simp
              (go_at_call 38; (with_reducible refine (hval.at HL.rd HL.gl hki hs).mono ?_); rw [HO.out]; rintro e w9 ⟨hm, ⟨j, rfl, hj, hej, hoff⟩, hr4⟩)
              have hlo := fun q (e : (Value.slice A acc.length c).ownBlock = some q) => (own_in HL.own e).2
              have hb1s := HL.st.2.2.2.2.2.2.2.2.2
              replace BN := BN.mv hm (Nat.ne_of_gt hrn)
              replace HL := (HL.mv hm hr4).add hj hb1s hlo hoff
              replace HF := HF.trans (Fr.mv hm)
              replace HB := Bes.box hm HB (fun e => by have e2 : gh = r := e; omega)
              replace HN := HN.bes hm (fun e => by have e2 : mb = r := e; omega)
              clear hm hr4 hj hoff hlo hb1s
              refine hK.out _ _ ⟨HL.rb, HL.db⟩ (fun hS2 => ?_)
              clear hK K
              try simp only [Act.put, zA, zB, zC]
              refine wpAnyH_take (i := 7) (oi := ⟨some 46, _, _, _, _, _⟩) (v := _) rfl (by kernel_rfl) (by kernel_rfl) (by kernel_rfl) (fun _ _ _ h => h) (yields_build (by kernel_rfl) (fld_build nm j) _ rfl rfl) (by assumption) ?_
              try simp only [Act.put, zA, zB, zC]
              refine wpAnyH_ready (rs := [10]) (by kernel_rfl) (by simp) ?_
              refine AllReadyH.cons (o := ⟨some 49, _, _, _, _, _⟩) rfl (fun K hK => ?_) AllReadyH.nil
              simp only [Region.wanted, if_true]
              refine op_append_at _ _ 23 rfl b1 52 ie _ 7 104 rfl hie1 hie2 hie3 hie4 rfl (by decide) (.slice A acc.length c) acc.length _ rfl HL.own _ _ _ _ BN rfl rfl (fld_one _) (by unfold maxLen; omega) (by omega) HL.st.2.2.2.2.2.2.2.2.2 ?_
              intro ga cap w4 HO2 hgrow hat hlt
              have hxl := HL.own.1
              have hba := HL.append HO2 hgrow hat
              replace HF := HL.frOwn HF hba.2
              replace HB := Bes.box hba.2 HB (fun e => by have := (own_in HL.own e).1; omega)
              replace HN := HN.bes hba.2 (fun e => by have := (own_in HL.own e).1; omega)
              replace HL := hba.1
              have hbg : b1 ≤ ga := (own_in HL.own rfl).1
              have hb0 := HL.st
              clear hgrow hba BN HO2 hat
              refine hK.out _ _ ⟨HL.rb, HL.db⟩ (fun hS2 => ?_)
              clear hK K
              try simp only [Act.put, zA, zB, zC]
              refine TKB 11 50 ?_ rfl ?_ ?_
              rotate_left
              · (intro w hSw; go_simp; rw [if_pos (by omega)])
              try simp only [Act.put, zA, zB, zC]
              refine TKC 13 51 rfl ?_
              try simp only [Act.put, zA, zB, zC]
              refine wpAnyH_ready (rs := [12, 14]) (by kernel_rfl) (by simp) ?_
              refine AllReadyH.cons (o := ⟨none, _, _, _, _, _⟩) rfl (fun K hK => ?_) ?_
              · simp only [Region.wanted, if_true]
                refine op_store_own 52 _ _ rfl (fldA (nm, j)) HL.own hxl rfl rfl rfl info_field7 (fld_one _) ?_
                intro w5 HO3 hbe
                replace HF := HL.frG HF (by omega) hbe
                replace HB := Bes.box hbe HB (fun e => by have e2 : gh = ga := e; omega)
                replace HN := HN.bes hbe (fun e => by have e2 : mb = ga := e; omega)
                replace HL := HL.stored rfl HO3 hbe
                clear hbe HO3
                refine hK.out _ _ ⟨HL.rb, HL.db⟩ (fun hS2 => ?_)
                clear hK K
                try simp only [Act.put, zA, zB, zC]
                refine wpAnyH_ready (rs := [14]) (by kernel_rfl) (by simp) ?_
                refine AllReadyH.cons (o := ⟨none, _, _, _, _, _⟩) rfl (fun K hK => ?_) AllReadyH.nil
                simp only [Region.wanted, if_true]
                refine op_store_cell 23 _ _ rfl gv 5 rfl (.slice (some ⟨ga, 0, none⟩) (acc.length + 1) cap) rfl _ _ HL.box (by show 5 < 6; omega) info_sl2 rfl ?_
                intro w6 hw
                rw [KC_set5] at hw
                have hpt := HL.put hw
                replace HF := HL.frG HF hb0.2.1 hpt.2
                replace HB := Bes.box hpt.2 HB (fun e => hgv (by have e2 : gh = gv := e; exact e2))
                replace HN := HN.bes hpt.2 (fun e => hmv (by have e2 : mb = gv := e; exact e2))
                replace HL := hpt.1
                clear hpt hw
                refine hK.out _ _ ⟨HL.rb, HL.db⟩ (fun hS2 => ?_)
                clear hK K
                try simp only [Act.put, zA, zB, zC]
                refine wpAnyH_done (by kernel_rfl) ?_ _
                go_end0
                exact GotS.ok HK.out HF rfl (ost_more hej hki2 hnmr HNM.out HL HB HN HST)
              refine AllReadyH.cons (o := ⟨none, _, _, _, _, _⟩) rfl (fun K hK => ?_) AllReadyH.nil
              simp only [Region.wanted, if_true]
              refine op_store_cell 23 _ _ rfl gv 5 rfl (.slice (some ⟨ga, 0, none⟩) (acc.length + 1) cap) rfl _ _ HL.box (by show 5 < 6; omega) info_sl2 rfl ?_
              intro w6 hw
              rw [KC_set5] at hw
              have hpt := HL.put hw
              replace HF := HL.frG HF hb0.2.1 hpt.2
              replace HB := Bes.box hpt.2 HB (fun e => hgv (by have e2 : gh = gv := e; exact e2))
              replace HN := HN.bes hpt.2 (fun e => hmv (by have e2 : mb = gv := e; exact e2))
              replace HL := hpt.1
              clear hpt hw
              refine hK.out _ _ ⟨HL.rb, HL.db⟩ (fun hS2 => ?_)
              clear hK K
              try simp only [Act.put, zA, zB, zC]
              refine wpAnyH_ready (rs := [12]) (by kernel_rfl) (by simp) ?_
              refine AllReadyH.cons (o := ⟨none, _, _, _, _, _⟩) rfl (fun K hK => ?_) AllReadyH.nil
              simp only [Region.wanted, if_true]
              refine op_store_own 52 _ _ rfl (fldA (nm, j)) HL.own hxl rfl rfl rfl info_field7 (fld_one _) ?_
              intro w5 HO3 hbe
              replace HF := HL.frG HF (by omega) hbe
              replace HB := Bes.box hbe HB (fun e => by have e2 : gh = ga := e; omega)
              replace HN := HN.bes hbe (fun e => by have e2 : mb = ga := e; omega)
              replace HL := HL.stored rfl HO3 hbe
              clear hbe HO3
              refine hK.out _ _ ⟨HL.rb, HL.db⟩ (fun hS2 => ?_)
              clear hK K
              try simp only [Act.put, zA, zB, zC]
              refine wpAnyH_done (by kernel_rfl) ?_ _
              go_end0
              exact GotS.ok HK.out HF rfl (ost_more hej hki2 hnmr HNM.out HL HB HN HST)
            refine AllReadyH.cons (o := ⟨some 45, _, _, _, _, _⟩) rfl (fun K hK => ?_) AllReadyH.nil
            go_simp
            (go_at_call 38; (with_reducible refine (hval.at HL.rd HL.gl hki hs).mono ?_); rw [HO.out]; rintro e w9 ⟨hm, ⟨j, rfl, hj, hej, hoff⟩, hr4⟩)
            have hlo := fun q (e : (Value.slice A acc.length c).ownBlock = some q) => (own_in HL.own e).2
            have hb1s := HL.st.2.2.2.2.2.2.2.2.2
            replace BN := BN.mv hm (Nat.ne_of_gt hrn)
            replace HL := (HL.mv hm hr4).add hj hb1s hlo hoff
            replace HF := HF.trans (Fr.mv hm)
            replace HB := Bes.box hm HB (fun e => by have e2 : gh = r := e; omega)
            replace HN := HN.bes hm (fun e => by have e2 : mb = r := e; omega)
            clear hm hr4 hj hoff hlo hb1s
            refine hK.out _ _ ⟨HL.rb, HL.db⟩ (fun hS2 => ?_)
            clear hK K
            try simp only [Act.put, zA, zB, zC]
            refine wpAnyH_take (i := 7) (oi := ⟨some 46, _, _, _, _, _⟩) (v := _) rfl (by kernel_rfl) (by kernel_rfl) (by kernel_rfl) (fun _ _ _ h => h) (yields_build (by kernel_rfl) (fld_build nm j) _ rfl rfl) (by assumption) ?_
            try simp only [Act.put, zA, zB, zC]
            refine wpAnyH_ready (rs := [1]) (by kernel_rfl) (by simp) ?_
            refine AllReadyH.cons (o := ⟨some 40, _, _, _, _, _⟩) rfl (fun K hK => ?_) AllReadyH.nil
            have cg : _ = some (Value.slice A acc.length c) := HL.box.cell 5
            go_simp
            refine hK.out _ _ ⟨HL.rb, HL.db⟩ (fun hS2 => ?_)
            clear hK K cg
            try simp only [Act.put, zA, zB, zC]
            refine TKC 8 47 rfl ?_
            try simp only [Act.put, zA, zB, zC]
            refine wpAnyH_ready (rs := [10]) (by kernel_rfl) (by simp) ?_
            refine AllReadyH.cons (o := ⟨some 49, _, _, _, _, _⟩) rfl (fun K hK => ?_) AllReadyH.nil
            simp only [Region.wanted, if_true]
            refine op_append_at _ _ 23 rfl b1 52 ie _ 7 104 rfl hie1 hie2 hie3 hie4 rfl (by decide) (.slice A acc.length c) acc.length _ rfl HL.own _ _ _ _ BN rfl rfl (fld_one _) (by unfold maxLen; omega) (by omega) HL.st.2.2.2.2.2.2.2.2.2 ?_
            intro ga cap w4 HO2 hgrow hat hlt
            have hxl := HL.own.1
            have hba := HL.append HO2 hgrow hat
            replace HF := HL.frOwn HF hba.2
            replace HB := Bes.box hba.2 HB (fun e => by have := (own_in HL.own e).1; omega)
            replace HN := HN.bes hba.2 (fun e => by have := (own_in HL.own e).1; omega)
            replace HL := hba.1
            have hbg : b1 ≤ ga := (own_in HL.own rfl).1
            have hb0 := HL.st
            clear hgrow hba BN HO2 hat
            refine hK.out _ _ ⟨HL.rb, HL.db⟩ (fun hS2 => ?_)
            clear hK K
            try simp only [Act.put, zA, zB, zC]
            refine TKB 11 50 ?_ rfl ?_ ?_
            rotate_left
            · (intro w hSw; go_simp; rw [if_pos (by omega)])
            try simp only [Act.put, zA, zB, zC]
            refine TKC 13 51 rfl ?_
            try simp only [Act.put, zA, zB, zC]
            refine wpAnyH_ready (rs := [12, 14]) (by kernel_rfl) (by simp) ?_
            refine AllReadyH.cons (o := ⟨none, _, _, _, _, _⟩) rfl (fun K hK => ?_) ?_
            · simp only [Region.wanted, if_true]
              refine op_store_own 52 _ _ rfl (fldA (nm, j)) HL.own hxl rfl rfl rfl info_field7 (fld_one _) ?_
              intro w5 HO3 hbe
              replace HF := HL.frG HF (by omega) hbe
              replace HB := Bes.box hbe HB (fun e => by have e2 : gh = ga := e; omega)
              replace HN := HN.bes hbe (fun e => by have e2 : mb = ga := e; omega)
              replace HL := HL.stored rfl HO3 hbe
              clear hbe HO3
              refine hK.out _ _ ⟨HL.rb, HL.db⟩ (fun hS2 => ?_)
              clear hK K
              try simp only [Act.put, zA, zB, zC]
              refine wpAnyH_ready (rs := [14]) (by kernel_rfl) (by simp) ?_
              refine AllReadyH.cons (o := ⟨none, _, _, _, _, _⟩) rfl (fun K hK => ?_) AllReadyH.nil
              simp only [Region.wanted, if_true]
              refine op_store_cell 23 _ _ rfl gv 5 rfl (.slice (some ⟨ga, 0, none⟩) (acc.length + 1) cap) rfl _ _ HL.box (by show 5 < 6; omega) info_sl2 rfl ?_
              intro w6 hw
              rw [KC_set5] at hw
              have hpt := HL.put hw
              replace HF := HL.frG HF hb0.2.1 hpt.2
              replace HB := Bes.box hpt.2 HB (fun e => hgv (by have e2 : gh = gv := e; exact e2))
              replace HN := HN.bes hpt.2 (fun e => hmv (by have e2 : mb = gv := e; exact e2))
              replace HL := hpt.1
              clear hpt hw
              refine hK.out _ _ ⟨HL.rb, HL.db⟩ (fun hS2 => ?_)
              clear hK K
              try simp only [Act.put, zA, zB, zC]
              refine wpAnyH_done (by kernel_rfl) ?_ _
              go_end0
              exact GotS.ok HK.out HF rfl (ost_more hej hki2 hnmr HNM.out HL HB HN HST)
            refine AllReadyH.cons (o := ⟨none, _, _, _, _, _⟩) rfl (fun K hK => ?_) AllReadyH.nil
            simp only [Region.wanted, if_true]
            refine op_store_cell 23 _ _ rfl gv 5 rfl (.slice (some ⟨ga, 0, none⟩) (acc.length + 1) cap) rfl _ _ HL.box (by show 5 < 6; omega) info_sl2 rfl ?_
            intro w6 hw
            rw [KC_set5] at hw
            have hpt := HL.put hw
            replace HF := HL.frG HF hb0.2.1 hpt.2
            replace HB := Bes.box hpt.2 HB (fun e => hgv (by have e2 : gh = gv := e; exact e2))
            replace HN := HN.bes hpt.2 (fun e => hmv (by have e2 : mb = gv := e; exact e2))
            replace HL := hpt.1
            clear hpt hw
            refine hK.out _ _ ⟨HL.rb, HL.db⟩ (fun hS2 => ?_)
            clear hK K
            try simp only [Act.put, zA, zB, zC]
            refine wpAnyH_ready (rs := [12]) (by kernel_rfl) (by simp) ?_
            refine AllReadyH.cons (o := ⟨none, _, _, _, _, _⟩) rfl (fun K hK => ?_) AllReadyH.nil
            simp only [Region.wanted, if_true]
            refine op_store_own 52 _ _ rfl (fldA (nm, j)) HL.own hxl rfl rfl rfl info_field7 (fld_one _) ?_
            intro w5 HO3 hbe
            replace HF := HL.frG HF (by omega) hbe
            replace HB := Bes.box hbe HB (fun e => by have e2 : gh = ga := e; omega)
            replace HN := HN.bes hbe (fun e => by have e2 : mb = ga := e; omega)
            replace HL := HL.stored rfl HO3 hbe
            clear hbe HO3
            refine hK.out _ _ ⟨HL.rb, HL.db⟩ (fun hS2 => ?_)
            clear hK K
            try simp only [Act.put, zA, zB, zC]
            refine wpAnyH_done (by kernel_rfl) ?_ _
            go_end0
            exact GotS.ok HK.out HF rfl (ost_more hej hki2 hnmr HNM.out HL HB HN HST)
  · have HK : Hid (objStep s (valueTo s d) i (L.map (·.1), L.map fun p => er p.2) = .bad 3 i) := Lib.hid (by unfold objStep; rw [if_neg h34])
    go_enter Tryz.func61, Tryz.ntmps61
    go_wp2_with (first
      | (go_at_call 55; (with_reducible refine (peek_b HL.rd).mono ?_); rintro e w1 ⟨rfl, hb⟩; have hm := Mv.of (r := r) hb; have hr4 := HL.rd.below hb; clear hb; replace HB := Bes.box hm HB (fun e => by have e2 : gh = r := e; omega); replace HN := HN.bes hm (fun e => by have e2 : mb = r := e; omega); replace HL := HL.mv hm hr4; replace HF := HF.trans (Fr.mv hm); replace c1 := HL.rd.c1; replace cr := HL.rb.cell 0; replace ch := HB.cell 0; clear hm hr4)
      | (go_at_call 39; (with_reducible refine (fail_any _ _ _ _).mono ?_); rintro e w5 ⟨⟨g, rfl, hg⟩, hb⟩; replace HF := HF.trans (Fr.mv (Mv.of hb))))
    exact ⟨rfl, GotS.bad HK.out HF ⟨g, rfl, hg⟩⟩
end Go.Proofs.YtnjhmnolngdfaaaGreatDoor
