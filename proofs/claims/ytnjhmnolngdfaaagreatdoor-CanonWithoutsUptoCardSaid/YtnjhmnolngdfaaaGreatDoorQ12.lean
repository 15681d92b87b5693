/- Layer 2: the closure that reads one of a list. -/
import Derived.Test.YtnjhmnolngdfaaaGreatDoorQ11
import Derived.Test.YtnjhmnolngdfaaaGreatDoorQZip
namespace Go.Proofs.YtnjhmnolngdfaaaGreatDoor
open Go.RowKit Go.PlainAid
set_option linter.unusedVariables false
set_option linter.unusedSimpArgs false

/-- What reading a value leaves. -/
def ValV (w : World) (t : JT) (e : Ending) (w' : World) : Prop := ∃ j, e = .returned (.agg j.cells) ∧ IsJV w' j ∧ er j = t ∧ Off (fun q => q < w.heap.size) j
/-- Values within d more lists and objects are read as they should. -/
def ValOK (d : Nat) : Prop := ∀ {w : World} {r : Nat} {s : ByteArray} {i : Nat}, Rd w r s i → Gl w r → i ≤ s.size → s.size ≤ 65536 → Calls Tryz.prog 38 #[At r, .int .i64 (32 - (d : Int))] w (Got (valueTo s d i) r s w (ValV w))
theorem ValOK.at {d : Nat} (h : ValOK d) {w : World} {r : Nat} {s : ByteArray} {i : Nat} (h1 : Rd w r s i) (h2 : Gl w r) (h3 : i ≤ s.size) (h4 : s.size ≤ 65536) : Calls Tryz.prog 38 #[At r, .int .i64 (32 - (d : Int))] w (Got (valueTo s d i) r s w (ValV w)) := h h1 h2 h3 h4
def LSt (r : Nat) (s : ByteArray) (b0 b1 gv gr gd : Nat) (dep : Int) (i : Nat) (x : List JT) (w : World) : Prop :=
  ∃ A c acc, x = acc.map er ∧ acc.length ≤ i ∧ LK r s b0 b1 gv gr gd dep 25 6 i (KC 4 (.slice A acc.length c) (.slice none 0 0)) (.slice A acc.length c) acc.length (valL acc) acc w
theorem lst_more {r : Nat} {s : ByteArray} {b0 b1 gv gr gd : Nat} {dep : Int} {acc : List JV} {j : JV} {t : JT} {k ga cap : Nat} {w : World} (he : er j = t) (hk : acc.length + 1 ≤ k)
    (h : LK r s b0 b1 gv gr gd dep 25 6 k (KC 4 (.slice (some ⟨ga, 0, none⟩) (acc.length + 1) cap) (.slice none 0 0)) (.slice (some ⟨ga, 0, none⟩) (acc.length + 1) cap) (acc.length + 1) (valL acc ++ j.cells.toList) (acc ++ [j]) w) :
    LSt r s b0 b1 gv gr gd dep k (acc.map er ++ [t]) w := by
  refine ⟨some ⟨ga, 0, none⟩, cap, acc ++ [j], by simp [he], by simpa using hk, ?_⟩
  rw [valL_app, valL_one, List.length_append]
  exact h
set_option maxRecDepth 10000 in
set_option maxHeartbeats 8000000 in
theorem one_list {d : Nat} (hd : d ≤ 31) (hval : ValOK d) {r : Nat} {s : ByteArray} {b0 b1 gv gr gd : Nat} {i : Nat} {x : List JT} {w : World} (h : LSt r s b0 b1 gv gr gd (31 - (d : Int)) i x w) (hki : i ≤ s.size) (hs : s.size ≤ 65536) :
    Calls Tryz.prog 60 #[At gv, At gr, At gd] w (GotS (LSt r s b0 b1 gv gr gd (31 - (d : Int))) b0 r (listStep (valueTo s d) i x) w) := by
  obtain ⟨A, c, acc, rfl, hlen, HL⟩ := h
  obtain ⟨ie, z, hie1, hie2, hie3, hie4, hz⟩ := val_slice0
  subst hz
  have HF := Fr.refl b0 r w
  have hdw : IntKind.i64.wrap (31 - (d : Int) + 1) = 32 - (d : Int) := by rw [IntKind.wrap_i64]; omega
  cases ho : valueTo s d i with
  | bad c' p =>
    have HO := Lib.hid ho
    have HK : Hid (listStep (valueTo s d) i (acc.map er) = .bad c' p) := Lib.hid (by unfold listStep; rw [ho]; rfl)
    clear ho
    go_enter Tryz.func60, Tryz.ntmps60
    go_wp2
    refine wp_region_S (S := fun w' => IBox w' gr 68 #[At r] ∧ IBox w' gd 3 #[.int .i64 (31 - (d : Int))]) (by kernel_rfl) (fun w2 hh => ⟨box_heap hh HL.rb, box_heap hh HL.db⟩) (fun w2 hh hbb hS => ?_)
    have hb2 := hbb _ (Nat.le_refl _)
    replace HL := HL.below hb2
    replace HF := HF.trans (Fr.mv (Mv.of hb2))
    clear hbb hh hb2
    refine TKC 0 3 rfl ?_
    try simp only [Act.put, zA, zB, zC]
    refine TKB 2 5 ?_ rfl ?_ ?_
    rotate_left
    · (intro w hSw; (try dsimp only at hSw); have := hSw.1.cell 0; go_simp; try with_reducible rfl)
    try simp only [Act.put, zA, zB, zC]
    refine TKB 3 6 ?_ rfl ?_ ?_
    rotate_left
    · (intro w hSw; (try dsimp only at hSw); have := hSw.2.cell 0; go_simp; try with_reducible rfl)
    try simp only [Act.put, zA, zB, zC]
    refine TKB 4 7 (.int .i64 (32 - (d : Int))) rfl ?_ ?_
    · (intro w hSw; (try dsimp only at hSw); go_simp; try simp only [hdw])
    try simp only [Act.put, zA, zB, zC]
    refine wpAnyH_ready (rs := [1, 5, 7]) (by kernel_rfl) (by simp) ?_
    refine AllReadyH.cons (o := ⟨some 4, _, _, _, _, _⟩) rfl (fun K hK => ?_) ?_
    · have cg : _ = some (Value.slice A acc.length c) := HL.box.cell 4
      go_simp
      refine hK.out _ _ ⟨HL.rb, HL.db⟩ (fun hS2 => ?_)
      clear hK K cg
      try simp only [Act.put, zA, zB, zC]
      refine TKC 6 9 rfl ?_
      try simp only [Act.put, zA, zB, zC]
      refine wpAnyH_ready (rs := [5, 7]) (by kernel_rfl) (by simp) ?_
      refine AllReadyH.cons (o := ⟨some 8, _, _, _, _, _⟩) rfl (fun K hK => ?_) ?_
      · go_simp
        (go_at_call 38; (with_reducible refine (hval.at HL.rd HL.gl hki hs).mono ?_); rw [HO.out]; rintro e w9 ⟨hm, ⟨g, rfl, hg⟩⟩)
        exact ⟨rfl, GotS.bad HK.out (HF.trans (Fr.mv hm)) ⟨g, rfl, hg⟩⟩
      refine AllReadyH.cons (o := ⟨some 10, _, _, _, _, _⟩) rfl (fun K hK => ?_) AllReadyH.nil
      simp only [Region.wanted, if_true]
      refine op_slice_at 1 _ _ ie _ (by rw [hie3]; exact val_fill) 22 25 _ rfl rfl rfl hie1 hie2 (by rw [hie3]; decide) (by rw [hie3]; decide) ?_
      intro w3 hw
      have hb3 := hid_grow hw
      have BN := (hid_alloc hw).1
      have hrn := HL.rd.lt
      replace HL := HL.below hb3
      replace HF := HF.trans (Fr.mv (Mv.of hb3))
      clear hw hb3
      refine hK.out _ _ ⟨HL.rb, HL.db⟩ (fun hS2 => ?_)
      clear hK K
      try simp only [Act.put, zA, zB, zC]
      refine wpAnyH_ready (rs := [5]) (by kernel_rfl) (by simp) ?_
      refine AllReadyH.cons (o := ⟨some 8, _, _, _, _, _⟩) rfl (fun K hK => ?_) AllReadyH.nil
      go_simp
      (go_at_call 38; (with_reducible refine (hval.at HL.rd HL.gl hki hs).mono ?_); rw [HO.out]; rintro e w9 ⟨hm, ⟨g, rfl, hg⟩⟩)
      exact ⟨rfl, GotS.bad HK.out (HF.trans (Fr.mv hm)) ⟨g, rfl, hg⟩⟩
    refine AllReadyH.cons (o := ⟨some 8, _, _, _, _, _⟩) rfl (fun K hK => ?_) ?_
    · go_simp
      (go_at_call 38; (with_reducible refine (hval.at HL.rd HL.gl hki hs).mono ?_); rw [HO.out]; rintro e w9 ⟨hm, ⟨g, rfl, hg⟩⟩)
      exact ⟨rfl, GotS.bad HK.out (HF.trans (Fr.mv hm)) ⟨g, rfl, hg⟩⟩
    refine AllReadyH.cons (o := ⟨some 10, _, _, _, _, _⟩) rfl (fun K hK => ?_) AllReadyH.nil
    simp only [Region.wanted, if_true]
    refine op_slice_at 1 _ _ ie _ (by rw [hie3]; exact val_fill) 22 25 _ rfl rfl rfl hie1 hie2 (by rw [hie3]; decide) (by rw [hie3]; decide) ?_
    intro w3 hw
    have hb3 := hid_grow hw
    have BN := (hid_alloc hw).1
    have hrn := HL.rd.lt
    replace HL := HL.below hb3
    replace HF := HF.trans (Fr.mv (Mv.of hb3))
    clear hw hb3
    refine hK.out _ _ ⟨HL.rb, HL.db⟩ (fun hS2 => ?_)
    clear hK K
    try simp only [Act.put, zA, zB, zC]
    refine wpAnyH_ready (rs := [1, 5]) (by kernel_rfl) (by simp) ?_
    refine AllReadyH.cons (o := ⟨some 4, _, _, _, _, _⟩) rfl (fun K hK => ?_) ?_
    · have cg : _ = some (Value.slice A acc.length c) := HL.box.cell 4
      go_simp
      refine hK.out _ _ ⟨HL.rb, HL.db⟩ (fun hS2 => ?_)
      clear hK K cg
      try simp only [Act.put, zA, zB, zC]
      refine TKC 6 9 rfl ?_
      try simp only [Act.put, zA, zB, zC]
      refine wpAnyH_ready (rs := [5]) (by kernel_rfl) (by simp) ?_
      refine AllReadyH.cons (o := ⟨some 8, _, _, _, _, _⟩) rfl (fun K hK => ?_) AllReadyH.nil
      go_simp
      (go_at_call 38; (with_reducible refine (hval.at HL.rd HL.gl hki hs).mono ?_); rw [HO.out]; rintro e w9 ⟨hm, ⟨g, rfl, hg⟩⟩)
      exact ⟨rfl, GotS.bad HK.out (HF.trans (Fr.mv hm)) ⟨g, rfl, hg⟩⟩
    refine AllReadyH.cons (o := ⟨some 8, _, _, _, _, _⟩) rfl (fun K hK => ?_) AllReadyH.nil
    go_simp
    (go_at_call 38; (with_reducible refine (hval.at HL.rd HL.gl hki hs).mono ?_); rw [HO.out]; rintro e w9 ⟨hm, ⟨g, rfl, hg⟩⟩)
    exact ⟨rfl, GotS.bad HK.out (HF.trans (Fr.mv hm)) ⟨g, rfl, hg⟩⟩
  | ok t k =>
    have HO := Lib.hid ho
    have hki2 : acc.length + 1 ≤ k := by have := (value_goes d i t k ho).1; omega
    have HK : Hid (listStep (valueTo s d) i (acc.map er) = .ok (acc.map er ++ [t]) k) := Lib.hid (by unfold listStep; rw [ho]; rfl)
    clear ho
    go_enter Tryz.func60, Tryz.ntmps60
    go_wp2
    refine wp_region_S (S := fun w' => IBox w' gr 68 #[At r] ∧ IBox w' gd 3 #[.int .i64 (31 - (d : Int))]) (by kernel_rfl) (fun w2 hh => ⟨box_heap hh HL.rb, box_heap hh HL.db⟩) (fun w2 hh hbb hS => ?_)
    have hb2 := hbb _ (Nat.le_refl _)
    replace HL := HL.below hb2
    replace HF := HF.trans (Fr.mv (Mv.of hb2))
    clear hbb hh hb2
    refine TKC 0 3 rfl ?_
    try simp only [Act.put, zA, zB, zC]
    refine TKB 2 5 ?_ rfl ?_ ?_
    rotate_left
    · (intro w hSw; (try dsimp only at hSw); have := hSw.1.cell 0; go_simp; try with_reducible rfl)
    try simp only [Act.put, zA, zB, zC]
    refine TKB 3 6 ?_ rfl ?_ ?_
    rotate_left
    · (intro w hSw; (try dsimp only at hSw); have := hSw.2.cell 0; go_simp; try with_reducible rfl)
    try simp only [Act.put, zA, zB, zC]
    refine TKB 4 7 (.int .i64 (32 - (d : Int))) rfl ?_ ?_
    · (intro w hSw; (try dsimp only at hSw); go_simp; try simp only [hdw])
    try simp only [Act.put, zA, zB, zC]
    refine wpAnyH_ready (rs := [1, 5, 7]) (by kernel_rfl) (by simp) ?_
    refine AllReadyH.cons (o := ⟨some 4, _, _, _, _, _⟩) rfl (fun K hK => ?_) ?_
    · have cg : _ = some (Value.slice A acc.length c) := HL.box.cell 4
      go_simp
      refine hK.out _ _ ⟨HL.rb, HL.db⟩ (fun hS2 => ?_)
      clear hK K cg
      try simp only [Act.put, zA, zB, zC]
      refine TKC 6 9 rfl ?_
      try simp only [Act.put, zA, zB, zC]
      refine wpAnyH_ready (rs := [5, 7]) (by kernel_rfl) (by simp) ?_
      refine AllReadyH.cons (o := ⟨some 8, _, _, _, _, _⟩) rfl (fun K hK => ?_) ?_
      · go_simp
        (go_at_call 38; (with_reducible refine (hval.at HL.rd HL.gl hki hs).mono ?_); rw [HO.out]; rintro e w9 ⟨hm, ⟨j, rfl, hj, hej, hoff⟩, hr4⟩)
        have hlo := fun q (e : (Value.slice A acc.length c).ownBlock = some q) => (own_in HL.own e).2
        have hb1s := HL.st.2.2.2.2.2.2.2.2.2
        replace HL := (HL.mv hm hr4).add hj hb1s hlo hoff
        replace HF := HF.trans (Fr.mv hm)
        clear hm hr4 hj hoff hlo hb1s
        refine hK.out _ _ ⟨HL.rb, HL.db⟩ (fun hS2 => ?_)
        clear hK K
        try simp only [Act.put, zA, zB, zC]
        refine wpAnyH_ready (rs := [7]) (by kernel_rfl) (by simp) ?_
        refine AllReadyH.cons (o := ⟨some 10, _, _, _, _, _⟩) rfl (fun K hK => ?_) AllReadyH.nil
        simp only [Region.wanted, if_true]
        refine op_slice_at 1 _ _ ie _ (by rw [hie3]; exact val_fill) 22 25 _ rfl rfl rfl hie1 hie2 (by rw [hie3]; decide) (by rw [hie3]; decide) ?_
        intro w3 hw
        have hb3 := hid_grow hw
        have BN := (hid_alloc hw).1
        have hrn := HL.rd.lt
        replace HL := HL.below hb3
        replace HF := HF.trans (Fr.mv (Mv.of hb3))
        clear hw hb3
        refine hK.out _ _ ⟨HL.rb, HL.db⟩ (fun hS2 => ?_)
        clear hK K
        try simp only [Act.put, zA, zB, zC]
        refine wpAnyH_ready (rs := [8]) (by kernel_rfl) (by simp) ?_
        refine AllReadyH.cons (o := ⟨some 11, _, _, _, _, _⟩) rfl (fun K hK => ?_) AllReadyH.nil
        simp only [Region.wanted, if_true]
        refine op_append_at _ _ 22 rfl b1 25 ie _ 6 88 rfl hie1 hie2 hie3 hie4 rfl (by decide) (.slice A acc.length c) acc.length _ rfl HL.own _ _ _ _ BN rfl rfl (jv_one _) (by unfold maxLen; omega) (by omega) HL.st.2.2.2.2.2.2.2.2.2 ?_
        intro ga cap w4 HO2 hgrow hat hlt
        have hxl := HL.own.1
        have hba := HL.append HO2 hgrow hat
        replace HF := HL.frOwn HF hba.2
        replace HL := hba.1
        have hbg : b1 ≤ ga := (own_in HL.own rfl).1
        have hb0 := HL.st
        clear hgrow hba BN HO2 hat
        refine hK.out _ _ ⟨HL.rb, HL.db⟩ (fun hS2 => ?_)
        clear hK K
        try simp only [Act.put, zA, zB, zC]
        refine TKB 9 12 ?_ rfl ?_ ?_
        rotate_left
        · (intro w hSw; go_simp; rw [if_pos (by omega)])
        try simp only [Act.put, zA, zB, zC]
        refine TKC 11 13 rfl ?_
        try simp only [Act.put, zA, zB, zC]
        refine wpAnyH_ready (rs := [10, 12]) (by kernel_rfl) (by simp) ?_
        refine AllReadyH.cons (o := ⟨none, _, _, _, _, _⟩) rfl (fun K hK => ?_) ?_
        · simp only [Region.wanted, if_true]
          refine op_store_own 25 _ _ rfl j.cells HL.own hxl rfl rfl rfl info_value (jv_one _) ?_
          intro w5 HO3 hbe
          replace HF := HL.frG HF (by omega) hbe
          replace HL := HL.stored rfl HO3 hbe
          clear hbe HO3
          refine hK.out _ _ ⟨HL.rb, HL.db⟩ (fun hS2 => ?_)
          clear hK K
          try simp only [Act.put, zA, zB, zC]
          refine wpAnyH_ready (rs := [12]) (by kernel_rfl) (by simp) ?_
          refine AllReadyH.cons (o := ⟨none, _, _, _, _, _⟩) rfl (fun K hK => ?_) AllReadyH.nil
          simp only [Region.wanted, if_true]
          refine op_store_cell 22 _ _ rfl gv 4 rfl (.slice (some ⟨ga, 0, none⟩) (acc.length + 1) cap) rfl _ _ HL.box (by show 4 < 6; omega) info_sl1 rfl ?_
          intro w6 hw
          rw [KC_set4] at hw
          have hpt := HL.put hw
          replace HF := HL.frG HF hb0.2.1 hpt.2
          replace HL := hpt.1
          clear hpt hw
          refine hK.out _ _ ⟨HL.rb, HL.db⟩ (fun hS2 => ?_)
          clear hK K
          try simp only [Act.put, zA, zB, zC]
          refine wpAnyH_done (by kernel_rfl) ?_ _
          go_end0
          exact GotS.ok HK.out HF rfl (lst_more hej hki2 HL)
        refine AllReadyH.cons (o := ⟨none, _, _, _, _, _⟩) rfl (fun K hK => ?_) AllReadyH.nil
        simp only [Region.wanted, if_true]
        refine op_store_cell 22 _ _ rfl gv 4 rfl (.slice (some ⟨ga, 0, none⟩) (acc.length + 1) cap) rfl _ _ HL.box (by show 4 < 6; omega) info_sl1 rfl ?_
        intro w6 hw
        rw [KC_set4] at hw
        have hpt := HL.put hw
        replace HF := HL.frG HF hb0.2.1 hpt.2
        replace HL := hpt.1
        clear hpt hw
        refine hK.out _ _ ⟨HL.rb, HL.db⟩ (fun hS2 => ?_)
        clear hK K
        try simp only [Act.put, zA, zB, zC]
        refine wpAnyH_ready (rs := [10]) (by kernel_rfl) (by simp) ?_
        refine AllReadyH.cons (o := ⟨none, _, _, _, _, _⟩) rfl (fun K hK => ?_) AllReadyH.nil
        simp only [Region.wanted, if_true]
        refine op_store_own 25 _ _ rfl j.cells HL.own hxl rfl rfl rfl info_value (jv_one _) ?_
        intro w5 HO3 hbe
        replace HF := HL.frG HF (by omega) hbe
        replace HL := HL.stored rfl HO3 hbe
        clear hbe HO3
        refine hK.out _ _ ⟨HL.rb, HL.db⟩ (fun hS2 => ?_)
        clear hK K
        try simp only [Act.put, zA, zB, zC]
        refine wpAnyH_done (by kernel_rfl) ?_ _
        go_end0
        exact GotS.ok HK.out HF rfl (lst_more hej hki2 HL)
      refine AllReadyH.cons (o := ⟨some 10, _, _, _, _, _⟩) rfl (fun K hK => ?_) AllReadyH.nil
      simp only [Region.wanted, if_true]
      refine op_slice_at 1 _ _ ie _ (by rw [hie3]; exact val_fill) 22 25 _ rfl rfl rfl hie1 hie2 (by rw [hie3]; decide) (by rw [hie3]; decide) ?_
      intro w3 hw
      have hb3 := hid_grow hw
      have BN := (hid_alloc hw).1
      have hrn := HL.rd.lt
      replace HL := HL.below hb3
      replace HF := HF.trans (Fr.mv (Mv.of hb3))
      clear hw hb3
      refine hK.out _ _ ⟨HL.rb, HL.db⟩ (fun hS2 => ?_)
      clear hK K
      try simp only [Act.put, zA, zB, zC]
      refine wpAnyH_ready (rs := [5]) (by kernel_rfl) (by simp) ?_
      refine AllReadyH.cons (o := ⟨some 8, _, _, _, _, _⟩) rfl (fun K hK => ?_) AllReadyH.nil
      go_simp
      (go_at_call 38; (with_reducible refine (hval.at HL.rd HL.gl hki hs).mono ?_); rw [HO.out]; rintro e w9 ⟨hm, ⟨j, rfl, hj, hej, hoff⟩, hr4⟩)
      have hlo := fun q (e : (Value.slice A acc.length c).ownBlock = some q) => (own_in HL.own e).2
      have hb1s := HL.st.2.2.2.2.2.2.2.2.2
      replace BN := BN.mv hm (Nat.ne_of_gt hrn)
      replace HL := (HL.mv hm hr4).add hj hb1s hlo hoff
      replace HF := HF.trans (Fr.mv hm)
      clear hm hr4 hj hoff hlo hb1s
      refine hK.out _ _ ⟨HL.rb, HL.db⟩ (fun hS2 => ?_)
      clear hK K
      try simp only [Act.put, zA, zB, zC]
      refine wpAnyH_ready (rs := [8]) (by kernel_rfl) (by simp) ?_
      refine AllReadyH.cons (o := ⟨some 11, _, _, _, _, _⟩) rfl (fun K hK => ?_) AllReadyH.nil
      simp only [Region.wanted, if_true]
      refine op_append_at _ _ 22 rfl b1 25 ie _ 6 88 rfl hie1 hie2 hie3 hie4 rfl (by decide) (.slice A acc.length c) acc.length _ rfl HL.own _ _ _ _ BN rfl rfl (jv_one _) (by unfold maxLen; omega) (by omega) HL.st.2.2.2.2.2.2.2.2.2 ?_
      intro ga cap w4 HO2 hgrow hat hlt
      have hxl := HL.own.1
      have hba := HL.append HO2 hgrow hat
      replace HF := HL.frOwn HF hba.2
      replace HL := hba.1
      have hbg : b1 ≤ ga := (own_in HL.own rfl).1
      have hb0 := HL.st
      clear hgrow hba BN HO2 hat
      refine hK.out _ _ ⟨HL.rb, HL.db⟩ (fun hS2 => ?_)
      clear hK K
      try simp only [Act.put, zA, zB, zC]
      refine TKB 9 12 ?_ rfl ?_ ?_
      rotate_left
      · (intro w hSw; go_simp; rw [if_pos (by omega)])
      try simp only [Act.put, zA, zB, zC]
      refine TKC 11 13 rfl ?_
      try simp only [Act.put, zA, zB, zC]
      refine wpAnyH_ready (rs := [10, 12]) (by kernel_rfl) (by simp) ?_
      refine AllReadyH.cons (o := ⟨none, _, _, _, _, _⟩) rfl (fun K hK => ?_) ?_
      · simp only [Region.wanted, if_true]
        refine op_store_own 25 _ _ rfl j.cells HL.own hxl rfl rfl rfl info_value (jv_one _) ?_
        intro w5 HO3 hbe
        replace HF := HL.frG HF (by omega) hbe
        replace HL := HL.stored rfl HO3 hbe
        clear hbe HO3
        refine hK.out _ _ ⟨HL.rb, HL.db⟩ (fun hS2 => ?_)
        clear hK K
        try simp only [Act.put, zA, zB, zC]
        refine wpAnyH_ready (rs := [12]) (by kernel_rfl) (by simp) ?_
        refine AllReadyH.cons (o := ⟨none, _, _, _, _, _⟩) rfl (fun K hK => ?_) AllReadyH.nil
        simp only [Region.wanted, if_true]
        refine op_store_cell 22 _ _ rfl gv 4 rfl (.slice (some ⟨ga, 0, none⟩) (acc.length + 1) cap) rfl _ _ HL.box (by show 4 < 6; omega) info_sl1 rfl ?_
        intro w6 hw
        rw [KC_set4] at hw
        have hpt := HL.put hw
        replace HF := HL.frG HF hb0.2.1 hpt.2
        replace HL := hpt.1
        clear hpt hw
        refine hK.out _ _ ⟨HL.rb, HL.db⟩ (fun hS2 => ?_)
        clear hK K
        try simp only [Act.put, zA, zB, zC]
        refine wpAnyH_done (by kernel_rfl) ?_ _
        go_end0
        exact GotS.ok HK.out HF rfl (lst_more hej hki2 HL)
      refine AllReadyH.cons (o := ⟨none, _, _, _, _, _⟩) rfl (fun K hK => ?_) AllReadyH.nil
      simp only [Region.wanted, if_true]
      refine op_store_cell 22 _ _ rfl gv 4 rfl (.slice (some ⟨ga, 0, none⟩) (acc.length + 1) cap) rfl _ _ HL.box (by show 4 < 6; omega) info_sl1 rfl ?_
      intro w6 hw
      rw [KC_set4] at hw
      have hpt := HL.put hw
      replace HF := HL.frG HF hb0.2.1 hpt.2
      replace HL := hpt.1
      clear hpt hw
      refine hK.out _ _ ⟨HL.rb, HL.db⟩ (fun hS2 => ?_)
      clear hK K
      try simp only [Act.put, zA, zB, zC]
      refine wpAnyH_ready (rs := [10]) (by kernel_rfl) (by simp) ?_
      refine AllReadyH.cons (o := ⟨none, _, _, _, _, _⟩) rfl (fun K hK => ?_) AllReadyH.nil
      simp only [Region.wanted, if_true]
      refine op_store_own 25 _ _ rfl j.cells HL.own hxl rfl rfl rfl info_value (jv_one _) ?_
      intro w5 HO3 hbe
      replace HF := HL.frG HF (by omega) hbe
      replace HL := HL.stored rfl HO3 hbe
      clear hbe HO3
      refine hK.out _ _ ⟨HL.rb, HL.db⟩ (fun hS2 => ?_)
      clear hK K
      try simp only [Act.put, zA, zB, zC]
      refine wpAnyH_done (by kernel_rfl) ?_ _
      go_end0
      exact GotS.ok HK.out HF rfl (lst_more hej hki2 HL)
    refine AllReadyH.cons (o := ⟨some 8, _, _, _, _, _⟩) rfl (fun K hK => ?_) ?_
    · go_simp
      (go_at_call 38; (with_reducible refine (hval.at HL.rd HL.gl hki hs).mono ?_); rw [HO.out]; rintro e w9 ⟨hm, ⟨j, rfl, hj, hej, hoff⟩, hr4⟩)
      have hlo := fun q (e : (Value.slice A acc.length c).ownBlock = some q) => (own_in HL.own e).2
      have hb1s := HL.st.2.2.2.2.2.2.2.2.2
      replace HL := (HL.mv hm hr4).add hj hb1s hlo hoff
      replace HF := HF.trans (Fr.mv hm)
      clear hm hr4 hj hoff hlo hb1s
      refine hK.out _ _ ⟨HL.rb, HL.db⟩ (fun hS2 => ?_)
      clear hK K
      try simp only [Act.put, zA, zB, zC]
      refine wpAnyH_ready (rs := [1, 7]) (by kernel_rfl) (by simp) ?_
      refine AllReadyH.cons (o := ⟨some 4, _, _, _, _, _⟩) rfl (fun K hK => ?_) ?_
      · have cg : _ = some (Value.slice A acc.length c) := HL.box.cell 4
        go_simp
        refine hK.out _ _ ⟨HL.rb, HL.db⟩ (fun hS2 => ?_)
        clear hK K cg
        try simp only [Act.put, zA, zB, zC]
        refine TKC 6 9 rfl ?_
        try simp only [Act.put, zA, zB, zC]
        refine wpAnyH_ready (rs := [7]) (by kernel_rfl) (by simp) ?_
        refine AllReadyH.cons (o := ⟨some 10, _, _, _, _, _⟩) rfl (fun K hK => ?_) AllReadyH.nil
        simp only [Region.wanted, if_true]
        refine op_slice_at 1 _ _ ie _ (by rw [hie3]; exact val_fill) 22 25 _ rfl rfl rfl hie1 hie2 (by rw [hie3]; decide) (by rw [hie3]; decide) ?_
        intro w3 hw
        have hb3 := hid_grow hw
        have BN := (hid_alloc hw).1
        have hrn := HL.rd.lt
        replace HL := HL.below hb3
        replace HF := HF.trans (Fr.mv (Mv.of hb3))
        clear hw hb3
        refine hK.out _ _ ⟨HL.rb, HL.db⟩ (fun hS2 => ?_)
        clear hK K
        try simp only [Act.put, zA, zB, zC]
        refine wpAnyH_ready (rs := [8]) (by kernel_rfl) (by simp) ?_
        refine AllReadyH.cons (o := ⟨some 11, _, _, _, _, _⟩) rfl (fun K hK => ?_) AllReadyH.nil
        simp only [Region.wanted, if_true]
        refine op_append_at _ _ 22 rfl b1 25 ie _ 6 88 rfl hie1 hie2 hie3 hie4 rfl (by decide) (.slice A acc.length c) acc.length _ rfl HL.own _ _ _ _ BN rfl rfl (jv_one _) (by unfold maxLen; omega) (by omega) HL.st.2.2.2.2.2.2.2.2.2 ?_
        intro ga cap w4 HO2 hgrow hat hlt
        have hxl := HL.own.1
        have hba := HL.append HO2 hgrow hat
        replace HF := HL.frOwn HF hba.2
        replace HL := hba.1
        have hbg : b1 ≤ ga := (own_in HL.own rfl).1
        have hb0 := HL.st
        clear hgrow hba BN HO2 hat
        refine hK.out _ _ ⟨HL.rb, HL.db⟩ (fun hS2 => ?_)
        clear hK K
        try simp only [Act.put, zA, zB, zC]
        refine TKB 9 12 ?_ rfl ?_ ?_
        rotate_left
        · (intro w hSw; go_simp; rw [if_pos (by omega)])
        try simp only [Act.put, zA, zB, zC]
        refine TKC 11 13 rfl ?_
        try simp only [Act.put, zA, zB, zC]
        refine wpAnyH_ready (rs := [10, 12]) (by kernel_rfl) (by simp) ?_
        refine AllReadyH.cons (o := ⟨none, _, _, _, _, _⟩) rfl (fun K hK => ?_) ?_
        · simp only [Region.wanted, if_true]
          refine op_store_own 25 _ _ rfl j.cells HL.own hxl rfl rfl rfl info_value (jv_one _) ?_
          intro w5 HO3 hbe
          replace HF := HL.frG HF (by omega) hbe
          replace HL := HL.stored rfl HO3 hbe
          clear hbe HO3
          refine hK.out _ _ ⟨HL.rb, HL.db⟩ (fun hS2 => ?_)
          clear hK K
          try simp only [Act.put, zA, zB, zC]
          refine wpAnyH_ready (rs := [12]) (by kernel_rfl) (by simp) ?_
          refine AllReadyH.cons (o := ⟨none, _, _, _, _, _⟩) rfl (fun K hK => ?_) AllReadyH.nil
          simp only [Region.wanted, if_true]
          refine op_store_cell 22 _ _ rfl gv 4 rfl (.slice (some ⟨ga, 0, none⟩) (acc.length + 1) cap) rfl _ _ HL.box (by show 4 < 6; omega) info_sl1 rfl ?_
          intro w6 hw
          rw [KC_set4] at hw
          have hpt := HL.put hw
          replace HF := HL.frG HF hb0.2.1 hpt.2
          replace HL := hpt.1
          clear hpt hw
          refine hK.out _ _ ⟨HL.rb, HL.db⟩ (fun hS2 => ?_)
          clear hK K
          try simp only [Act.put, zA, zB, zC]
          refine wpAnyH_done (by kernel_rfl) ?_ _
          go_end0
          exact GotS.ok HK.out HF rfl (lst_more hej hki2 HL)
        refine AllReadyH.cons (o := ⟨none, _, _, _, _, _⟩) rfl (fun K hK => ?_) AllReadyH.nil
        simp only [Region.wanted, if_true]
        refine op_store_cell 22 _ _ rfl gv 4 rfl (.slice (some ⟨ga, 0, none⟩) (acc.length + 1) cap) rfl _ _ HL.box (by show 4 < 6; omega) info_sl1 rfl ?_
        intro w6 hw
        rw [KC_set4] at hw
        have hpt := HL.put hw
        replace HF := HL.frG HF hb0.2.1 hpt.2
        replace HL := hpt.1
        clear hpt hw
        refine hK.out _ _ ⟨HL.rb, HL.db⟩ (fun hS2 => ?_)
        clear hK K
        try simp only [Act.put, zA, zB, zC]
        refine wpAnyH_ready (rs := [10]) (by kernel_rfl) (by simp) ?_
        refine AllReadyH.cons (o := ⟨none, _, _, _, _, _⟩) rfl (fun K hK => ?_) AllReadyH.nil
        simp only [Region.wanted, if_true]
        refine op_store_own 25 _ _ rfl j.cells HL.own hxl rfl rfl rfl info_value (jv_one _) ?_
        intro w5 HO3 hbe
        replace HF := HL.frG HF (by omega) hbe
        replace HL := HL.stored rfl HO3 hbe
        clear hbe HO3
        refine hK.out _ _ ⟨HL.rb, HL.db⟩ (fun hS2 => ?_)
        clear hK K
        try simp only [Act.put, zA, zB, zC]
        refine wpAnyH_done (by kernel_rfl) ?_ _
        go_end0
        exact GotS.ok HK.out HF rfl (lst_more hej hki2 HL)
      refine AllReadyH.cons (o := ⟨some 10, _, _, _, _, _⟩) rfl (fun K hK => ?_) AllReadyH.nil
      simp only [Region.wanted, if_true]
      refine op_slice_at 1 _ _ ie _ (by rw [hie3]; exact val_fill) 22 25 _ rfl rfl rfl hie1 hie2 (by rw [hie3]; decide) (by rw [hie3]; decide) ?_
      intro w3 hw
      have hb3 := hid_grow hw
      have BN := (hid_alloc hw).1
      have hrn := HL.rd.lt
      replace HL := HL.below hb3
      replace HF := HF.trans (Fr.mv (Mv.of hb3))
      clear hw hb3
      refine hK.out _ _ ⟨HL.rb, HL.db⟩ (fun hS2 => ?_)
      clear hK K
      try simp only [Act.put, zA, zB, zC]
      refine wpAnyH_ready (rs := [1]) (by kernel_rfl) (by simp) ?_
      refine AllReadyH.cons (o := ⟨some 4, _, _, _, _, _⟩) rfl (fun K hK => ?_) AllReadyH.nil
      have cg : _ = some (Value.slice A acc.length c) := HL.box.cell 4
      go_simp
      refine hK.out _ _ ⟨HL.rb, HL.db⟩ (fun hS2 => ?_)
      clear hK K cg
      try simp only [Act.put, zA, zB, zC]
      refine TKC 6 9 rfl ?_
      try simp only [Act.put, zA, zB, zC]
      refine wpAnyH_ready (rs := [8]) (by kernel_rfl) (by simp) ?_
      refine AllReadyH.cons (o := ⟨some 11, _, _, _, _, _⟩) rfl (fun K hK => ?_) AllReadyH.nil
      simp only [Region.wanted, if_true]
      refine op_append_at _ _ 22 rfl b1 25 ie _ 6 88 rfl hie1 hie2 hie3 hie4 rfl (by decide) (.slice A acc.length c) acc.length _ rfl HL.own _ _ _ _ BN rfl rfl (jv_one _) (by unfold maxLen; omega) (by omega) HL.st.2.2.2.2.2.2.2.2.2 ?_
      intro ga cap w4 HO2 hgrow hat hlt
      have hxl := HL.own.1
      have hba := HL.append HO2 hgrow hat
      replace HF := HL.frOwn HF hba.2
      replace HL := hba.1
      have hbg : b1 ≤ ga := (own_in HL.own rfl).1
      have hb0 := HL.st
      clear hgrow hba BN HO2 hat
      refine hK.out _ _ ⟨HL.rb, HL.db⟩ (fun hS2 => ?_)
      clear hK K
      try simp only [Act.put, zA, zB, zC]
      refine TKB 9 12 ?_ rfl ?_ ?_
      rotate_left
      · (intro w hSw; go_simp; rw [if_pos (by omega)])
      try simp only [Act.put, zA, zB, zC]
      refine TKC 11 13 rfl ?_
      try simp only [Act.put, zA, zB, zC]
      refine wpAnyH_ready (rs := [10, 12]) (by kernel_rfl) (by simp) ?_
      refine AllReadyH.cons (o := ⟨none, _, _, _, _, _⟩) rfl (fun K hK => ?_) ?_
      · simp only [Region.wanted, if_true]
        refine op_store_own 25 _ _ rfl j.cells HL.own hxl rfl rfl rfl info_value (jv_one _) ?_
        intro w5 HO3 hbe
        replace HF := HL.frG HF (by omega) hbe
        replace HL := HL.stored rfl HO3 hbe
        clear hbe HO3
        refine hK.out _ _ ⟨HL.rb, HL.db⟩ (fun hS2 => ?_)
        clear hK K
        try simp only [Act.put, zA, zB, zC]
        refine wpAnyH_ready (rs := [12]) (by kernel_rfl) (by simp) ?_
        refine AllReadyH.cons (o := ⟨none, _, _, _, _, _⟩) rfl (fun K hK => ?_) AllReadyH.nil
        simp only [Region.wanted, if_true]
        refine op_store_cell 22 _ _ rfl gv 4 rfl (.slice (some ⟨ga, 0, none⟩) (acc.length + 1) cap) rfl _ _ HL.box (by show 4 < 6; omega) info_sl1 rfl ?_
        intro w6 hw
        rw [KC_set4] at hw
        have hpt := HL.put hw
        replace HF := HL.frG HF hb0.2.1 hpt.2
        replace HL := hpt.1
        clear hpt hw
        refine hK.out _ _ ⟨HL.rb, HL.db⟩ (fun hS2 => ?_)
        clear hK K
        try simp only [Act.put, zA, zB, zC]
        refine wpAnyH_done (by kernel_rfl) ?_ _
        go_end0
        exact GotS.ok HK.out HF rfl (lst_more hej hki2 HL)
      refine AllReadyH.cons (o := ⟨none, _, _, _, _, _⟩) rfl (fun K hK => ?_) AllReadyH.nil
      simp only [Region.wanted, if_true]
      refine op_store_cell 22 _ _ rfl gv 4 rfl (.slice (some ⟨ga, 0, none⟩) (acc.length + 1) cap) rfl _ _ HL.box (by show 4 < 6; omega) info_sl1 rfl ?_
      intro w6 hw
      rw [KC_set4] at hw
      have hpt := HL.put hw
      replace HF := HL.frG HF hb0.2.1 hpt.2
      replace HL := hpt.1
      clear hpt hw
      refine hK.out _ _ ⟨HL.rb, HL.db⟩ (fun hS2 => ?_)
      clear hK K
      try simp only [Act.put, zA, zB, zC]
      refine wpAnyH_ready (rs := [10]) (by kernel_rfl) (by simp) ?_
      refine AllReadyH.cons (o := ⟨none, _, _, _, _, _⟩) rfl (fun K hK => ?_) AllReadyH.nil
      simp only [Region.wanted, if_true]
      refine op_store_own 25 _ _ rfl j.cells HL.own hxl rfl rfl rfl info_value (jv_one _) ?_
      intro w5 HO3 hbe
      replace HF := HL.frG HF (by omega) hbe
      replace HL := HL.stored rfl HO3 hbe
      clear hbe HO3
      refine hK.out _ _ ⟨HL.rb, HL.db⟩ (fun hS2 => ?_)
      clear hK K
      try simp only [Act.put, zA, zB, zC]
      refine wpAnyH_done (by kernel_rfl) ?_ _
      go_end0
      exact GotS.ok HK.out HF rfl (lst_more hej hki2 HL)
    refine AllReadyH.cons (o := ⟨some 10, _, _, _, _, _⟩) rfl (fun K hK => ?_) AllReadyH.nil
    simp only [Region.wanted, if_true]
    refine op_slice_at 1 _ _ ie _ (by rw [hie3]; exact val_fill) 22 25 _ rfl rfl rfl hie1 hie2 (by rw [hie3]; decide) (by rw [hie3]; decide) ?_
    intro w3 hw
    have hb3 := hid_grow hw
    have BN := (hid_alloc hw).1
    have hrn := HL.rd.lt
    replace HL := HL.below hb3
    replace HF := HF.trans (Fr.mv (Mv.of hb3))
    clear hw hb3
    refine hK.out _ _ ⟨HL.rb, HL.db⟩ (fun hS2 => ?_)
    clear hK K
    try simp only [Act.put, zA, zB, zC]
    refine wpAnyH_ready (rs := [1, 5]) (by kernel_rfl) (by simp) ?_
    refine AllReadyH.cons (o := ⟨some 4, _, _, _, _, _⟩) rfl (fun K hK => ?_) ?_
    · have cg : _ = some (Value.slice A acc.length c) := HL.box.cell 4
      go_simp
      refine hK.out _ _ ⟨HL.rb, HL.db⟩ (fun hS2 => ?_)
      clear hK K cg
      try simp only [Act.put, zA, zB, zC]
      refine TKC 6 9 rfl ?_
      try simp only [Act.put, zA, zB, zC]
      refine wpAnyH_ready (rs := [5]) (by kernel_rfl) (by simp) ?_
      refine AllReadyH.cons (o := ⟨some 8, _, _, _, _, _⟩) rfl (fun K hK => ?_) AllReadyH.nil
      go_simp
      (go_at_call 38; (with_reducible refine (hval.at HL.rd HL.gl hki hs).mono ?_); rw [HO.out]; rintro e w9 ⟨hm, ⟨j, rfl, hj, hej, hoff⟩, hr4⟩)
      have hlo := fun q (e : (Value.slice A acc.length c).ownBlock = some q) => (own_in HL.own e).2
      have hb1s := HL.st.2.2.2.2.2.2.2.2.2
      replace BN := BN.mv hm (Nat.ne_of_gt hrn)
      replace HL := (HL.mv hm hr4).add hj hb1s hlo hoff
      replace HF := HF.trans (Fr.mv hm)
      clear hm hr4 hj hoff hlo hb1s
      refine hK.out _ _ ⟨HL.rb, HL.db⟩ (fun hS2 => ?_)
      clear hK K
      try simp only [Act.put, zA, zB, zC]
      refine wpAnyH_ready (rs := [8]) (by kernel_rfl) (by simp) ?_
      refine AllReadyH.cons (o := ⟨some 11, _, _, _, _, _⟩) rfl (fun K hK => ?_) AllReadyH.nil
      simp only [Region.wanted, if_true]
      refine op_append_at _ _ 22 rfl b1 25 ie _ 6 88 rfl hie1 hie2 hie3 hie4 rfl (by decide) (.slice A acc.length c) acc.length _ rfl HL.own _ _ _ _ BN rfl rfl (jv_one _) (by unfold maxLen; omega) (by omega) HL.st.2.2.2.2.2.2.2.2.2 ?_
      intro ga cap w4 HO2 hgrow hat hlt
      have hxl := HL.own.1
      have hba := HL.append HO2 hgrow hat
      replace HF := HL.frOwn HF hba.2
      replace HL := hba.1
      have hbg : b1 ≤ ga := (own_in HL.own rfl).1
      have hb0 := HL.st
      clear hgrow hba BN HO2 hat
      refine hK.out _ _ ⟨HL.rb, HL.db⟩ (fun hS2 => ?_)
      clear hK K
      try simp only [Act.put, zA, zB, zC]
      refine TKB 9 12 ?_ rfl ?_ ?_
      rotate_left
      · (intro w hSw; go_simp; rw [if_pos (by omega)])
      try simp only [Act.put, zA, zB, zC]
      refine TKC 11 13 rfl ?_
      try simp only [Act.put, zA, zB, zC]
      refine wpAnyH_ready (rs := [10, 12]) (by kernel_rfl) (by simp) ?_
      refine AllReadyH.cons (o := ⟨none, _, _, _, _, _⟩) rfl (fun K hK => ?_) ?_
      · simp only [Region.wanted, if_true]
        refine op_store_own 25 _ _ rfl j.cells HL.own hxl rfl rfl rfl info_value (jv_one _) ?_
        intro w5 HO3 hbe
        replace HF := HL.frG HF (by omega) hbe
        replace HL := HL.stored rfl HO3 hbe
        clear hbe HO3
        refine hK.out _ _ ⟨HL.rb, HL.db⟩ (fun hS2 => ?_)
        clear hK K
        try simp only [Act.put, zA, zB, zC]
        refine wpAnyH_ready (rs := [12]) (by kernel_rfl) (by simp) ?_
        refine AllReadyH.cons (o := ⟨none, _, _, _, _, _⟩) rfl (fun K hK => ?_) AllReadyH.nil
        simp only [Region.wanted, if_true]
        refine op_store_cell 22 _ _ rfl gv 4 rfl (.slice (some ⟨ga, 0, none⟩) (acc.length + 1) cap) rfl _ _ HL.box (by show 4 < 6; omega) info_sl1 rfl ?_
        intro w6 hw
        rw [KC_set4] at hw
        have hpt := HL.put hw
        replace HF := HL.frG HF hb0.2.1 hpt.2
        replace HL := hpt.1
        clear hpt hw
        refine hK.out _ _ ⟨HL.rb, HL.db⟩ (fun hS2 => ?_)
        clear hK K
        try simp only [Act.put, zA, zB, zC]
        refine wpAnyH_done (by kernel_rfl) ?_ _
        go_end0
        exact GotS.ok HK.out HF rfl (lst_more hej hki2 HL)
      refine AllReadyH.cons (o := ⟨none, _, _, _, _, _⟩) rfl (fun K hK => ?_) AllReadyH.nil
      simp only [Region.wanted, if_true]
      refine op_store_cell 22 _ _ rfl gv 4 rfl (.slice (some ⟨ga, 0, none⟩) (acc.length + 1) cap) rfl _ _ HL.box (by show 4 < 6; omega) info_sl1 rfl ?_
      intro w6 hw
      rw [KC_set4] at hw
      have hpt := HL.put hw
      replace HF := HL.frG HF hb0.2.1 hpt.2
      replace HL := hpt.1
      clear hpt hw
      refine hK.out _ _ ⟨HL.rb, HL.db⟩ (fun hS2 => ?_)
      clear hK K
      try simp only [Act.put, zA, zB, zC]
      refine wpAnyH_ready (rs := [10]) (by kernel_rfl) (by simp) ?_
      refine AllReadyH.cons (o := ⟨none, _, _, _, _, _⟩) rfl (fun K hK => ?_) AllReadyH.nil
      simp only [Region.wanted, if_true]
      refine op_store_own 25 _ _ rfl j.cells HL.own hxl rfl rfl rfl info_value (jv_one _) ?_
      intro w5 HO3 hbe
      replace HF := HL.frG HF (by omega) hbe
      replace HL := HL.stored rfl HO3 hbe
      clear hbe HO3
      refine hK.out _ _ ⟨HL.rb, HL.db⟩ (fun hS2 => ?_)
      clear hK K
      try simp only [Act.put, zA, zB, zC]
      refine wpAnyH_done (by kernel_rfl) ?_ _
      go_end0
      exact GotS.ok HK.out HF rfl (lst_more hej hki2 HL)
    refine AllReadyH.cons (o := ⟨some 8, _, _, _, _, _⟩) rfl (fun K hK => ?_) AllReadyH.nil
    go_simp
    (go_at_call 38; (with_reducible refine (hval.at HL.rd HL.gl hki hs).mono ?_); rw [HO.out]; rintro e w9 ⟨hm, ⟨j, rfl, hj, hej, hoff⟩, hr4⟩)
    have hlo := fun q (e : (Value.slice A acc.length c).ownBlock = some q) => (own_in HL.own e).2
    have hb1s := HL.st.2.2.2.2.2.2.2.2.2
    replace BN := BN.mv hm (Nat.ne_of_gt hrn)
    replace HL := (HL.mv hm hr4).add hj hb1s hlo hoff
    replace HF := HF.trans (Fr.mv hm)
    clear hm hr4 hj hoff hlo hb1s
    refine hK.out _ _ ⟨HL.rb, HL.db⟩ (fun hS2 => ?_)
    clear hK K
    try simp only [Act.put, zA, zB, zC]
    refine wpAnyH_ready (rs := [1]) (by kernel_rfl) (by simp) ?_
    refine AllReadyH.cons (o := ⟨some 4, _, _, _, _, _⟩) rfl (fun K hK => ?_) AllReadyH.nil
    have cg : _ = some (Value.slice A acc.length c) := HL.box.cell 4
    go_simp
    refine hK.out _ _ ⟨HL.rb, HL.db⟩ (fun hS2 => ?_)
    clear hK K cg
    try simp only [Act.put, zA, zB, zC]
    refine TKC 6 9 rfl ?_
    try simp only [Act.put, zA, zB, zC]
    refine wpAnyH_ready (rs := [8]) (by kernel_rfl) (by simp) ?_
    refine AllReadyH.cons (o := ⟨some 11, _, _, _, _, _⟩) rfl (fun K hK => ?_) AllReadyH.nil
    simp only [Region.wanted, if_true]
    refine op_append_at _ _ 22 rfl b1 25 ie _ 6 88 rfl hie1 hie2 hie3 hie4 rfl (by decide) (.slice A acc.length c) acc.length _ rfl HL.own _ _ _ _ BN rfl rfl (jv_one _) (by unfold maxLen; omega) (by omega) HL.st.2.2.2.2.2.2.2.2.2 ?_
    intro ga cap w4 HO2 hgrow hat hlt
    have hxl := HL.own.1
    have hba := HL.append HO2 hgrow hat
    replace HF := HL.frOwn HF hba.2
    replace HL := hba.1
    have hbg : b1 ≤ ga := (own_in HL.own rfl).1
    have hb0 := HL.st
    clear hgrow hba BN HO2 hat
    refine hK.out _ _ ⟨HL.rb, HL.db⟩ (fun hS2 => ?_)
    clear hK K
    try simp only [Act.put, zA, zB, zC]
    refine TKB 9 12 ?_ rfl ?_ ?_
    rotate_left
    · (intro w hSw; go_simp; rw [if_pos (by omega)])
    try simp only [Act.put, zA, zB, zC]
    refine TKC 11 13 rfl ?_
    try simp only [Act.put, zA, zB, zC]
    refine wpAnyH_ready (rs := [10, 12]) (by kernel_rfl) (by simp) ?_
    refine AllReadyH.cons (o := ⟨none, _, _, _, _, _⟩) rfl (fun K hK => ?_) ?_
    · simp only [Region.wanted, if_true]
      refine op_store_own 25 _ _ rfl j.cells HL.own hxl rfl rfl rfl info_value (jv_one _) ?_
      intro w5 HO3 hbe
      replace HF := HL.frG HF (by omega) hbe
      replace HL := HL.stored rfl HO3 hbe
      clear hbe HO3
      refine hK.out _ _ ⟨HL.rb, HL.db⟩ (fun hS2 => ?_)
      clear hK K
      try simp only [Act.put, zA, zB, zC]
      refine wpAnyH_ready (rs := [12]) (by kernel_rfl) (by simp) ?_
      refine AllReadyH.cons (o := ⟨none, _, _, _, _, _⟩) rfl (fun K hK => ?_) AllReadyH.nil
      simp only [Region.wanted, if_true]
      refine op_store_cell 22 _ _ rfl gv 4 rfl (.slice (some ⟨ga, 0, none⟩) (acc.length + 1) cap) rfl _ _ HL.box (by show 4 < 6; omega) info_sl1 rfl ?_
      intro w6 hw
      rw [KC_set4] at hw
      have hpt := HL.put hw
      replace HF := HL.frG HF hb0.2.1 hpt.2
      replace HL := hpt.1
      clear hpt hw
      refine hK.out _ _ ⟨HL.rb, HL.db⟩ (fun hS2 => ?_)
      clear hK K
      try simp only [Act.put, zA, zB, zC]
      refine wpAnyH_done (by kernel_rfl) ?_ _
      go_end0
      exact GotS.ok HK.out HF rfl (lst_more hej hki2 HL)
    refine AllReadyH.cons (o := ⟨none, _, _, _, _, _⟩) rfl (fun K hK => ?_) AllReadyH.nil
    simp only [Region.wanted, if_true]
    refine op_store_cell 22 _ _ rfl gv 4 rfl (.slice (some ⟨ga, 0, none⟩) (acc.length + 1) cap) rfl _ _ HL.box (by show 4 < 6; omega) info_sl1 rfl ?_
    intro w6 hw
    rw [KC_set4] at hw
    have hpt := HL.put hw
    replace HF := HL.frG HF hb0.2.1 hpt.2
    replace HL := hpt.1
    clear hpt hw
    refine hK.out _ _ ⟨HL.rb, HL.db⟩ (fun hS2 => ?_)
    clear hK K
    try simp only [Act.put, zA, zB, zC]
    refine wpAnyH_ready (rs := [10]) (by kernel_rfl) (by simp) ?_
    refine AllReadyH.cons (o := ⟨none, _, _, _, _, _⟩) rfl (fun K hK => ?_) AllReadyH.nil
    simp only [Region.wanted, if_true]
    refine op_store_own 25 _ _ rfl j.cells HL.own hxl rfl rfl rfl info_value (jv_one _) ?_
    intro w5 HO3 hbe
    replace HF := HL.frG HF (by omega) hbe
    replace HL := HL.stored rfl HO3 hbe
    clear hbe HO3
    refine hK.out _ _ ⟨HL.rb, HL.db⟩ (fun hS2 => ?_)
    clear hK K
    try simp only [Act.put, zA, zB, zC]
    refine wpAnyH_done (by kernel_rfl) ?_ _
    go_end0
    exact GotS.ok HK.out HF rfl (lst_more hej hki2 HL)
end Go.Proofs.YtnjhmnolngdfaaaGreatDoor
