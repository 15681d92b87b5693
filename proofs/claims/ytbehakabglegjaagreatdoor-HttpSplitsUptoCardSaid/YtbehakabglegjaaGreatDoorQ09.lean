/- Layer 9: a feed's message that is whole. -/
import Derived.Test.YtbehakabglegjaaGreatDoorQ08
import Derived.Test.YtbehakabglegjaaGreatDoorQ07
namespace Go.Proofs.YtbehakabglegjaaGreatDoor
open Go.RowKit Go.PlainAid
set_option linter.unusedVariables false
set_option linter.unusedSimpArgs false
theorem mms_one (x : Mm) : mmsL [x] = x.cells.toList := by unfold mmsL; simp
theorem mm_one (m : Ms) (A B : Option Addr) (n k c d : Nat) : (Mm.cells ⟨m, .slice A n c, .slice B k d⟩).all (·.oneCell') = true := by simp [Mm.cells, Value.oneCell']
theorem apart_none {g : Nat} {a b c d : Option Nat} (h : Apart g a b c d) : Apart g a none none d := fun q => by
  obtain ⟨h1, _, _, h4⟩ := h q
  exact ⟨fun e => ⟨(h1 e).1, by simp, by simp, (h1 e).2.2.2⟩, (fun e => by cases e), (fun e => by cases e), fun e => ⟨(h4 e).1, (h4 e).2.1, by simp, by simp⟩⟩
/-- The message that is whole leaves the feed: its rows are the message's alone. -/
theorem FdR.whole {base : Bs} {g : Nat} {F : Fs} {tk hs bd wh v : Value} {L : List Mm} {w w' : World} (h : FdR base g F tk hs bd wh L w) (h64 : F.m.heads.length ≤ 64) (h65 : F.m.body.length ≤ 65536)
    (ho : w'.ownsRow base.n 25 6 v (L.length + 1) (mmsL L ++ (Mm.cells ⟨F.m, hs, bd⟩).toList)) (hb : Bes (fun q => wh.ownBlock = some q) w w') (hat : v.ownBlock = wh.ownBlock ∨ v.ownBlock = some w.heap.size) :
    FdR base g { F with m := { F.m with heads := [], body := [] }, whole := F.whole ++ [F.m] } tk (.slice none 0 0) (.slice none 0 0) v (L ++ [⟨F.m, hs, bd⟩]) w' := by
  have hlive : ∀ q, Live g tk (.slice none 0 0) (.slice none 0 0) v q → q = g ∨ tk.ownBlock = some q ∨ wh.ownBlock = some q ∨ q = w.heap.size := fun q y => by
    rcases y with y | y | y | y | y
    · exact .inl y
    · exact .inr (.inl y)
    · cases y
    · cases y
    · rcases hat with e | e
      · rw [e] at y; exact .inr (.inr (.inl y))
      · rw [e] at y; exact .inr (.inr (.inr (Option.some.inj y).symm))
  refine ⟨⟨h.gl.1, Nat.lt_of_lt_of_le h.gl.2 hb.size⟩, Bes.own hb h.rt (fun k e x => ((h.ap k).1 e).2.2.2 x), ⟨rfl, .inl ⟨rfl, rfl⟩⟩, OwnB.nil _ _, ?_, ?_, ?_, fun x hx => ?_, fun q y a => ?_, fun q e => Nat.lt_of_lt_of_le (h.avl q e) hb.size⟩
  · rw [List.length_append, mmsL_app, mms_one]; exact ho
  · rw [List.map_append, h.wl]; rfl
  · exact (apart_none h.ap).s4.new h.gl.2 (fun q e => by cases e) (fun q e => by cases e) (fun q e => (own_in h.rt e).2) (hat.elim .inl (fun e => .inr (.inl e))) |>.s4
  · rcases List.mem_append.1 hx with hx | hx
    · obtain ⟨m1, m2⟩ := h.ms x hx
      refine ⟨m1.bes hb (m2.mono (fun q e => .inr (.inr (.inr (.inr e))))), ms_live m1 m2 (Nat.le_refl _) (fun q y => ?_)⟩
      rcases hlive q y with e | e | e | e
      · exact .inl (.inl e)
      · exact .inl (.inr (.inl e))
      · exact .inl (.inr (.inr (.inr (.inr e))))
      · exact .inr e
    · rw [List.mem_singleton.1 hx]
      have hq : ∀ q, hs.ownBlock = some q ∨ bd.ownBlock = some q → q < w.heap.size := fun q e => e.elim (fun e => (own_in h.rh e).2) (fun e => (own_in h.rb e).2)
      have hm : IsMm w ⟨F.m, hs, bd⟩ := ⟨hd_own h.rh, bt_own h.rb, hq, h64, h65, own_ty h.rh, own_ty h.rb, own_capok h.rh⟩
      have hnot : ∀ q, hs.ownBlock = some q ∨ bd.ownBlock = some q → ¬ Live g tk (.slice none 0 0) (.slice none 0 0) v q := fun q e y => by
        have hlt := hq q e
        obtain ⟨a1, a2, a3, a4⟩ := h.ap q
        rcases e with e | e
        · obtain ⟨b1, b2, b3, b4⟩ := a2 e
          rcases hlive q y with z | z | z | z
          · exact b1 z
          · exact b2 z
          · exact b4 z
          · omega
        · obtain ⟨b1, b2, b3, b4⟩ := a3 e
          rcases hlive q y with z | z | z | z
          · exact b1 z
          · exact b2 z
          · exact b4 z
          · omega
      refine ⟨hm.bes hb ⟨fun q e y => ((h.ap q).2.1 e).2.2.2 y, fun q e y => ((h.ap q).2.2.1 e).2.2.2 y⟩, fun q e y => hnot q (.inl e) y, fun q e y => hnot q (.inr e) y⟩
  · have := h.avl q a
    rcases hlive q y with z | z | z | z
    · exact h.off q (.inl z) a
    · exact h.off q (.inr (.inl z)) a
    · exact h.off q (.inr (.inr (.inr (.inr z)))) a
    · omega
theorem info_msgs : ∃ ie, Tryz.prog.info? 25 = some ie ∧ ie.zero = some (.agg zeroM) ∧ ie.size = 6 ∧ ie.bytes = 104 := by
  have h : (Tryz.prog.info? 25).map (fun i => (i.zero, i.size, i.bytes)) = some (some (.agg zeroM), 6, 104) := by kernel_rfl
  cases hq : Tryz.prog.info? 25 with
  | none => rw [hq] at h; cases h
  | some ie =>
    rw [hq] at h
    simp only [Option.map_some, Option.some.injEq, Prod.mk.injEq] at h
    exact ⟨ie, rfl, h.1, h.2.1, h.2.2⟩
theorem msg_fill (x : Mm) : Instr.fill (fun i => some (i * 6, 6)) ((Array.range (1 * 6)).map ((Value.agg zeroM).cells[· % (Value.agg zeroM).cells.size]!)) [(0, .agg x.cells)] = some x.cells := by kernel_rfl
theorem own_len {w : World} {base : Nat} {E : TypeId} {n : Nat} {wh : Value} {L : List Mm} (h : w.ownsRow base E 6 wh n (mmsL L)) : (mmsL L).length = n * 6 := h.1
/-- What the end of a message gives. -/
def EnV (base : Bs) (g : Nat) (F : Fs) (w : World) (e : Ending) (w' : World) : Prop := e = .returned (.tuple #[stepV F.end_.next, .int .i64 0]) ∧ (∃ nx tk hs bd wh L, FdM base g F.end_ nx tk hs bd wh L w') ∧ Bl base w w'
set_option maxRecDepth 100000 in
set_option maxHeartbeats 4000000 in
theorem end_any {base : Bs} {g : Nat} {F : Fs} {nx tk hs bd wh : Value} {L : List Mm} {w : World} (B : IBox w g 81 (FdC F nx tk hs bd wh)) (R : FdR base g F tk hs bd wh L w) (h64 : F.m.heads.length ≤ 64) (h65 : F.m.body.length ≤ 65536) (hn : F.whole.length < 1099511627776) :
    Calls Tryz.prog 142 #[.pointer (some ⟨g, 0, none⟩)] w (EnV base g F w) := by
  obtain ⟨ie, i1, i2, i3, i4⟩ := info_msgs
  have hL : L.length < 1099511627776 := by rw [← R.wl, List.length_map] at hn; exact hn
  obtain ⟨hA, hc, rfl, _⟩ := own_slice R.rh
  obtain ⟨bA, bc, rfl⟩ := bt_slice R.rb
  obtain ⟨wA, wc, rfl, _⟩ := own_slice R.rw_
  have HRN : ∀ w' wv, IBox w' g 81 (FdC F nx tk (.slice hA F.m.heads.length hc) (.slice bA F.m.body.length bc) wv) → w'.rangeAt g 6 (Mm.cells ⟨F.m, .slice hA F.m.heads.length hc, .slice bA F.m.body.length bc⟩).toList := fun w' wv hB j v hv => by
    rw [hB.cell]
    have : j = 0 ∨ j = 1 ∨ j = 2 ∨ j = 3 ∨ j = 4 ∨ j = 5 := by
      have := (List.getElem?_eq_some_iff.1 hv).1
      have e : (Mm.cells ⟨F.m, .slice hA F.m.heads.length hc, .slice bA F.m.body.length bc⟩).toList.length = 6 := rfl
      omega
    rcases this with rfl | rfl | rfl | rfl | rfl | rfl <;> exact hv
  have HB := Bl.refl base w
  go_enter Tryz.func142, Tryz.ntmps142
  go_wp2
  refine wp_region_S (S := fun w' => w'.rangeAt g 6 (Mm.cells ⟨F.m, .slice hA F.m.heads.length hc, .slice bA F.m.body.length bc⟩).toList) (by kernel_rfl) (fun w2 hh => HRN w2 _ (box_heap hh B)) (fun w2 hh hbb HS => ?_)
  replace B : IBox w2 g 81 (FdC F nx tk (.slice hA F.m.heads.length hc) (.slice bA F.m.body.length bc) (.slice wA L.length wc)) := box_heap hh B
  replace HB := HB.trans (Bl.of (hbb _ (Nat.le_refl _)) R.bl R.avl)
  replace R : FdR base g F tk (.slice hA F.m.heads.length hc) (.slice bA F.m.body.length bc) (.slice wA L.length wc) L w2 := R.below (hbb _ (Nat.le_refl _))
  clear hh hbb
  refine TKC 0 4 rfl ?_
  try simp only [Act.put, zA, zB, zC]
  refine TKC 1 5 rfl ?_
  try simp only [Act.put, zA, zB, zC]
  refine TKC 2 6 rfl ?_
  try simp only [Act.put, zA, zB, zC]
  refine TKC 3 7 rfl ?_
  try simp only [Act.put, zA, zB, zC]
  refine TKC 5 9 rfl ?_
  try simp only [Act.put, zA, zB, zC]
  refine TKC 6 10 rfl ?_
  try simp only [Act.put, zA, zB, zC]
  refine TKC 7 11 rfl ?_
  try simp only [Act.put, zA, zB, zC]
  refine TKY 8 12 rfl (yields_rowS (by kernel_rfl) _ _ rfl _ _ rfl _ _ (fun _ h => h) Tryz.underlying25 rfl (by show _ = some 6; exact info_msg)) ?_
  try simp only [Act.put, zA, zB, zC]
  refine ashare (fun (y : Option Addr × Nat) (a : Act) => (((((a.put (some 8) (.slice wA L.length wc)).put (some 13) (.slice (some ⟨w2.heap.size, 0, none⟩) 1 1)).put (some 14) (.slice y.1 (L.length + 1) y.2)).put (some 15) (.pointer (some ⟨g, 0, none⟩))).put (some 16) (.pointer (some ⟨g, 12, none⟩))).put none undef) (fun (y : Option Addr × Nat) (w' : World) => IBox w' g 81 (FdC F nx tk (.slice hA F.m.heads.length hc) (.slice bA F.m.body.length bc) (.slice y.1 (L.length + 1) y.2)) ∧ FdR base g { F with m := { F.m with heads := [], body := [] }, whole := F.whole ++ [F.m] } tk (.slice none 0 0) (.slice none 0 0) (.slice y.1 (L.length + 1) y.2) (L ++ [⟨F.m, .slice hA F.m.heads.length hc, .slice bA F.m.body.length bc⟩]) w' ∧ Bl base w w') (fun HT => ?_) ?_
  · refine wpAnyH_ready (rs := [4, 9]) (by kernel_rfl) (by simp) ?_
    refine AllReadyH.cons (o := ⟨some 8, _, _, _, _, _⟩) rfl (fun K hK => ?_) ?_
    · have cg : World.cell? _ ⟨g, 12, none⟩ = some (.slice wA L.length wc) := B.cell 12
      go_simp
      clear cg
      refine hK.out _ _ HS (fun hS2 => ?_)
      clear hK K hS2
      try simp only [Act.put, zA, zB, zC]
      refine wpAnyH_ready (rs := [9]) (by kernel_rfl) (by simp) ?_
      refine AllReadyH.cons (o := ⟨some 13, _, _, _, _, _⟩) rfl (fun K hK => ?_) AllReadyH.nil
      simp only [Region.wanted, if_true]
      refine op_slice_at 1 _ _ ie _ (by rw [i3]; exact msg_fill ⟨F.m, .slice hA F.m.heads.length hc, .slice bA F.m.body.length bc⟩) 39 25 _ rfl rfl rfl i1 i2 (by rw [i3]; decide) (by rw [i3]; decide) ?_
      intro w10 hw
      have hb := hid_grow hw
      have BN := (hid_alloc hw).1
      replace B := IBox.below B hb (IBox.lt B)
      replace HB := bl_add HB hb R
      replace R := R.below hb
      replace HS := HRN _ _ B
      clear hb hw
      refine hK.out _ _ HS (fun hS2 => ?_)
      clear hK K hS2
      try simp only [Act.put, zA, zB, zC]
      refine wpAnyH_ready (rs := [10]) (by kernel_rfl) (by simp) ?_
      refine AllReadyH.cons (o := ⟨some 14, _, _, _, _, _⟩) rfl (fun K hK => ?_) AllReadyH.nil
      simp only [Region.wanted, if_true]
      refine op_append_at _ _ 39 rfl base.n 25 ie _ 6 104 rfl i1 i2 i3 i4 rfl (by decide) (.slice wA L.length wc) L.length (mmsL L) rfl R.rw_ _ _ _ _ BN (by rfl) rfl (mm_one _ _ _ _ _ _ _) (by unfold maxLen; omega) (by omega) R.bl ?_
      intro g7 cap w11 HO2 hgrow hat hlt
      have hbe := Bes.grown (X := fun q => (Value.slice wA L.length wc).ownBlock = some q) hgrow (fun _ h => h)
      replace B := Bes.box hbe B (fun e => ((R.ap g).2.2.2 e).1 rfl)
      replace HB := HB.trans (Bl.bes hbe (fun k e => ⟨(own_in R.rw_ e).1, R.off k (.inr (.inr (.inr (.inr e))))⟩) R.bl R.avl)
      have RN := R.whole h64 h65 HO2 hbe (hat.elim (fun h => .inl h.symm) (fun h => .inr (congrArg some h)))
      replace HS := HRN _ _ B
      refine hK.out _ _ HS (fun hS2 => ?_)
      clear hK K hS2
      try simp only [Act.put, zA, zB, zC]
      refine TKC 11 15 rfl ?_
      try simp only [Act.put, zA, zB, zC]
      refine TKC 12 16 rfl ?_
      try simp only [Act.put, zA, zB, zC]
      refine wpAnyH_ready (rs := [13]) (by kernel_rfl) (by simp) ?_
      refine AllReadyH.cons (o := ⟨none, _, _, _, _, _⟩) rfl (fun K hK => ?_) AllReadyH.nil
      simp only [Region.wanted, if_true]
      refine op_store_cell 39 _ _ rfl g 12 rfl (.slice (some ⟨g7, 0, none⟩) (L.length + 1) cap) rfl _ _ B (show 12 < 16 by decide) one_sm rfl ?_
      intro w12 hw
      replace HB := HB.trans (RN.store hw)
      replace RN := RN.row (Bes.row (X := fun q => q = g) hw rfl)
      replace B := hid_row hw B
      simp only [FdC_12] at B
      clear hw
      replace HS := HRN _ _ B
      refine hK.out _ _ HS (fun hS2 => ?_)
      clear hK K hS2
      try simp only [Act.put, zA, zB, zC]
      refine wpAnyH_done (by kernel_rfl) ?_ _
      exact HT.out (some ⟨g7, 0, none⟩, cap) _ _ ⟨B, RN, HB⟩ (by kernel_rfl)
    refine AllReadyH.cons (o := ⟨some 13, _, _, _, _, _⟩) rfl (fun K hK => ?_) AllReadyH.nil
    simp only [Region.wanted, if_true]
    refine op_slice_at 1 _ _ ie _ (by rw [i3]; exact msg_fill ⟨F.m, .slice hA F.m.heads.length hc, .slice bA F.m.body.length bc⟩) 39 25 _ rfl rfl rfl i1 i2 (by rw [i3]; decide) (by rw [i3]; decide) ?_
    intro w10 hw
    have hb := hid_grow hw
    have BN := (hid_alloc hw).1
    replace B := IBox.below B hb (IBox.lt B)
    replace HB := bl_add HB hb R
    replace R := R.below hb
    replace HS := HRN _ _ B
    clear hb hw
    refine hK.out _ _ HS (fun hS2 => ?_)
    clear hK K hS2
    try simp only [Act.put, zA, zB, zC]
    refine wpAnyH_ready (rs := [4]) (by kernel_rfl) (by simp) ?_
    refine AllReadyH.cons (o := ⟨some 8, _, _, _, _, _⟩) rfl (fun K hK => ?_) AllReadyH.nil
    have cg : World.cell? _ ⟨g, 12, none⟩ = some (.slice wA L.length wc) := B.cell 12
    go_simp
    clear cg
    refine hK.out _ _ HS (fun hS2 => ?_)
    clear hK K hS2
    try simp only [Act.put, zA, zB, zC]
    refine wpAnyH_ready (rs := [10]) (by kernel_rfl) (by simp) ?_
    refine AllReadyH.cons (o := ⟨some 14, _, _, _, _, _⟩) rfl (fun K hK => ?_) AllReadyH.nil
    simp only [Region.wanted, if_true]
    refine op_append_at _ _ 39 rfl base.n 25 ie _ 6 104 rfl i1 i2 i3 i4 rfl (by decide) (.slice wA L.length wc) L.length (mmsL L) rfl R.rw_ _ _ _ _ BN (by rfl) rfl (mm_one _ _ _ _ _ _ _) (by unfold maxLen; omega) (by omega) R.bl ?_
    intro g7 cap w11 HO2 hgrow hat hlt
    have hbe := Bes.grown (X := fun q => (Value.slice wA L.length wc).ownBlock = some q) hgrow (fun _ h => h)
    replace B := Bes.box hbe B (fun e => ((R.ap g).2.2.2 e).1 rfl)
    replace HB := HB.trans (Bl.bes hbe (fun k e => ⟨(own_in R.rw_ e).1, R.off k (.inr (.inr (.inr (.inr e))))⟩) R.bl R.avl)
    have RN := R.whole h64 h65 HO2 hbe (hat.elim (fun h => .inl h.symm) (fun h => .inr (congrArg some h)))
    replace HS := HRN _ _ B
    refine hK.out _ _ HS (fun hS2 => ?_)
    clear hK K hS2
    try simp only [Act.put, zA, zB, zC]
    refine TKC 11 15 rfl ?_
    try simp only [Act.put, zA, zB, zC]
    refine TKC 12 16 rfl ?_
    try simp only [Act.put, zA, zB, zC]
    refine wpAnyH_ready (rs := [13]) (by kernel_rfl) (by simp) ?_
    refine AllReadyH.cons (o := ⟨none, _, _, _, _, _⟩) rfl (fun K hK => ?_) AllReadyH.nil
    simp only [Region.wanted, if_true]
    refine op_store_cell 39 _ _ rfl g 12 rfl (.slice (some ⟨g7, 0, none⟩) (L.length + 1) cap) rfl _ _ B (show 12 < 16 by decide) one_sm rfl ?_
    intro w12 hw
    replace HB := HB.trans (RN.store hw)
    replace RN := RN.row (Bes.row (X := fun q => q = g) hw rfl)
    replace B := hid_row hw B
    simp only [FdC_12] at B
    clear hw
    replace HS := HRN _ _ B
    refine hK.out _ _ HS (fun hS2 => ?_)
    clear hK K hS2
    try simp only [Act.put, zA, zB, zC]
    refine wpAnyH_done (by kernel_rfl) ?_ _
    exact HT.out (some ⟨g7, 0, none⟩, cap) _ _ ⟨B, RN, HB⟩ (by kernel_rfl)
  · rintro ⟨A7, cap⟩ w3 ⟨B3, RN, HB3⟩
    replace B3 : IBox w3 g 81 (FdC F nx tk (.slice hA F.m.heads.length hc) (.slice bA F.m.body.length bc) (.slice A7 (L.length + 1) cap)) := B3
    replace RN : FdR base g { F with m := { F.m with heads := [], body := [] }, whole := F.whole ++ [F.m] } tk (.slice none 0 0) (.slice none 0 0) (.slice A7 (L.length + 1) cap) (L ++ [⟨F.m, .slice hA F.m.heads.length hc, .slice bA F.m.body.length bc⟩]) w3 := RN
    have HM := begin_at (F := { F with m := { F.m with heads := [], body := [] }, whole := F.whole ++ [F.m] }) (M := F.m) B3 RN
    clear B R HB HS HRN B3
    go_wp2_with (go_at_call 42; (with_reducible refine HM.mono ?_); rintro e w4 ⟨rfl, hm, hb⟩; have c4 : w4.cell? ⟨g, 4, none⟩ = some (stepV F.end_.next) := hm.1.cell 4)
    go_ret2
    exact ⟨rfl, ⟨_, _, _, _, _, _, hm⟩, HB3.trans hb⟩
end Go.Proofs.YtbehakabglegjaaGreatDoor
