/- Layer 2: the document's examples come out (coveylaw02.shown). -/
import Derived.Test.YtjhncopbiblenaaDoorJrR
import Derived.Test.YtjhncopbiblenaaDoorJrS
import Derived.Test.YtjhncopbiblenaaDoorJrU
namespace Go.Proofs.YtjhncopbiblenaaDoor
open Go.RowKit Go.PlainAid
set_option linter.unusedVariables false
set_option linter.unusedSimpArgs false

/-- The world of the library's variables. -/
structure Wo (w : World) : Prop where
  gl : Gl w w.heap.size
  ty : ErrTy w
  lt : 0 < w.heap.size
theorem Wo.below {w w' : World} (h : Wo w) (hb : Below w.heap.size w w') : Wo w' :=
  ⟨(Gl.up (Gl.below hb h.gl) hb.size), h.ty.bes (Bes.of_below (X := fun _ => False) hb) (fun e => e), Nat.lt_of_lt_of_le h.lt hb.size⟩
abbrev T1l : List JT := [jInt 1, jInt 0, jText ⟨#[120, 195, 169]⟩]
abbrev T1 : JT := jObj ([⟨#[97]⟩], [jList T1l])
theorem tx1_any {w : World} (h : Wo w) : Calls Tryd.prog 10 #[.string ⟨#[32, 123, 34, 97, 34, 58, 91, 49, 44, 45, 48, 44, 34, 120, 92, 117, 48, 48, 101, 57, 34, 93, 125]⟩] w fun e w' => Below w.heap.size w w' ∧ ∃ j, e = .returned (.tuple #[.agg j.cells, .nilIface]) ∧ IsJV w' j ∧ er j = T1 := by
  refine (parse_any (s := tx1) h.gl (by decide)).mono ?_
  rintro e w' ⟨hb, h2⟩
  rw [if_neg (by decide), parse_tx1] at h2
  obtain ⟨j, h3, h4, h5, _⟩ := h2
  exact ⟨hb, j, h3, h4, h5⟩
theorem tx2_any {w : World} (h : Wo w) : Calls Tryd.prog 10 #[.string ⟨#[91, 49, 44, 93]⟩] w fun e w' => Below w.heap.size w w' ∧ ∃ g, e = .returned (.tuple #[.agg JV.zero.cells, .iface 49 (At g)]) ∧ IBox w' g 64 #[.int .i64 3, .iface 46 (.int .i64 3)] := by
  refine (parse_any (s := tx2) h.gl (by decide)).mono ?_
  rintro e w' ⟨hb, h2⟩
  rw [if_neg (by decide), parse_tx2] at h2
  exact ⟨hb, h2⟩
theorem tx3_any {w : World} (h : Wo w) : Calls Tryd.prog 10 #[.string ⟨#[57, 48, 48, 55, 49, 57, 57, 50, 53, 52, 55, 52, 48, 57, 57, 50]⟩] w fun e w' => Below w.heap.size w w' ∧ ∃ g, e = .returned (.tuple #[.agg JV.zero.cells, .iface 49 (At g)]) ∧ IBox w' g 64 #[.int .i64 0, .iface 46 (.int .i64 5)] := by
  refine (parse_any (s := tx3) h.gl (by decide)).mono ?_
  rintro e w' ⟨hb, h2⟩
  rw [if_neg (by decide), parse_tx3] at h2
  exact ⟨hb, h2⟩
theorem t1_field {w : World} {j : JV} (hj : IsJV w j) (he : er j = T1) : (fieldS j ⟨#[97]⟩).isSome = true ∧ IsJV w (fieldD j ⟨#[97]⟩) ∧ er (fieldD j ⟨#[97]⟩) = jList T1l := by
  refine ⟨?_, field_is hj _, ?_⟩
  all_goals
    obtain ⟨v, l, ns, vs⟩ := j
    unfold er at he
    unfold T1 jObj at he
    injection he with e1 e2 e3 e4 e5 e6 e7
    subst e6
    cases vs with
    | nil => unfold erL at e7; cases e7
    | cons x t =>
      unfold erL at e7
      injection e7 with e7 e8
      have hk : (v.kind == 5) = true := by rw [e1]; rfl
      have hf : fieldS (.mk v l [⟨#[97]⟩] (x :: t)) ⟨#[97]⟩ = some x := by
        unfold fieldS
        show (if (v.kind == 5) = true then _ else _) = _
        rw [if_pos hk]
        show (if ((⟨#[97]⟩ : ByteArray).toList == (⟨#[97]⟩ : ByteArray).toList) = true then some x else look [] t ⟨#[97]⟩) = some x
        exact if_pos (beq_self_eq_true _)
      first
        | (rw [hf]; rfl)
        | (unfold fieldD; rw [hf]; exact e7)
theorem t1_cells {w : World} {l : JV} (hl : IsJV w l) (he : er l = jList T1l) : ∃ bl off, l.v.LA = some ⟨bl, off, none⟩ ∧ l.v.Ln = 3 ∧ w.cell? ⟨bl, off + 2, none⟩ = some (.int .i64 1) ∧ w.cell? ⟨bl, off + 15, none⟩ = some (.string ⟨#[120, 195, 169]⟩) := by
  have hL : erL l.l = T1l := by
    obtain ⟨v, l', ns, vs⟩ := l
    unfold er at he
    unfold jList at he
    injection he
  have hlen : l.l.length = 3 := by rw [← erL_len, hL]; rfl
  obtain ⟨l1, _⟩ := jv_lens hl
  obtain ⟨bl, off, x, hA, hx, RX, _⟩ := jv_elem hl (i := 0) (by omega)
  obtain ⟨bl2, off2, y, hA2, hy, RY, _⟩ := jv_elem hl (i := 2) (by omega)
  rw [hA] at hA2
  injection hA2 with e
  injection e with e1 e2 _
  subst e1 e2
  match hq : l.l, hlen with
  | [a, b, c], _ =>
    rw [hq] at hL hx hy
    injection hx with hx
    injection hy with hy
    subst hx hy
    unfold erL at hL
    injection hL with ha hL
    unfold erL at hL
    injection hL with hb hL
    unfold erL at hL
    injection hL with hc hL
    have h1 := RX 2 (.int .i64 a.v.i) (by simp [JV.cells, VM.cells])
    have h2 := RY 3 (.string c.v.t) (by simp [JV.cells, VM.cells])
    have ea : a.v.i = 1 := by
      obtain ⟨v, _, _, _⟩ := a
      unfold er jInt at ha
      injection ha
    have ec : c.v.t = ⟨#[120, 195, 169]⟩ := by
      obtain ⟨v, _, _, _⟩ := c
      unfold er jText at hc
      injection hc
    rw [ea] at h1
    rw [ec] at h2
    exact ⟨bl, off, hA, by rw [l1, hq]; rfl, by simpa using h1, by simpa [Nat.add_assoc] using h2⟩
set_option maxRecDepth 10000 in
set_option maxHeartbeats 8000000 in
theorem shown_any {w : World} (h : Wo w) : Calls Tryd.prog 6 #[] w fun e w' => e = .returned (.bool true) ∧ Below w.heap.size w w' := by
  have HB := Below.refl w.heap.size w
  have HW := h
  go_enter Tryd.func6, Tryd.ntmps6
  go_wp2_with (first
    | (go_at_call 10; (with_reducible refine (tx1_any HW).mono ?_); rintro e w1 ⟨hb, j, rfl, hj, he⟩; replace HB := HB.trans (hb.mono HB.size); replace HW := HW.below hb; clear hb)
    | (refine wpl_newbox 1 rfl rfl 25 rfl rfl (.tmp 13) rfl _ zeroV j.cells rfl rfl info_value rfl (jv_one _) ?_; intro w7 hw; have hb := hid_grow hw; have BX := (hid_alloc hw).1; clear hw; (try replace hj := IsJV.below hb hj); (try replace hl := IsJV.below hb hl); (try replace B1 := IBox.below B1 hb (IBox.lt B1)); (try replace c3_4 := cell_below hb c3_4); (try replace ca := cell_below hb ca); (try replace cb := cell_below hb cb); (try replace hg2 := IBox.below hg2 hb (IBox.lt hg2)); (try replace hg3 := IBox.below hg3 hb (IBox.lt hg3)); replace HB := HB.trans (hb.mono HB.size); replace HW := HW.below hb; clear hb; have B1 := BX; clear BX)
    | ((with_reducible refine is_load ?_); refine wpl_load_box rfl 25 (.tmp 1) rfl _ rfl _ _ _ B1 Tryd.underlying25 rfl info_value ?_)
    | (go_at_call 7; (obtain ⟨hs, hl, hle⟩ := t1_field hj he); (with_reducible refine (get_any j _ _ hj).mono ?_); rintro e w2 ⟨rfl, hb⟩; rw [hs]; (try replace hj := IsJV.below hb hj); (try replace hl := IsJV.below hb hl); (try replace B1 := IBox.below B1 hb (IBox.lt B1)); (try replace c3_4 := cell_below hb c3_4); (try replace ca := cell_below hb ca); (try replace cb := cell_below hb cb); (try replace hg2 := IBox.below hg2 hb (IBox.lt hg2)); (try replace hg3 := IBox.below hg3 hb (IBox.lt hg3)); replace HB := HB.trans (hb.mono HB.size); replace HW := HW.below hb; clear hb)
    | (refine wpl_newbox 3 rfl rfl 25 rfl rfl (.tmp 18) rfl _ zeroV (fieldD j ⟨#[97]⟩).cells rfl rfl info_value rfl (jv_one _) ?_; intro w7 hw; have hb := hid_grow hw; have BX := (hid_alloc hw).1; clear hw; (try replace hj := IsJV.below hb hj); (try replace hl := IsJV.below hb hl); (try replace B1 := IBox.below B1 hb (IBox.lt B1)); (try replace c3_4 := cell_below hb c3_4); (try replace ca := cell_below hb ca); (try replace cb := cell_below hb cb); (try replace hg2 := IBox.below hg2 hb (IBox.lt hg2)); (try replace hg3 := IBox.below hg3 hb (IBox.lt hg3)); replace HB := HB.trans (hb.mono HB.size); replace HW := HW.below hb; clear hb; have c3_4 := IBox.cell BX 4; obtain ⟨bl, off, hA, hN, ca, cb⟩ := t1_cells hl hle; replace c3_4 : w7.cell? _ = some (.slice (some ⟨bl, off, none⟩) 3 (fieldD j ⟨#[97]⟩).v.Lc) := (by rw [← hA, ← hN]; exact c3_4); clear BX hA hN hl hle)
    | (go_at_call 10; (with_reducible refine (tx2_any HW).mono ?_); rintro e w3 ⟨hb, g2, rfl, hg2⟩; (try replace hj := IsJV.below hb hj); (try replace hl := IsJV.below hb hl); (try replace B1 := IBox.below B1 hb (IBox.lt B1)); (try replace c3_4 := cell_below hb c3_4); (try replace ca := cell_below hb ca); (try replace cb := cell_below hb cb); (try replace hg2 := IBox.below hg2 hb (IBox.lt hg2)); (try replace hg3 := IBox.below hg3 hb (IBox.lt hg3)); replace HB := HB.trans (hb.mono HB.size); replace HW := HW.below hb; clear hb)
    | (refine wpl_newbox 5 rfl rfl 25 rfl rfl (.tmp 22) rfl _ zeroV JV.zero.cells rfl rfl info_value rfl (jv_one _) ?_; intro w7 hw; have hb := hid_grow hw; have BX := (hid_alloc hw).1; clear hw; (try replace hj := IsJV.below hb hj); (try replace hl := IsJV.below hb hl); (try replace B1 := IBox.below B1 hb (IBox.lt B1)); (try replace c3_4 := cell_below hb c3_4); (try replace ca := cell_below hb ca); (try replace cb := cell_below hb cb); (try replace hg2 := IBox.below hg2 hb (IBox.lt hg2)); (try replace hg3 := IBox.below hg3 hb (IBox.lt hg3)); replace HB := HB.trans (hb.mono HB.size); replace HW := HW.below hb; clear hb; clear BX)
    | (go_at_call 10; (with_reducible refine (tx3_any HW).mono ?_); rintro e w4 ⟨hb, g3, rfl, hg3⟩; (try replace hj := IsJV.below hb hj); (try replace hl := IsJV.below hb hl); (try replace B1 := IBox.below B1 hb (IBox.lt B1)); (try replace c3_4 := cell_below hb c3_4); (try replace ca := cell_below hb ca); (try replace cb := cell_below hb cb); (try replace hg2 := IBox.below hg2 hb (IBox.lt hg2)); (try replace hg3 := IBox.below hg3 hb (IBox.lt hg3)); replace HB := HB.trans (hb.mono HB.size); replace HW := HW.below hb; clear hb)
    | (refine wpl_newbox 7 rfl rfl 25 rfl rfl (.tmp 26) rfl _ zeroV JV.zero.cells rfl rfl info_value rfl (jv_one _) ?_; intro w7 hw; have hb := hid_grow hw; have BX := (hid_alloc hw).1; clear hw; (try replace hj := IsJV.below hb hj); (try replace hl := IsJV.below hb hl); (try replace B1 := IBox.below B1 hb (IBox.lt B1)); (try replace c3_4 := cell_below hb c3_4); (try replace ca := cell_below hb ca); (try replace cb := cell_below hb cb); (try replace hg2 := IBox.below hg2 hb (IBox.lt hg2)); (try replace hg3 := IBox.below hg3 hb (IBox.lt hg3)); replace HB := HB.trans (hb.mono HB.size); replace HW := HW.below hb; clear hb; clear BX)
    | (go_at_call 15; (with_reducible refine (fault_is HW.ty HW.lt hg2).mono ?_); rintro e w5 ⟨rfl, hb⟩; (try replace hj := IsJV.below hb hj); (try replace hl := IsJV.below hb hl); (try replace B1 := IBox.below B1 hb (IBox.lt B1)); (try replace c3_4 := cell_below hb c3_4); (try replace ca := cell_below hb ca); (try replace cb := cell_below hb cb); (try replace hg2 := IBox.below hg2 hb (IBox.lt hg2)); (try replace hg3 := IBox.below hg3 hb (IBox.lt hg3)); replace HB := HB.trans (hb.mono HB.size); replace HW := HW.below hb; clear hb)
    | (go_at_call 15; (with_reducible refine (fault_is HW.ty HW.lt hg3).mono ?_); rintro e w6 ⟨rfl, hb⟩; (try replace hj := IsJV.below hb hj); (try replace hl := IsJV.below hb hl); (try replace B1 := IBox.below B1 hb (IBox.lt B1)); (try replace c3_4 := cell_below hb c3_4); (try replace ca := cell_below hb ca); (try replace cb := cell_below hb cb); (try replace hg2 := IBox.below hg2 hb (IBox.lt hg2)); (try replace hg3 := IBox.below hg3 hb (IBox.lt hg3)); replace HB := HB.trans (hb.mono HB.size); replace HW := HW.below hb; clear hb))
  go_ret
  exact ⟨rfl, HB⟩
end Go.Proofs.YtjhncopbiblenaaDoor
