/- Layer 2: the value of a name, in the program. -/
import Derived.Test.YtmiphbjpcbfaeaaDoorJrN
namespace Go.Proofs.YtmiphbjpcbfaeaaDoor
open Go.RowKit Go.PlainAid
set_option linter.unusedVariables false
set_option linter.unusedSimpArgs false

theorem below_alloc2 (w : World) (o o' : Obj) : Below w.heap.size w ((w.alloc o).alloc o') := ((Below.refl _ _).alloc (Nat.le_refl _) _).alloc (by simp) _

set_option maxHeartbeats 1000000 in
theorem get_any (j : JV) (name : ByteArray) (w : World) (hj : IsJV w j) :
    Calls Tryd.prog 9 #[.agg j.cells, .string name] w fun e w' => e = .returned (.tuple #[.agg (fieldD j name).cells, .bool (fieldS j name).isSome]) ∧ Below w.heap.size w w' := by
  obtain ⟨v, l, ns, vs⟩ := j
  obtain ⟨kind, b, i, t, LA, Ln, Lc, FA, Fn, Fc⟩ := v
  have hj' := hj
  unfold IsJV at hj'
  obtain ⟨⟨q1, q2, q3, q4, hFn, hns, q5, hFb, hnames⟩, q6, hrow⟩ := hj'
  clear q1 q2 q3 q4 q5 q6
  simp only at hFn hFb hnames hrow
  show Calls Tryd.prog 9 #[.agg #[.int .i64 kind, .bool b, .int .i64 i, .string t, .slice LA Ln Lc, .slice FA Fn Fc], .string name] w _
  have hF : Fn ≤ 9223372036854775807 := by unfold reach at hFb; omega
  cases hk : (kind == 5)
  · have hz : fieldS (.mk ⟨kind, b, i, t, LA, Ln, Lc, FA, Fn, Fc⟩ l ns vs) name = none := by
      unfold fieldS; show (if (kind == 5) = true then _ else _) = _; rw [hk]; rfl
    have hz2 : fieldD (.mk ⟨kind, b, i, t, LA, Ln, Lc, FA, Fn, Fc⟩ l ns vs) name = JV.zero := by unfold fieldD; rw [hz]; rfl
    rw [hz, hz2]
    clear hz hz2 hj hnames hrow hFn hns hFb
    go_enter Tryd.func9, Tryd.ntmps9
    go_wp2
    go_returns
    exact ⟨rfl, by go_grown⟩
  · have hz : fieldS (.mk ⟨kind, b, i, t, LA, Ln, Lc, FA, Fn, Fc⟩ l ns vs) name = look ns vs name := by
      unfold fieldS; show (if (kind == 5) = true then _ else _) = _; rw [hk]; rfl
    have hz2 : fieldD (.mk ⟨kind, b, i, t, LA, Ln, Lc, FA, Fn, Fc⟩ l ns vs) name = (look ns vs name).getD JV.zero := by unfold fieldD; rw [hz]
    rw [hz, hz2]
    have HN := Lib.hid hnames
    have HR := Lib.hid hrow
    have HL := Lib.hid hns
    have HF := Lib.hid hFn
    clear hz hz2 hj hnames hrow hFn hns hFb
    go_enter Tryd.func9, Tryd.ntmps9
    go_wp2
    go_loopw [14] (fun i wr => ∃ k : Nat, k ≤ Fn ∧ i = .int .i64 k ∧ IBox wr (w.heap.size + 1) 25 JV.zero.cells ∧ w.heap.size + 1 < wr.heap.size ∧ Below w.heap.size w wr ∧ Hid (look ns vs name = look (ns.drop k) (vs.drop k) name)) (fun i _ => Fn - (intOf i).toNat)
    case atStart => exact ⟨0, Nat.zero_le _, rfl, (heap_alloc2_new _ _ _), by simp, below_alloc2 _ _ _, rfl⟩
    case round =>
      obtain ⟨k, hk, rfl, hbox, hsz, hbel, HLK⟩ := hrel
      have HB := Lib.hid hbox
      have HBL := Lib.hid hbel
      clear hbox hbel
      by_cases hlt : k < Fn
      · have hkv : k < vs.length := by rw [← HF.out]; exact hlt
        have hkn : k < ns.length := by rw [HL.out]; exact hkv
        have en : ns[k]? = some (ns[k]) := List.getElem?_eq_getElem hkn
        have ex : vs[k]? = some (vs[k]) := List.getElem?_eq_getElem hkv
        have hld := look_drop (name := name) en ex
        obtain ⟨bl, off, hFA, hfc⟩ := field_cells HN.out HR.out en ex
        generalize ns[k] = n at hld hfc
        generalize vs[k] = x at hld hfc
        subst hFA
        obtain ⟨c0, c1, c2, c3, c4, c5, c6⟩ := hfc.below HBL.out
        cases he : (n.toList == name.toList)
        · rw [he] at hld
          have HLD := Lib.hid hld
          clear hld en ex hfc
          go_wp2_with fail
          go_roundw
          case rel => exact ⟨k + 1, by omega, by go_num, HB.out.alloc _, by simp; omega, HBL.out.alloc HBL.out.size _, HLK.out.trans HLD.out⟩
          case measure => simp [intOf]; omega
        · rw [he] at hld
          have hfin : look ns vs name = some x := HLK.out.trans hld
          have HFI := Lib.hid hfin
          clear hld en ex hfc hfin
          go_wp2_with (refine wpl_store_row rfl 25 (.tmp 4) (.tmp 23) rfl (w.heap.size + 1) _ rfl rfl 25 _ ((heap_alloc_old _ _ hsz).trans HB.out) info_value rfl (by simp [Value.oneCell']) ?_)
          exact bodyPost_ret (results_box_tmp rfl _ _ (w.heap.size + 1) 25 x.cells _ rfl (IBox.row (HB.out.alloc _) _) Tryd.underlying25 rfl info_value) rfl ⟨by rw [HFI.out]; rfl, below_setRow (HBL.out.alloc HBL.out.size _) (by omega) _⟩
      · obtain rfl : k = Fn := by omega
        have hfin : look ns vs name = none := by
          rw [HLK.out, List.drop_eq_nil_of_le (Nat.le_of_eq (by rw [HL.out, HF.out]))]
          rfl
        have HFI := Lib.hid hfin
        clear hfin
        go_wp2_with (refine wpl_store_row rfl 25 (.tmp 4) (.tmp 25) rfl (w.heap.size + 1) _ rfl rfl 25 _ HB.out info_value rfl (by simp [Value.oneCell']) ?_)
        exact bodyPost_ret (results_box_tmp rfl _ _ (w.heap.size + 1) 25 JV.zero.cells _ rfl (IBox.row HB.out _) Tryd.underlying25 rfl info_value) rfl ⟨by rw [HFI.out]; rfl, below_setRow HBL.out (by omega) _⟩

end Go.Proofs.YtmiphbjpcbfaeaaDoor
