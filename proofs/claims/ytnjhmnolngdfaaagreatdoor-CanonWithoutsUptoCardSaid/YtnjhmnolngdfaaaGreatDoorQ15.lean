/- Layer 2: a text told (coveyref02.quoted), walked. -/
import Derived.Test.YtnjhmnolngdfaaaGreatDoorQ14
import Derived.Test.YtnjhmnolngdfaaaGreatDoorQ01
import Derived.Test.YtnjhmnolngdfaaaGreatDoorQZip
namespace Go.Proofs.YtnjhmnolngdfaaaGreatDoor
open Go.RowKit Go.PlainAid
set_option linter.unusedVariables false
set_option linter.unusedSimpArgs false
theorem quoB_take (t : ByteArray) (k : Nat) (hk : k < t.size) : quoB (t.data.toList.take (k + 1)) = quoB (t.data.toList.take k) ++ qb t[k] := by
  have hl : k < t.data.toList.length := by simpa using hk
  rw [List.take_succ_eq_append_getElem hl, quoB_app]
  congr 1
  unfold quoB
  simp
  rfl
theorem quoB_len (l : List UInt8) : (quoB l).length ≤ 6 * l.length := by
  induction l with
  | nil => simp [quoB]
  | cons c r ih =>
    have h6 : (qb c).length ≤ 6 := by unfold qb; repeat' split
                                      all_goals simp
    unfold quoB at *
    rw [List.flatMap_cons, List.length_append, List.length_cons]
    omega
/-- What a call that adds bytes to a row leaves. -/
def AddB (base : Nat) (l : List UInt8) (w : World) (e : Ending) (w' : World) : Prop := ∃ v, e = .returned v ∧ OwnB w' base v l ∧ KB base w w'
theorem AddB.of {base : Nat} {l m : List UInt8} {w w' : World} {v : Value} (h : OwnB w' base v l) (hm : m = l) (hB : KB base w w') : AddB base m w (.returned v) w' := by subst hm; exact ⟨v, rfl, h, hB⟩
def HS : ByteArray := ⟨#[48, 49, 50, 51, 52, 53, 54, 55, 56, 57, 97, 98, 99, 100, 101, 102]⟩
theorem hs_index (x : Int) (f : Sem Value) (w : World) (h0 : 0 ≤ x) (h1 : x < 16) : ((if h : 0 ≤ x ∧ x < 16 then Result.ok (Value.int .u8 ((HS[x.toNat]'(by show _ < 16; omega)).toNat : Int)) w else f.run Tryz.prog w).andThen fun a w' => Result.ok (Next.value a) w') = Result.ok (Next.value (.int .u8 (bt HS x.toNat))) w := by
  rw [dif_pos ⟨h0, h1⟩, get_bt HS]
  rfl
theorem hs_bt : ∀ d : Nat, d < 16 → bt HS d = ((hx d).toNat : Int) := by decide
set_option maxRecDepth 10000 in
set_option maxHeartbeats 8000000 in
theorem quoted_any {base : Nat} {v : Value} {l : List UInt8} {t : ByteArray} {w : World} (HO : OwnB w base v l) (hbase : base ≤ w.heap.size) (hl : l.length + 6 * t.size + 2 ≤ 70368744177664) :
    Calls Tryz.prog 63 #[v, .string t] w (AddB base (l ++ quo t) w) := by
  obtain ⟨ie, hie1, hie2, hie3, hie4⟩ := u8_info
  have hbs := get_bt t
  have HB := KB.refl hbase
  have hbz := hbase
  have hbz0 := hbase
  go_enter Tryz.func63, Tryz.ntmps63
  go_wp2_with (first
    | ((with_reducible refine is_slice ?_); refine wpl_slice_at 1 [(0, .int .u8 34)] #[.int .u8 34] ie _ (by rw [hie3]; exact bfill1 _) rfl 46 5 _ rfl rfl Tryz.underlying46 hie1 hie2 (by rw [hie3]; decide) (by rw [hie3]; decide) ?_; intro w9 hw; have hb := hid_grow hw; have B9 := (hid_alloc hw).1; clear hw; replace HO := HO.below hb; replace HB := HB.trans (KB.of hb hbz); clear hb; replace hbz := HB.up hbz0)
    | (refine wpl_append_bytesK rfl (.tmp 7) (.tmp 8) 46 rfl Tryz.underlying46 base _ l rfl HO _ _ [34] 1 rfl rfl (IBox.cells B9 (by rfl)) (by simp; omega) hbz ?_; intro v10 w10 ho10 hbb10; replace HO := ho10; replace HB := HB.trans hbb10; clear ho10 hbb10 B9; replace hbz := HB.up hbz0))
  go_loopw [0, 5] (fun bv iv wr => ∃ (k : Nat) (v1 : Value) (l1 : List UInt8), v1 = bv ∧ iv = .int .i64 k ∧ k ≤ t.size ∧ OwnB wr base v1 l1 ∧ Hid (l1 = l ++ 34 :: quoB (t.data.toList.take k)) ∧ KB base w wr) (fun _ iv _ => t.size - (intOf iv).toNat)
  case atStart => exact ⟨0, _, l ++ [34], rfl, rfl, Nat.zero_le _, HO, Lib.hid (by simp [quoB]), HB⟩
  case round =>
    clear HO HB hbz
    obtain ⟨k, v1, l1, rfl, rfl, hk, HO, HL, HB⟩ := hrel
    have hbz := HB.up hbz0
    have hl1 : l1.length ≤ l.length + 1 + 6 * k := by
      rw [HL.out, List.length_append, List.length_cons]
      have := quoB_len (t.data.toList.take k)
      rw [List.length_take] at this
      omega
    by_cases hlt : k < t.size
    · have hlt' : (k : Int) < (t.size : Int) := by omega
      have hk0 : ¬ (k : Int) < 0 := by omega
      have b0 := bt_nonneg t k
      have b1 := bt_le t k
      have hqt := quoB_take t k hlt
      obtain ⟨c, hc⟩ : ∃ c, c = t[k] := ⟨_, rfl⟩
      have hcb : bt t k = (c.toNat : Int) := by rw [hc, ← get_bt t k hlt]
      rw [← hc] at hqt
      have HC := Lib.hid hcb
      have HQ : Hid (l1 ++ qb c = l ++ 34 :: quoB (t.data.toList.take (k + 1))) := Lib.hid (by rw [hqt, HL.out]; simp)
      clear hqt hc
      by_cases h1 : bt t k = 34 ∨ bt t k = 92
      · have HQB : Hid (qb c = [92, c]) := Lib.hid (by unfold qb; rw [if_pos (by omega)])
        have hcell : (#[.int .u8 92, .int .u8 (bt t k)] : Array Value).toList = Lib.byteCells [92, c] := by rw [hcb]; rfl
        rcases h1 with h1 | h1
        · have q34 : (bt t k == 34) = true := by rw [h1]; rfl
          have q92 : (bt t k == 92) = false := by rw [h1]; rfl
          clear h1 hcb
          go_wp2_with (first
            | ((with_reducible refine is_slice ?_); refine wpl_slice_at 2 [(0, .int .u8 92), (1, .int .u8 (bt t k))] #[.int .u8 92, .int .u8 (bt t k)] ie _ (by rw [hie3]; exact bfill2 _ _) rfl 46 5 _ rfl rfl Tryz.underlying46 hie1 hie2 (by rw [hie3]; decide) (by rw [hie3]; decide) ?_; intro w9 hw; have hb := hid_grow hw; have B9 := (hid_alloc hw).1; clear hw; replace HO := HO.below hb; replace HB := HB.trans (KB.of hb hbz); clear hb; replace hbz := HB.up hbz0)
            | (refine wpl_append_bytesK rfl (.tmp 30) (.tmp 32) 46 rfl Tryz.underlying46 base _ l1 rfl HO _ _ [92, c] 2 rfl rfl (IBox.cells B9 (by exact hcell)) (by simp; omega) hbz ?_; intro v10 w10 ho10 hbb10; replace HO := ho10; replace HB := HB.trans hbb10; clear ho10 hbb10 B9; replace hbz := HB.up hbz0))
          go_roundw
          case rel => exact ⟨k + 1, _, _, rfl, by go_num, by omega, HO, Lib.hid (by rw [← HQ.out, HQB.out]), HB⟩
          case measure => simp [intOf]; omega
        · have q34 : (bt t k == 34) = false := by rw [h1]; rfl
          have q92 : (bt t k == 92) = true := by rw [h1]; rfl
          clear h1 hcb
          go_wp2_with (first
            | ((with_reducible refine is_slice ?_); refine wpl_slice_at 2 [(0, .int .u8 92), (1, .int .u8 (bt t k))] #[.int .u8 92, .int .u8 (bt t k)] ie _ (by rw [hie3]; exact bfill2 _ _) rfl 46 5 _ rfl rfl Tryz.underlying46 hie1 hie2 (by rw [hie3]; decide) (by rw [hie3]; decide) ?_; intro w9 hw; have hb := hid_grow hw; have B9 := (hid_alloc hw).1; clear hw; replace HO := HO.below hb; replace HB := HB.trans (KB.of hb hbz); clear hb; replace hbz := HB.up hbz0)
            | (refine wpl_append_bytesK rfl (.tmp 30) (.tmp 32) 46 rfl Tryz.underlying46 base _ l1 rfl HO _ _ [92, c] 2 rfl rfl (IBox.cells B9 (by exact hcell)) (by simp; omega) hbz ?_; intro v10 w10 ho10 hbb10; replace HO := ho10; replace HB := HB.trans hbb10; clear ho10 hbb10 B9; replace hbz := HB.up hbz0))
          go_roundw
          case rel => exact ⟨k + 1, _, _, rfl, by go_num, by omega, HO, Lib.hid (by rw [← HQ.out, HQB.out]), HB⟩
          case measure => simp [intOf]; omega
      · have q34 : (bt t k == 34) = false := by simp; omega
        have q92 : (bt t k == 92) = false := by simp; omega
        by_cases h8 : bt t k = 8
        · have HQB : Hid (qb c = [92, 98]) := Lib.hid (by unfold qb; rw [if_neg (by omega), if_pos (by omega)])
          have q8 : (bt t k == 8) = true := by rw [h8]; rfl
          clear hcb h1 h8
          go_wp2_with (first
            | ((with_reducible refine is_slice ?_); refine wpl_slice_at 2 [(0, .int .u8 92), (1, .int .u8 98)] #[.int .u8 92, .int .u8 98] ie _ (by rw [hie3]; exact bfill2 _ _) rfl 46 5 _ rfl rfl Tryz.underlying46 hie1 hie2 (by rw [hie3]; decide) (by rw [hie3]; decide) ?_; intro w9 hw; have hb := hid_grow hw; have B9 := (hid_alloc hw).1; clear hw; replace HO := HO.below hb; replace HB := HB.trans (KB.of hb hbz); clear hb; replace hbz := HB.up hbz0)
            | (refine wpl_append_bytesK rfl (.tmp 37) (.tmp 38) 46 rfl Tryz.underlying46 base _ l1 rfl HO _ _ [92, 98] 2 rfl rfl (IBox.cells B9 (by rfl)) (by simp; omega) hbz ?_; intro v10 w10 ho10 hbb10; replace HO := ho10; replace HB := HB.trans hbb10; clear ho10 hbb10 B9; replace hbz := HB.up hbz0))
          go_roundw
          case rel => exact ⟨k + 1, _, _, rfl, by go_num, by omega, HO, Lib.hid (by rw [← HQ.out, HQB.out]), HB⟩
          case measure => simp [intOf]; omega
        · have q8 : (bt t k == 8) = false := by simpa using h8
          by_cases h9 : bt t k = 9
          · have HQB : Hid (qb c = [92, 116]) := Lib.hid (by unfold qb; rw [if_neg (by omega), if_neg (by omega), if_pos (by omega)])
            have q9 : (bt t k == 9) = true := by rw [h9]; rfl
            clear hcb h1 h8 h9
            go_wp2_with (first
              | ((with_reducible refine is_slice ?_); refine wpl_slice_at 2 [(0, .int .u8 92), (1, .int .u8 116)] #[.int .u8 92, .int .u8 116] ie _ (by rw [hie3]; exact bfill2 _ _) rfl 46 5 _ rfl rfl Tryz.underlying46 hie1 hie2 (by rw [hie3]; decide) (by rw [hie3]; decide) ?_; intro w9 hw; have hb := hid_grow hw; have B9 := (hid_alloc hw).1; clear hw; replace HO := HO.below hb; replace HB := HB.trans (KB.of hb hbz); clear hb; replace hbz := HB.up hbz0)
              | (refine wpl_append_bytesK rfl (.tmp 43) (.tmp 44) 46 rfl Tryz.underlying46 base _ l1 rfl HO _ _ [92, 116] 2 rfl rfl (IBox.cells B9 (by rfl)) (by simp; omega) hbz ?_; intro v10 w10 ho10 hbb10; replace HO := ho10; replace HB := HB.trans hbb10; clear ho10 hbb10 B9; replace hbz := HB.up hbz0))
            go_roundw
            case rel => exact ⟨k + 1, _, _, rfl, by go_num, by omega, HO, Lib.hid (by rw [← HQ.out, HQB.out]), HB⟩
            case measure => simp [intOf]; omega
          · have q9 : (bt t k == 9) = false := by simpa using h9
            by_cases h10 : bt t k = 10
            · have HQB : Hid (qb c = [92, 110]) := Lib.hid (by unfold qb; rw [if_neg (by omega), if_neg (by omega), if_neg (by omega), if_pos (by omega)])
              have q10 : (bt t k == 10) = true := by rw [h10]; rfl
              clear hcb h1 h8 h9 h10
              go_wp2_with (first
                | ((with_reducible refine is_slice ?_); refine wpl_slice_at 2 [(0, .int .u8 92), (1, .int .u8 110)] #[.int .u8 92, .int .u8 110] ie _ (by rw [hie3]; exact bfill2 _ _) rfl 46 5 _ rfl rfl Tryz.underlying46 hie1 hie2 (by rw [hie3]; decide) (by rw [hie3]; decide) ?_; intro w9 hw; have hb := hid_grow hw; have B9 := (hid_alloc hw).1; clear hw; replace HO := HO.below hb; replace HB := HB.trans (KB.of hb hbz); clear hb; replace hbz := HB.up hbz0)
                | (refine wpl_append_bytesK rfl (.tmp 49) (.tmp 50) 46 rfl Tryz.underlying46 base _ l1 rfl HO _ _ [92, 110] 2 rfl rfl (IBox.cells B9 (by rfl)) (by simp; omega) hbz ?_; intro v10 w10 ho10 hbb10; replace HO := ho10; replace HB := HB.trans hbb10; clear ho10 hbb10 B9; replace hbz := HB.up hbz0))
              go_roundw
              case rel => exact ⟨k + 1, _, _, rfl, by go_num, by omega, HO, Lib.hid (by rw [← HQ.out, HQB.out]), HB⟩
              case measure => simp [intOf]; omega
            · have q10 : (bt t k == 10) = false := by simpa using h10
              by_cases h12 : bt t k = 12
              · have HQB : Hid (qb c = [92, 102]) := Lib.hid (by unfold qb; rw [if_neg (by omega), if_neg (by omega), if_neg (by omega), if_neg (by omega), if_pos (by omega)])
                have q12 : (bt t k == 12) = true := by rw [h12]; rfl
                clear hcb h1 h8 h9 h10 h12
                go_wp2_with (first
                  | ((with_reducible refine is_slice ?_); refine wpl_slice_at 2 [(0, .int .u8 92), (1, .int .u8 102)] #[.int .u8 92, .int .u8 102] ie _ (by rw [hie3]; exact bfill2 _ _) rfl 46 5 _ rfl rfl Tryz.underlying46 hie1 hie2 (by rw [hie3]; decide) (by rw [hie3]; decide) ?_; intro w9 hw; have hb := hid_grow hw; have B9 := (hid_alloc hw).1; clear hw; replace HO := HO.below hb; replace HB := HB.trans (KB.of hb hbz); clear hb; replace hbz := HB.up hbz0)
                  | (refine wpl_append_bytesK rfl (.tmp 55) (.tmp 56) 46 rfl Tryz.underlying46 base _ l1 rfl HO _ _ [92, 102] 2 rfl rfl (IBox.cells B9 (by rfl)) (by simp; omega) hbz ?_; intro v10 w10 ho10 hbb10; replace HO := ho10; replace HB := HB.trans hbb10; clear ho10 hbb10 B9; replace hbz := HB.up hbz0))
                go_roundw
                case rel => exact ⟨k + 1, _, _, rfl, by go_num, by omega, HO, Lib.hid (by rw [← HQ.out, HQB.out]), HB⟩
                case measure => simp [intOf]; omega
              · have q12 : (bt t k == 12) = false := by simpa using h12
                by_cases h13 : bt t k = 13
                · have HQB : Hid (qb c = [92, 114]) := Lib.hid (by unfold qb; rw [if_neg (by omega), if_neg (by omega), if_neg (by omega), if_neg (by omega), if_neg (by omega), if_pos (by omega)])
                  have q13 : (bt t k == 13) = true := by rw [h13]; rfl
                  clear hcb h1 h8 h9 h10 h12 h13
                  go_wp2_with (first
                    | ((with_reducible refine is_slice ?_); refine wpl_slice_at 2 [(0, .int .u8 92), (1, .int .u8 114)] #[.int .u8 92, .int .u8 114] ie _ (by rw [hie3]; exact bfill2 _ _) rfl 46 5 _ rfl rfl Tryz.underlying46 hie1 hie2 (by rw [hie3]; decide) (by rw [hie3]; decide) ?_; intro w9 hw; have hb := hid_grow hw; have B9 := (hid_alloc hw).1; clear hw; replace HO := HO.below hb; replace HB := HB.trans (KB.of hb hbz); clear hb; replace hbz := HB.up hbz0)
                    | (refine wpl_append_bytesK rfl (.tmp 61) (.tmp 62) 46 rfl Tryz.underlying46 base _ l1 rfl HO _ _ [92, 114] 2 rfl rfl (IBox.cells B9 (by rfl)) (by simp; omega) hbz ?_; intro v10 w10 ho10 hbb10; replace HO := ho10; replace HB := HB.trans hbb10; clear ho10 hbb10 B9; replace hbz := HB.up hbz0))
                  go_roundw
                  case rel => exact ⟨k + 1, _, _, rfl, by go_num, by omega, HO, Lib.hid (by rw [← HQ.out, HQB.out]), HB⟩
                  case measure => simp [intOf]; omega
                · have q13 : (bt t k == 13) = false := by simpa using h13
                  by_cases h32 : bt t k < 32
                  · have HQB : Hid (qb c = [92, 117, 48, 48, hx (c.toNat / 16), hx (c.toNat % 16)]) := Lib.hid (by unfold qb; rw [if_neg (by omega), if_neg (by omega), if_neg (by omega), if_neg (by omega), if_neg (by omega), if_neg (by omega), if_pos (by omega)])
                    have d1 : bt t k / 16 < 16 := by omega
                    have d2 : bt t k % 16 < 16 := by omega
                    have d3 : 0 ≤ bt t k / 16 := by omega
                    have d4 : 0 ≤ bt t k % 16 := by omega
                    have hcell : (#[.int .u8 92, .int .u8 117, .int .u8 48, .int .u8 48, .int .u8 (bt HS (bt t k / 16).toNat), .int .u8 (bt HS (bt t k % 16).toNat)] : Array Value).toList = Lib.byteCells [92, 117, 48, 48, hx (c.toNat / 16), hx (c.toNat % 16)] := by
                      rw [hs_bt _ (by omega), hs_bt _ (by omega), show (bt t k / 16).toNat = c.toNat / 16 by omega, show (bt t k % 16).toNat = c.toNat % 16 by omega]
                      rfl
                    clear hcb h1 h8 h9 h10 h12 h13
                    have E1 : Hid (IntKind.i64.wrap (IntKind.u8.wrap ((bt t k).tdiv 16)) = bt t k / 16) := Lib.hid (by rw [Int.tdiv_eq_ediv_of_nonneg b0, IntKind.wrap_u8, IntKind.wrap_i64]; omega)
                    have E2 : Hid (IntKind.i64.wrap ((bt t k).tmod 16) = bt t k % 16) := Lib.hid (by rw [Int.tmod_eq_emod_of_nonneg b0, IntKind.wrap_i64]; omega)
                    go_wp2
                    refine wp_region_S (S := fun _ => True) (by kernel_rfl) (fun _ _ => True.intro) (fun w8 hh hbb hS => ?_)
                    have hHeld := hbb _ (Nat.le_refl _)
                    clear hh hbb
                    refine TKC 0 67 rfl ?_
                    try simp only [Act.put, zA, zB, zC]
                    refine TKC 1 68 rfl ?_
                    try simp only [Act.put, zA, zB, zC]
                    refine TKC 2 69 rfl ?_
                    try simp only [Act.put, zA, zB, zC]
                    refine TKC 3 70 rfl ?_
                    try simp only [Act.put, zA, zB, zC]
                    refine TKB 4 71 (.int .u8 (bt HS (bt t k / 16).toNat)) rfl ?_ ?_
                    · (intro w hSw; go_simp; generalize hX : IntKind.i64.wrap (IntKind.u8.wrap ((bt t k).tdiv 16)) = x; have hx2 := hX.symm.trans E1.out; subst hx2; exact hs_index _ _ w (by omega) (by omega))
                    try simp only [Act.put, zA, zB, zC]
                    refine TKC 5 72 rfl ?_
                    try simp only [Act.put, zA, zB, zC]
                    refine TKC 6 73 rfl ?_
                    try simp only [Act.put, zA, zB, zC]
                    refine TKC 7 74 rfl ?_
                    try simp only [Act.put, zA, zB, zC]
                    refine TKB 8 75 (.int .u8 (bt HS (bt t k % 16).toNat)) rfl ?_ ?_
                    · (intro w hSw; go_simp; generalize hX : IntKind.i64.wrap ((bt t k).tmod 16) = x; have hx2 := hX.symm.trans E2.out; subst hx2; exact hs_index _ _ w (by omega) (by omega))
                    try simp only [Act.put, zA, zB, zC]
                    replace HO := HO.below hHeld
                    replace HB := HB.trans (KB.of hHeld hbz)
                    replace hbz := HB.up hbz0
                    refine wpAnyH_ready (rs := [9]) (by kernel_rfl) (by simp) ?_
                    refine AllReadyH.cons (o := ⟨some 76, _, _, _, _, _⟩) rfl (fun K hK => ?_) AllReadyH.nil
                    simp only [Region.wanted, if_true]
                    refine op_slice_at 6 _ _ ie _ (by rw [hie3]; exact bfill6 _ _ _ _ _ _) 46 5 _ rfl rfl Tryz.underlying46 hie1 hie2 (by rw [hie3]; decide) (by rw [hie3]; decide) ?_
                    intro w3 hw
                    have hb := hid_grow hw
                    have B9 := (hid_alloc hw).1
                    clear hw
                    replace HO := HO.below hb
                    replace HB := HB.trans (KB.of hb hbz)
                    replace hbz := HB.up hbz0
                    refine hK.out _ _ True.intro (fun hHeld2 => ?_)
                    clear hK K hb hHeld
                    try simp only [Act.put, zA, zB, zC]
                    refine wpAnyH_ready (rs := [10]) (by kernel_rfl) (by simp) ?_
                    refine AllReadyH.cons (o := ⟨some 77, _, _, _, _, _⟩) rfl (fun K hK => ?_) AllReadyH.nil
                    simp only [Region.wanted, if_true]
                    refine op_append_bytes _ _ 46 rfl Tryz.underlying46 base v1 l1 rfl HO _ _ [92, 117, 48, 48, hx (c.toNat / 16), hx (c.toNat % 16)] 6 rfl rfl (IBox.cells B9 hcell) (by simp; omega) hbz ?_
                    intro v10 w10 ho10 hbb10
                    replace HO := ho10
                    replace HB := HB.trans hbb10
                    clear ho10 B9
                    replace hbz := HB.up hbz0
                    refine hK.out _ _ True.intro (fun hHeld3 => ?_)
                    clear hK K
                    try simp only [Act.put, zA, zB, zC]
                    refine TKC 11 0 rfl ?_
                    try simp only [Act.put, zA, zB, zC]
                    refine wpAnyH_done (by kernel_rfl) ?_ _
                    go_wp2
                    go_roundw
                    case rel => exact ⟨k + 1, _, _, rfl, by go_num, by omega, HO, Lib.hid (by rw [← HQ.out, HQB.out]), HB⟩
                    case measure => simp [intOf]; omega
                  · have HQB : Hid (qb c = [c]) := Lib.hid (by unfold qb; rw [if_neg (by omega), if_neg (by omega), if_neg (by omega), if_neg (by omega), if_neg (by omega), if_neg (by omega), if_neg (by omega)])
                    have hcell : (#[.int .u8 (bt t k)] : Array Value).toList = Lib.byteCells [c] := by rw [hcb]; rfl
                    clear hcb h1 h8 h9 h10 h12 h13
                    go_wp2_with (first
                      | ((with_reducible refine is_slice ?_); refine wpl_slice_at 1 [(0, .int .u8 (bt t k))] #[.int .u8 (bt t k)] ie _ (by rw [hie3]; exact bfill1 _) rfl 46 5 _ rfl rfl Tryz.underlying46 hie1 hie2 (by rw [hie3]; decide) (by rw [hie3]; decide) ?_; intro w9 hw; have hb := hid_grow hw; have B9 := (hid_alloc hw).1; clear hw; replace HO := HO.below hb; replace HB := HB.trans (KB.of hb hbz); clear hb; replace hbz := HB.up hbz0)
                      | (refine wpl_append_bytesK rfl (.tmp 19) (.tmp 21) 46 rfl Tryz.underlying46 base _ l1 rfl HO _ _ [c] 1 rfl rfl (IBox.cells B9 (by exact hcell)) (by simp; omega) hbz ?_; intro v10 w10 ho10 hbb10; replace HO := ho10; replace HB := HB.trans hbb10; clear ho10 hbb10 B9; replace hbz := HB.up hbz0))
                    go_roundw
                    case rel => exact ⟨k + 1, _, _, rfl, by go_num, by omega, HO, Lib.hid (by rw [← HQ.out, HQB.out]), HB⟩
                    case measure => simp [intOf]; omega
    · obtain rfl : k = t.size := by omega
      have hlt' : ¬ ((t.size : Nat) : Int) < (t.size : Int) := by omega
      have HF : Hid (l ++ quo t = l1 ++ [34]) := Lib.hid (by rw [HL.out, List.take_of_length_le (by simp)]; unfold quo; simp)
      clear hk hlt
      go_wp2_with (first
        | ((with_reducible refine is_slice ?_); refine wpl_slice_at 1 [(0, .int .u8 34)] #[.int .u8 34] ie _ (by rw [hie3]; exact bfill1 _) rfl 46 5 _ rfl rfl Tryz.underlying46 hie1 hie2 (by rw [hie3]; decide) (by rw [hie3]; decide) ?_; intro w9 hw; have hb := hid_grow hw; have B9 := (hid_alloc hw).1; clear hw; replace HO := HO.below hb; replace HB := HB.trans (KB.of hb hbz); clear hb; replace hbz := HB.up hbz0)
        | (refine wpl_append_bytesK rfl (.tmp 78) (.tmp 79) 46 rfl Tryz.underlying46 base _ l1 rfl HO _ _ [34] 1 rfl rfl (IBox.cells B9 (by rfl)) (by simp; omega) hbz ?_; intro v10 w10 ho10 hbb10; replace HO := ho10; replace HB := HB.trans hbb10; clear ho10 hbb10 B9; replace hbz := HB.up hbz0))
      go_ret
      exact AddB.of HO HF.out HB
end Go.Proofs.YtnjhmnolngdfaaaGreatDoor
