/- Layer 2, the document's reader (coveyref02): value. Layer 2: the document's Parse (coveyref02). Layer 2: what is amiss has a number from 3 to 7; coveylaw02.JsonParses is true. -/
import Derived.Test.YtjhncopbiblenaaGreatDoorJrN
import Derived.Test.YtjhncopbiblenaaGreatDoorRrH
import Derived.Test.YtjhncopbiblenaaGreatDoorJrP
import Derived.Test.YtjhncopbiblenaaGreatDoorJrQV
import Derived.Test.YtjhncopbiblenaaGreatDoorJrT
namespace Go.Proofs.YtjhncopbiblenaaGreatDoor
section
open Go.RowKit Go.PlainAid
set_option linter.unusedVariables false
set_option linter.unusedSimpArgs false
theorem rb_null (w : World) : (Instr.build 26 ([] : List (Nat × Value)).toArray).run Tryz.prog w = .ok (.agg JV.zero.cells) w := by kernel_rfl
theorem rb_true (w : World) : (Instr.build 26 ([(0, .int .i64 1), (1, .bool true)] : List (Nat × Value)).toArray).run Tryz.prog w = .ok (.agg (leafJ 1 true 0 ⟨#[]⟩).cells) w := by kernel_rfl
theorem rb_false (w : World) : (Instr.build 26 ([(0, .int .i64 1)] : List (Nat × Value)).toArray).run Tryz.prog w = .ok (.agg (leafJ 1 false 0 ⟨#[]⟩).cells) w := by kernel_rfl
theorem rb_int (n : Int) (w : World) : (Instr.build 26 ([(0, .int .i64 2), (2, .int .i64 n)] : List (Nat × Value)).toArray).run Tryz.prog w = .ok (.agg (leafJ 2 false n ⟨#[]⟩).cells) w := by kernel_rfl
theorem rb_text (t : ByteArray) (w : World) : (Instr.build 26 ([(0, .int .i64 3), (3, .string t)] : List (Nat × Value)).toArray).run Tryz.prog w = .ok (.agg (leafJ 3 false 0 t).cells) w := by kernel_rfl
/-- A list or an object with a row that says nothing. -/
def rowJ (k : Int) (A : Option Addr) (n c : Nat) (B : Option Addr) (m e : Nat) : JV := .mk ⟨k, false, 0, ⟨#[]⟩, A, n, c, B, m, e⟩ [] [] []
theorem rb_list (A : Option Addr) (n c : Nat) (w : World) : (Instr.build 26 ([(0, .int .i64 4), (4, .slice A n c)] : List (Nat × Value)).toArray).run Tryz.prog w = .ok (.agg (rowJ 4 A n c none 0 0).cells) w := by kernel_rfl
theorem rb_obj (A : Option Addr) (n c : Nat) (w : World) : (Instr.build 26 ([(0, .int .i64 5), (5, .slice A n c)] : List (Nat × Value)).toArray).run Tryz.prog w = .ok (.agg (rowJ 5 none 0 0 A n c).cells) w := by kernel_rfl
theorem wn_any {w : World} {r : Nat} {s : ByteArray} {i : Nat} (h : RR w r s i 0 0) (hi : i ≤ s.size) (hs : s.size ≤ 65536) : Calls Tryz.prog 37 #[At r, .string ⟨#[110, 117, 108, 108]⟩] w (RGot (wordTo s nullW 4 i) r s w Unit0 Nix) := rword_any nullW h hi hs (by decide)
theorem wt_any {w : World} {r : Nat} {s : ByteArray} {i : Nat} (h : RR w r s i 0 0) (hi : i ≤ s.size) (hs : s.size ≤ 65536) : Calls Tryz.prog 37 #[At r, .string ⟨#[116, 114, 117, 101]⟩] w (RGot (wordTo s trueW 4 i) r s w Unit0 Nix) := rword_any trueW h hi hs (by decide)
theorem wf_any {w : World} {r : Nat} {s : ByteArray} {i : Nat} (h : RR w r s i 0 0) (hi : i ≤ s.size) (hs : s.size ≤ 65536) : Calls Tryz.prog 37 #[At r, .string ⟨#[102, 97, 108, 115, 101]⟩] w (RGot (wordTo s falseW 5 i) r s w Unit0 Nix) := rword_any falseW h hi hs (by decide)
theorem rv_leaf {w w' : World} {t : JT} {k i : Int} {b : Bool} {x : ByteArray} (hk : I64 k) (hi : I64 i) (hx : x.size ≤ reach) (ht : t = .mk k b i x [] [] []) : RvV w t (.returned (.agg (leafJ k b i x).cells)) w' := by
  subst ht
  obtain ⟨h1, h2, h3⟩ := leaf_ok w' w hk hi hx
  exact ⟨_, rfl, h1, h2, h3⟩
theorem rv_n (j : JV) : RvN (.returned (.agg j.cells)) := ⟨j, rfl⟩
theorem rv_list {w w' : World} {A : Option Addr} {c : Nat} {acc : List JV} {l : List JT} (hj : IsJV w' (listJ A c acc)) (hl : acc.map er = l) (ho : Off (fun q => q < w.heap.size) (listJ A c acc)) : RvV w (jList l) (.returned (.agg (rowJ 4 A acc.length c none 0 0).cells)) w' :=
  ⟨listJ A c acc, rfl, hj, by rw [er_list, hl]; rfl, ho⟩
theorem rv_obj {w w' : World} {A : Option Addr} {c : Nat} {L : List (ByteArray × JV)} {x : List ByteArray × List JT} (hj : IsJV w' (objJ A c L)) (hl : (L.map (·.1), L.map fun p => er p.2) = x) (ho : Off (fun q => q < w.heap.size) (objJ A c L)) : RvV w (jObj x) (.returned (.agg (rowJ 5 none 0 0 A L.length c).cells)) w' :=
  ⟨objJ A c L, rfl, hj, by rw [er_obj, ← hl]; rfl, ho⟩
set_option maxRecDepth 10000 in
set_option maxHeartbeats 8000000 in
theorem rvalue_any {d : Nat} (hd : d ≤ 32) (hin : ∀ e, d = e + 1 → RvOK e) : RvOK d := by
  intro w r s i h hi hs
  obtain ⟨x, hx⟩ : ∃ x : Int, x = 32 - (d : Int) := ⟨_, rfl⟩
  rw [← hx]
  have hx0 : 0 ≤ x := by omega
  have hx1 : x ≤ 32 := by omega
  have HX := Lib.hid hx
  clear hx
  have HR := h
  have HM := Mv.refl r w
  have hrw := HR.lt
  have hne : ¬ w.heap.size = r := by omega
  have hne2 : ¬ r = w.heap.size := by omega
  have c0 := HR.c0
  have c1 := HR.c1
  have f1 := HR.f1
  have c2 := HR.c2
  by_cases hlt : i < s.size
  · have b0 := bt_nonneg s i
    have b1 := bt_le s i
    have hpk := pk_in hlt
    by_cases v110 : bt s i = 110
    · have hp := hpk.trans v110
      have HV := Lib.hid v110
      clear v110 hpk
      cases ho : wordTo s nullW 4 i with
      | bad c p =>
        have HK : Hid (valueTo s d i = .bad c p) := Lib.hid (by rw [v_null hp, ho]; rfl)
        have HO := Lib.hid ho
        clear ho hp
        go_enter Tryz.func21, Tryz.ntmps21
        go_wp2_with (first
          | ((with_reducible refine is_alloc ?_); refine wpl_alloc_at rfl 26 rfl _ zeroV ?_; intro wa hw; have hb := hid_grow hw; have BV := hid_alloc0 hw; have hsz := hid_size hw; have hlw : w.heap.size < wa.heap.size := (by omega); clear hw hsz; replace HR := HR.below hb; replace HM := HM.trans (Mv.of hb); clear hb c0 c1 f1 c2; have c0 := HR.c0; have c1 := HR.c1; have f1 := HR.f1; have c2 := HR.c2)
          | (go_at_call 35; (with_reducible refine (rnextB_in HR hlt).mono ?_); rintro e w2 ⟨rfl, hr, hm⟩; rw [HV.out]; replace BV := Bes.box hm BV hne; replace HR := hr; replace HM := HM.trans hm; clear hr hm c0 c1 f1 c2; have c0 := HR.c0; have c1 := HR.c1; have f1 := HR.f1; have c2 := HR.c2)
          | (go_at_call 37; (refine (wn_any HR hi hs).mono ?_); rw [HO.out]; rintro e w5 ⟨hm, rfl, hc, i3, hr⟩; have HC := Lib.hid hc; clear hc; replace BV := Bes.box hm BV hne; replace HR := hr; replace HM := HM.trans hm; clear hr hm c0 c1 f1 c2; have c0 := HR.c0; have c1 := HR.c1; have f1 := HR.f1; have c2 := HR.c2)
          | ((with_reducible refine is_build ?_); refine wpl_build_at (vals := _) (rb_null) rfl _ rfl rfl ?_)
          | ((with_reducible refine is_store ?_); refine wpl_store_at rfl 26 (.tmp 4) (.tmp 32) rfl w.heap.size JV.zero.cells rfl rfl _ _ BV info_value rfl (jv_one _) ?_; intro w9 hw; replace HR := HR.bes (Bes.row (X := fun q => q = w.heap.size) hw rfl) hne2; replace HM := HM.put hw (Nat.le_refl _); replace BV := hid_row hw BV; clear hw c0 c1 f1 c2; have c0 := HR.c0; have c1 := HR.c1; have f1 := HR.f1; have c2 := HR.c2))
        refine bodyPost_ret (results_box rfl _ _ w.heap.size _ JV.zero.cells _ rfl BV Tryz.underlying26 rfl info_value) rfl ?_
        exact RGot.bad HK.out HM (rv_n _) HC.out HR
      | ok u k =>
        have HK : Hid (valueTo s d i = .ok jNull k) := Lib.hid (by rw [v_null hp, ho]; rfl)
        have HO := Lib.hid ho
        clear ho hp
        go_enter Tryz.func21, Tryz.ntmps21
        go_wp2_with (first
          | ((with_reducible refine is_alloc ?_); refine wpl_alloc_at rfl 26 rfl _ zeroV ?_; intro wa hw; have hb := hid_grow hw; have BV := hid_alloc0 hw; have hsz := hid_size hw; have hlw : w.heap.size < wa.heap.size := (by omega); clear hw hsz; replace HR := HR.below hb; replace HM := HM.trans (Mv.of hb); clear hb c0 c1 f1 c2; have c0 := HR.c0; have c1 := HR.c1; have f1 := HR.f1; have c2 := HR.c2)
          | (go_at_call 35; (with_reducible refine (rnextB_in HR hlt).mono ?_); rintro e w2 ⟨rfl, hr, hm⟩; rw [HV.out]; replace BV := Bes.box hm BV hne; replace HR := hr; replace HM := HM.trans hm; clear hr hm c0 c1 f1 c2; have c0 := HR.c0; have c1 := HR.c1; have f1 := HR.f1; have c2 := HR.c2)
          | (go_at_call 37; (refine (wn_any HR hi hs).mono ?_); rw [HO.out]; rintro e w5 ⟨hm, rfl, hr⟩; replace BV := Bes.box hm BV hne; replace HR := hr; replace HM := HM.trans hm; clear hr hm c0 c1 f1 c2; have c0 := HR.c0; have c1 := HR.c1; have f1 := HR.f1; have c2 := HR.c2)
          | ((with_reducible refine is_build ?_); refine wpl_build_at (vals := _) (rb_null) rfl _ rfl rfl ?_)
          | ((with_reducible refine is_store ?_); refine wpl_store_at rfl 26 (.tmp 4) (.tmp 32) rfl w.heap.size JV.zero.cells rfl rfl _ _ BV info_value rfl (jv_one _) ?_; intro w9 hw; replace HR := HR.bes (Bes.row (X := fun q => q = w.heap.size) hw rfl) hne2; replace HM := HM.put hw (Nat.le_refl _); replace BV := hid_row hw BV; clear hw c0 c1 f1 c2; have c0 := HR.c0; have c1 := HR.c1; have f1 := HR.f1; have c2 := HR.c2))
        refine bodyPost_ret (results_box rfl _ _ w.heap.size _ JV.zero.cells _ rfl BV Tryz.underlying26 rfl info_value) rfl ?_
        exact RGot.ok HK.out HM (rv_leaf mi0 mi0 mze rfl) HR
    · by_cases v116 : bt s i = 116
      · have hp := hpk.trans v116
        have HV := Lib.hid v116
        clear v116 hpk
        cases ho : wordTo s trueW 4 i with
        | bad c p =>
          have HK : Hid (valueTo s d i = .bad c p) := Lib.hid (by rw [v_true hp, ho]; rfl)
          have HO := Lib.hid ho
          clear ho hp
          go_enter Tryz.func21, Tryz.ntmps21
          go_wp2_with (first
            | ((with_reducible refine is_alloc ?_); refine wpl_alloc_at rfl 26 rfl _ zeroV ?_; intro wa hw; have hb := hid_grow hw; have BV := hid_alloc0 hw; have hsz := hid_size hw; have hlw : w.heap.size < wa.heap.size := (by omega); clear hw hsz; replace HR := HR.below hb; replace HM := HM.trans (Mv.of hb); clear hb c0 c1 f1 c2; have c0 := HR.c0; have c1 := HR.c1; have f1 := HR.f1; have c2 := HR.c2)
            | (go_at_call 35; (with_reducible refine (rnextB_in HR hlt).mono ?_); rintro e w2 ⟨rfl, hr, hm⟩; rw [HV.out]; replace BV := Bes.box hm BV hne; replace HR := hr; replace HM := HM.trans hm; clear hr hm c0 c1 f1 c2; have c0 := HR.c0; have c1 := HR.c1; have f1 := HR.f1; have c2 := HR.c2)
            | (go_at_call 37; (refine (wt_any HR hi hs).mono ?_); rw [HO.out]; rintro e w5 ⟨hm, rfl, hc, i3, hr⟩; have HC := Lib.hid hc; clear hc; replace BV := Bes.box hm BV hne; replace HR := hr; replace HM := HM.trans hm; clear hr hm c0 c1 f1 c2; have c0 := HR.c0; have c1 := HR.c1; have f1 := HR.f1; have c2 := HR.c2)
            | ((with_reducible refine is_build ?_); refine wpl_build_at (vals := _) (rb_true) rfl _ rfl rfl ?_)
            | ((with_reducible refine is_store ?_); refine wpl_store_at rfl 26 (.tmp 4) (.tmp 38) rfl w.heap.size (leafJ 1 true 0 ⟨#[]⟩).cells rfl rfl _ _ BV info_value rfl (jv_one _) ?_; intro w9 hw; replace HR := HR.bes (Bes.row (X := fun q => q = w.heap.size) hw rfl) hne2; replace HM := HM.put hw (Nat.le_refl _); replace BV := hid_row hw BV; clear hw c0 c1 f1 c2; have c0 := HR.c0; have c1 := HR.c1; have f1 := HR.f1; have c2 := HR.c2))
          refine bodyPost_ret (results_box rfl _ _ w.heap.size _ (leafJ 1 true 0 ⟨#[]⟩).cells _ rfl BV Tryz.underlying26 rfl info_value) rfl ?_
          exact RGot.bad HK.out HM (rv_n _) HC.out HR
        | ok u k =>
          have HK : Hid (valueTo s d i = .ok (jBool true) k) := Lib.hid (by rw [v_true hp, ho]; rfl)
          have HO := Lib.hid ho
          clear ho hp
          go_enter Tryz.func21, Tryz.ntmps21
          go_wp2_with (first
            | ((with_reducible refine is_alloc ?_); refine wpl_alloc_at rfl 26 rfl _ zeroV ?_; intro wa hw; have hb := hid_grow hw; have BV := hid_alloc0 hw; have hsz := hid_size hw; have hlw : w.heap.size < wa.heap.size := (by omega); clear hw hsz; replace HR := HR.below hb; replace HM := HM.trans (Mv.of hb); clear hb c0 c1 f1 c2; have c0 := HR.c0; have c1 := HR.c1; have f1 := HR.f1; have c2 := HR.c2)
            | (go_at_call 35; (with_reducible refine (rnextB_in HR hlt).mono ?_); rintro e w2 ⟨rfl, hr, hm⟩; rw [HV.out]; replace BV := Bes.box hm BV hne; replace HR := hr; replace HM := HM.trans hm; clear hr hm c0 c1 f1 c2; have c0 := HR.c0; have c1 := HR.c1; have f1 := HR.f1; have c2 := HR.c2)
            | (go_at_call 37; (refine (wt_any HR hi hs).mono ?_); rw [HO.out]; rintro e w5 ⟨hm, rfl, hr⟩; replace BV := Bes.box hm BV hne; replace HR := hr; replace HM := HM.trans hm; clear hr hm c0 c1 f1 c2; have c0 := HR.c0; have c1 := HR.c1; have f1 := HR.f1; have c2 := HR.c2)
            | ((with_reducible refine is_build ?_); refine wpl_build_at (vals := _) (rb_true) rfl _ rfl rfl ?_)
            | ((with_reducible refine is_store ?_); refine wpl_store_at rfl 26 (.tmp 4) (.tmp 38) rfl w.heap.size (leafJ 1 true 0 ⟨#[]⟩).cells rfl rfl _ _ BV info_value rfl (jv_one _) ?_; intro w9 hw; replace HR := HR.bes (Bes.row (X := fun q => q = w.heap.size) hw rfl) hne2; replace HM := HM.put hw (Nat.le_refl _); replace BV := hid_row hw BV; clear hw c0 c1 f1 c2; have c0 := HR.c0; have c1 := HR.c1; have f1 := HR.f1; have c2 := HR.c2))
          refine bodyPost_ret (results_box rfl _ _ w.heap.size _ (leafJ 1 true 0 ⟨#[]⟩).cells _ rfl BV Tryz.underlying26 rfl info_value) rfl ?_
          exact RGot.ok HK.out HM (rv_leaf i64_1 mi0 mze rfl) HR
      · by_cases v102 : bt s i = 102
        · have hp := hpk.trans v102
          have HV := Lib.hid v102
          clear v102 hpk
          cases ho : wordTo s falseW 5 i with
          | bad c p =>
            have HK : Hid (valueTo s d i = .bad c p) := Lib.hid (by rw [v_false hp, ho]; rfl)
            have HO := Lib.hid ho
            clear ho hp
            go_enter Tryz.func21, Tryz.ntmps21
            go_wp2_with (first
              | ((with_reducible refine is_alloc ?_); refine wpl_alloc_at rfl 26 rfl _ zeroV ?_; intro wa hw; have hb := hid_grow hw; have BV := hid_alloc0 hw; have hsz := hid_size hw; have hlw : w.heap.size < wa.heap.size := (by omega); clear hw hsz; replace HR := HR.below hb; replace HM := HM.trans (Mv.of hb); clear hb c0 c1 f1 c2; have c0 := HR.c0; have c1 := HR.c1; have f1 := HR.f1; have c2 := HR.c2)
              | (go_at_call 35; (with_reducible refine (rnextB_in HR hlt).mono ?_); rintro e w2 ⟨rfl, hr, hm⟩; rw [HV.out]; replace BV := Bes.box hm BV hne; replace HR := hr; replace HM := HM.trans hm; clear hr hm c0 c1 f1 c2; have c0 := HR.c0; have c1 := HR.c1; have f1 := HR.f1; have c2 := HR.c2)
              | (go_at_call 37; (refine (wf_any HR hi hs).mono ?_); rw [HO.out]; rintro e w5 ⟨hm, rfl, hc, i3, hr⟩; have HC := Lib.hid hc; clear hc; replace BV := Bes.box hm BV hne; replace HR := hr; replace HM := HM.trans hm; clear hr hm c0 c1 f1 c2; have c0 := HR.c0; have c1 := HR.c1; have f1 := HR.f1; have c2 := HR.c2)
              | ((with_reducible refine is_build ?_); refine wpl_build_at (vals := _) (rb_false) rfl _ rfl rfl ?_)
              | ((with_reducible refine is_store ?_); refine wpl_store_at rfl 26 (.tmp 4) (.tmp 44) rfl w.heap.size (leafJ 1 false 0 ⟨#[]⟩).cells rfl rfl _ _ BV info_value rfl (jv_one _) ?_; intro w9 hw; replace HR := HR.bes (Bes.row (X := fun q => q = w.heap.size) hw rfl) hne2; replace HM := HM.put hw (Nat.le_refl _); replace BV := hid_row hw BV; clear hw c0 c1 f1 c2; have c0 := HR.c0; have c1 := HR.c1; have f1 := HR.f1; have c2 := HR.c2))
            refine bodyPost_ret (results_box rfl _ _ w.heap.size _ (leafJ 1 false 0 ⟨#[]⟩).cells _ rfl BV Tryz.underlying26 rfl info_value) rfl ?_
            exact RGot.bad HK.out HM (rv_n _) HC.out HR
          | ok u k =>
            have HK : Hid (valueTo s d i = .ok (jBool false) k) := Lib.hid (by rw [v_false hp, ho]; rfl)
            have HO := Lib.hid ho
            clear ho hp
            go_enter Tryz.func21, Tryz.ntmps21
            go_wp2_with (first
              | ((with_reducible refine is_alloc ?_); refine wpl_alloc_at rfl 26 rfl _ zeroV ?_; intro wa hw; have hb := hid_grow hw; have BV := hid_alloc0 hw; have hsz := hid_size hw; have hlw : w.heap.size < wa.heap.size := (by omega); clear hw hsz; replace HR := HR.below hb; replace HM := HM.trans (Mv.of hb); clear hb c0 c1 f1 c2; have c0 := HR.c0; have c1 := HR.c1; have f1 := HR.f1; have c2 := HR.c2)
              | (go_at_call 35; (with_reducible refine (rnextB_in HR hlt).mono ?_); rintro e w2 ⟨rfl, hr, hm⟩; rw [HV.out]; replace BV := Bes.box hm BV hne; replace HR := hr; replace HM := HM.trans hm; clear hr hm c0 c1 f1 c2; have c0 := HR.c0; have c1 := HR.c1; have f1 := HR.f1; have c2 := HR.c2)
              | (go_at_call 37; (refine (wf_any HR hi hs).mono ?_); rw [HO.out]; rintro e w5 ⟨hm, rfl, hr⟩; replace BV := Bes.box hm BV hne; replace HR := hr; replace HM := HM.trans hm; clear hr hm c0 c1 f1 c2; have c0 := HR.c0; have c1 := HR.c1; have f1 := HR.f1; have c2 := HR.c2)
              | ((with_reducible refine is_build ?_); refine wpl_build_at (vals := _) (rb_false) rfl _ rfl rfl ?_)
              | ((with_reducible refine is_store ?_); refine wpl_store_at rfl 26 (.tmp 4) (.tmp 44) rfl w.heap.size (leafJ 1 false 0 ⟨#[]⟩).cells rfl rfl _ _ BV info_value rfl (jv_one _) ?_; intro w9 hw; replace HR := HR.bes (Bes.row (X := fun q => q = w.heap.size) hw rfl) hne2; replace HM := HM.put hw (Nat.le_refl _); replace BV := hid_row hw BV; clear hw c0 c1 f1 c2; have c0 := HR.c0; have c1 := HR.c1; have f1 := HR.f1; have c2 := HR.c2))
            refine bodyPost_ret (results_box rfl _ _ w.heap.size _ (leafJ 1 false 0 ⟨#[]⟩).cells _ rfl BV Tryz.underlying26 rfl info_value) rfl ?_
            exact RGot.ok HK.out HM (rv_leaf i64_1 mi0 mze rfl) HR
        · by_cases v45 : bt s i = 45
          · have HD : Hid (pk s i = 45 ∨ digI (pk s i) = true) := Lib.hid (.inl (hpk.trans v45))
            have HV := Lib.hid v45
            clear v45 hpk
            cases ho : numTo s i with
            | bad c p =>
              have HK : Hid (valueTo s d i = .bad c p) := Lib.hid (by rw [v_num HD.out, ho]; rfl)
              have HO := Lib.hid ho
              clear ho
              go_enter Tryz.func21, Tryz.ntmps21
              go_wp2_with (first
                | ((with_reducible refine is_alloc ?_); refine wpl_alloc_at rfl 26 rfl _ zeroV ?_; intro wa hw; have hb := hid_grow hw; have BV := hid_alloc0 hw; have hsz := hid_size hw; have hlw : w.heap.size < wa.heap.size := (by omega); clear hw hsz; replace HR := HR.below hb; replace HM := HM.trans (Mv.of hb); clear hb c0 c1 f1 c2; have c0 := HR.c0; have c1 := HR.c1; have f1 := HR.f1; have c2 := HR.c2)
                | (go_at_call 35; (with_reducible refine (rnextB_in HR hlt).mono ?_); rintro e w2 ⟨rfl, hr, hm⟩; rw [HV.out]; replace BV := Bes.box hm BV hne; replace HR := hr; replace HM := HM.trans hm; clear hr hm c0 c1 f1 c2; have c0 := HR.c0; have c1 := HR.c1; have f1 := HR.f1; have c2 := HR.c2)
                | (go_at_call 38; (refine (rnumber_any HR hlt hs).mono ?_); rw [HO.out]; rintro e w5 ⟨hm, rfl, hc, i3, hr⟩; have HC := Lib.hid hc; clear hc; replace BV := Bes.box hm BV hne; replace HR := hr; replace HM := HM.trans hm; clear hr hm c0 c1 f1 c2; have c0 := HR.c0; have c1 := HR.c1; have f1 := HR.f1; have c2 := HR.c2)
                | ((with_reducible refine is_build ?_); refine wpl_build_at (vals := _) (rb_int 0) rfl _ rfl rfl ?_)
                | ((with_reducible refine is_store ?_); refine wpl_store_at rfl 26 (.tmp 4) (.tmp 58) rfl w.heap.size (leafJ 2 false 0 ⟨#[]⟩).cells rfl rfl _ _ BV info_value rfl (jv_one _) ?_; intro w9 hw; replace HR := HR.bes (Bes.row (X := fun q => q = w.heap.size) hw rfl) hne2; replace HM := HM.put hw (Nat.le_refl _); replace BV := hid_row hw BV; clear hw c0 c1 f1 c2; have c0 := HR.c0; have c1 := HR.c1; have f1 := HR.f1; have c2 := HR.c2))
              refine bodyPost_ret (results_box rfl _ _ w.heap.size _ (leafJ 2 false 0 ⟨#[]⟩).cells _ rfl BV Tryz.underlying26 rfl info_value) rfl ?_
              exact RGot.bad HK.out HM (rv_n _) HC.out HR
            | ok n k =>
              have HK : Hid (valueTo s d i = .ok (jInt n) k) := Lib.hid (by rw [v_num HD.out, ho]; rfl)
              have HNI := Lib.hid (num_i64 ho)
              have HO := Lib.hid ho
              clear ho
              go_enter Tryz.func21, Tryz.ntmps21
              go_wp2_with (first
                | ((with_reducible refine is_alloc ?_); refine wpl_alloc_at rfl 26 rfl _ zeroV ?_; intro wa hw; have hb := hid_grow hw; have BV := hid_alloc0 hw; have hsz := hid_size hw; have hlw : w.heap.size < wa.heap.size := (by omega); clear hw hsz; replace HR := HR.below hb; replace HM := HM.trans (Mv.of hb); clear hb c0 c1 f1 c2; have c0 := HR.c0; have c1 := HR.c1; have f1 := HR.f1; have c2 := HR.c2)
                | (go_at_call 35; (with_reducible refine (rnextB_in HR hlt).mono ?_); rintro e w2 ⟨rfl, hr, hm⟩; rw [HV.out]; replace BV := Bes.box hm BV hne; replace HR := hr; replace HM := HM.trans hm; clear hr hm c0 c1 f1 c2; have c0 := HR.c0; have c1 := HR.c1; have f1 := HR.f1; have c2 := HR.c2)
                | (go_at_call 38; (refine (rnumber_any HR hlt hs).mono ?_); rw [HO.out]; rintro e w5 ⟨hm, rfl, hr⟩; replace BV := Bes.box hm BV hne; replace HR := hr; replace HM := HM.trans hm; clear hr hm c0 c1 f1 c2; have c0 := HR.c0; have c1 := HR.c1; have f1 := HR.f1; have c2 := HR.c2)
                | ((with_reducible refine is_build ?_); refine wpl_build_at (vals := _) (rb_int n) rfl _ rfl rfl ?_)
                | ((with_reducible refine is_store ?_); refine wpl_store_at rfl 26 (.tmp 4) (.tmp 58) rfl w.heap.size (leafJ 2 false n ⟨#[]⟩).cells rfl rfl _ _ BV info_value rfl (jv_one _) ?_; intro w9 hw; replace HR := HR.bes (Bes.row (X := fun q => q = w.heap.size) hw rfl) hne2; replace HM := HM.put hw (Nat.le_refl _); replace BV := hid_row hw BV; clear hw c0 c1 f1 c2; have c0 := HR.c0; have c1 := HR.c1; have f1 := HR.f1; have c2 := HR.c2))
              refine bodyPost_ret (results_box rfl _ _ w.heap.size _ (leafJ 2 false n ⟨#[]⟩).cells _ rfl BV Tryz.underlying26 rfl info_value) rfl ?_
              exact RGot.ok HK.out HM (rv_leaf i64_2 HNI.out mze rfl) HR
          · by_cases vd : 48 ≤ bt s i ∧ bt s i ≤ 57
            · have HD : Hid (pk s i = 45 ∨ digI (pk s i) = true) := Lib.hid (.inr (dig_bt hlt vd.1 vd.2))
              obtain ⟨g1, g2⟩ := vd
              have q110 : (bt s i == 110) = false := by simpa using v110
              have q116 : (bt s i == 116) = false := by simpa using v116
              have q102 : (bt s i == 102) = false := by simpa using v102
              have q45 : (bt s i == 45) = false := by simpa using v45
              clear v110 v116 v102 v45 hpk
              cases ho : numTo s i with
              | bad c p =>
                have HK : Hid (valueTo s d i = .bad c p) := Lib.hid (by rw [v_num HD.out, ho]; rfl)
                have HO := Lib.hid ho
                clear ho
                go_enter Tryz.func21, Tryz.ntmps21
                go_wp2_with (first
                  | ((with_reducible refine is_alloc ?_); refine wpl_alloc_at rfl 26 rfl _ zeroV ?_; intro wa hw; have hb := hid_grow hw; have BV := hid_alloc0 hw; have hsz := hid_size hw; have hlw : w.heap.size < wa.heap.size := (by omega); clear hw hsz; replace HR := HR.below hb; replace HM := HM.trans (Mv.of hb); clear hb c0 c1 f1 c2; have c0 := HR.c0; have c1 := HR.c1; have f1 := HR.f1; have c2 := HR.c2)
                  | (go_at_call 35; (with_reducible refine (rnextB_in HR hlt).mono ?_); rintro e w2 ⟨rfl, hr, hm⟩; replace BV := Bes.box hm BV hne; replace HR := hr; replace HM := HM.trans hm; clear hr hm c0 c1 f1 c2; have c0 := HR.c0; have c1 := HR.c1; have f1 := HR.f1; have c2 := HR.c2)
                  | (go_at_call 38; (refine (rnumber_any HR hlt hs).mono ?_); rw [HO.out]; rintro e w5 ⟨hm, rfl, hc, i3, hr⟩; have HC := Lib.hid hc; clear hc; replace BV := Bes.box hm BV hne; replace HR := hr; replace HM := HM.trans hm; clear hr hm c0 c1 f1 c2; have c0 := HR.c0; have c1 := HR.c1; have f1 := HR.f1; have c2 := HR.c2)
                  | ((with_reducible refine is_build ?_); refine wpl_build_at (vals := _) (rb_int 0) rfl _ rfl rfl ?_)
                  | ((with_reducible refine is_store ?_); refine wpl_store_at rfl 26 (.tmp 4) (.tmp 58) rfl w.heap.size (leafJ 2 false 0 ⟨#[]⟩).cells rfl rfl _ _ BV info_value rfl (jv_one _) ?_; intro w9 hw; replace HR := HR.bes (Bes.row (X := fun q => q = w.heap.size) hw rfl) hne2; replace HM := HM.put hw (Nat.le_refl _); replace BV := hid_row hw BV; clear hw c0 c1 f1 c2; have c0 := HR.c0; have c1 := HR.c1; have f1 := HR.f1; have c2 := HR.c2))
                refine bodyPost_ret (results_box rfl _ _ w.heap.size _ (leafJ 2 false 0 ⟨#[]⟩).cells _ rfl BV Tryz.underlying26 rfl info_value) rfl ?_
                exact RGot.bad HK.out HM (rv_n _) HC.out HR
              | ok n k =>
                have HK : Hid (valueTo s d i = .ok (jInt n) k) := Lib.hid (by rw [v_num HD.out, ho]; rfl)
                have HNI := Lib.hid (num_i64 ho)
                have HO := Lib.hid ho
                clear ho
                go_enter Tryz.func21, Tryz.ntmps21
                go_wp2_with (first
                  | ((with_reducible refine is_alloc ?_); refine wpl_alloc_at rfl 26 rfl _ zeroV ?_; intro wa hw; have hb := hid_grow hw; have BV := hid_alloc0 hw; have hsz := hid_size hw; have hlw : w.heap.size < wa.heap.size := (by omega); clear hw hsz; replace HR := HR.below hb; replace HM := HM.trans (Mv.of hb); clear hb c0 c1 f1 c2; have c0 := HR.c0; have c1 := HR.c1; have f1 := HR.f1; have c2 := HR.c2)
                  | (go_at_call 35; (with_reducible refine (rnextB_in HR hlt).mono ?_); rintro e w2 ⟨rfl, hr, hm⟩; replace BV := Bes.box hm BV hne; replace HR := hr; replace HM := HM.trans hm; clear hr hm c0 c1 f1 c2; have c0 := HR.c0; have c1 := HR.c1; have f1 := HR.f1; have c2 := HR.c2)
                  | (go_at_call 38; (refine (rnumber_any HR hlt hs).mono ?_); rw [HO.out]; rintro e w5 ⟨hm, rfl, hr⟩; replace BV := Bes.box hm BV hne; replace HR := hr; replace HM := HM.trans hm; clear hr hm c0 c1 f1 c2; have c0 := HR.c0; have c1 := HR.c1; have f1 := HR.f1; have c2 := HR.c2)
                  | ((with_reducible refine is_build ?_); refine wpl_build_at (vals := _) (rb_int n) rfl _ rfl rfl ?_)
                  | ((with_reducible refine is_store ?_); refine wpl_store_at rfl 26 (.tmp 4) (.tmp 58) rfl w.heap.size (leafJ 2 false n ⟨#[]⟩).cells rfl rfl _ _ BV info_value rfl (jv_one _) ?_; intro w9 hw; replace HR := HR.bes (Bes.row (X := fun q => q = w.heap.size) hw rfl) hne2; replace HM := HM.put hw (Nat.le_refl _); replace BV := hid_row hw BV; clear hw c0 c1 f1 c2; have c0 := HR.c0; have c1 := HR.c1; have f1 := HR.f1; have c2 := HR.c2))
                refine bodyPost_ret (results_box rfl _ _ w.heap.size _ (leafJ 2 false n ⟨#[]⟩).cells _ rfl BV Tryz.underlying26 rfl info_value) rfl ?_
                exact RGot.ok HK.out HM (rv_leaf i64_2 HNI.out mze rfl) HR
            · by_cases v34 : bt s i = 34
              · have hp := hpk.trans v34
                have HV := Lib.hid v34
                clear v34 hpk
                cases ho : textTo s i with
                | bad c p =>
                  have HK : Hid (valueTo s d i = .bad c p) := Lib.hid (by rw [v_text hp, ho]; rfl)
                  have HO := Lib.hid ho
                  clear ho hp
                  go_enter Tryz.func21, Tryz.ntmps21
                  go_wp2_with (first
                    | ((with_reducible refine is_alloc ?_); refine wpl_alloc_at rfl 26 rfl _ zeroV ?_; intro wa hw; have hb := hid_grow hw; have BV := hid_alloc0 hw; have hsz := hid_size hw; have hlw : w.heap.size < wa.heap.size := (by omega); clear hw hsz; replace HR := HR.below hb; replace HM := HM.trans (Mv.of hb); clear hb c0 c1 f1 c2; have c0 := HR.c0; have c1 := HR.c1; have f1 := HR.f1; have c2 := HR.c2)
                    | (go_at_call 35; (with_reducible refine (rnextB_in HR hlt).mono ?_); rintro e w2 ⟨rfl, hr, hm⟩; rw [HV.out]; replace BV := Bes.box hm BV hne; replace HR := hr; replace HM := HM.trans hm; clear hr hm c0 c1 f1 c2; have c0 := HR.c0; have c1 := HR.c1; have f1 := HR.f1; have c2 := HR.c2)
                    | (go_at_call 39; (refine (rtext_any HR hlt hs).mono ?_); rw [HO.out]; rintro e w5 ⟨hm, rfl, hc, i3, hr⟩; have HC := Lib.hid hc; clear hc; replace BV := Bes.box hm BV hne; replace HR := hr; replace HM := HM.trans hm; clear hr hm c0 c1 f1 c2; have c0 := HR.c0; have c1 := HR.c1; have f1 := HR.f1; have c2 := HR.c2)
                    | ((with_reducible refine is_build ?_); refine wpl_build_at (vals := _) (rb_text ⟨#[]⟩) rfl _ rfl rfl ?_)
                    | ((with_reducible refine is_store ?_); refine wpl_store_at rfl 26 (.tmp 4) (.tmp 64) rfl w.heap.size (leafJ 3 false 0 ⟨#[]⟩).cells rfl rfl _ _ BV info_value rfl (jv_one _) ?_; intro w9 hw; replace HR := HR.bes (Bes.row (X := fun q => q = w.heap.size) hw rfl) hne2; replace HM := HM.put hw (Nat.le_refl _); replace BV := hid_row hw BV; clear hw c0 c1 f1 c2; have c0 := HR.c0; have c1 := HR.c1; have f1 := HR.f1; have c2 := HR.c2))
                  refine bodyPost_ret (results_box rfl _ _ w.heap.size _ (leafJ 3 false 0 ⟨#[]⟩).cells _ rfl BV Tryz.underlying26 rfl info_value) rfl ?_
                  exact RGot.bad HK.out HM (rv_n _) HC.out HR
                | ok t k =>
                  have HK : Hid (valueTo s d i = .ok (jText t) k) := Lib.hid (by rw [v_text hp, ho]; rfl)
                  have HTS : Hid (t.size ≤ reach) := Lib.hid (by have := rtext_size ho hlt; unfold reach; omega)
                  have HO := Lib.hid ho
                  clear ho hp
                  go_enter Tryz.func21, Tryz.ntmps21
                  go_wp2_with (first
                    | ((with_reducible refine is_alloc ?_); refine wpl_alloc_at rfl 26 rfl _ zeroV ?_; intro wa hw; have hb := hid_grow hw; have BV := hid_alloc0 hw; have hsz := hid_size hw; have hlw : w.heap.size < wa.heap.size := (by omega); clear hw hsz; replace HR := HR.below hb; replace HM := HM.trans (Mv.of hb); clear hb c0 c1 f1 c2; have c0 := HR.c0; have c1 := HR.c1; have f1 := HR.f1; have c2 := HR.c2)
                    | (go_at_call 35; (with_reducible refine (rnextB_in HR hlt).mono ?_); rintro e w2 ⟨rfl, hr, hm⟩; rw [HV.out]; replace BV := Bes.box hm BV hne; replace HR := hr; replace HM := HM.trans hm; clear hr hm c0 c1 f1 c2; have c0 := HR.c0; have c1 := HR.c1; have f1 := HR.f1; have c2 := HR.c2)
                    | (go_at_call 39; (refine (rtext_any HR hlt hs).mono ?_); rw [HO.out]; rintro e w5 ⟨hm, rfl, hr⟩; replace BV := Bes.box hm BV hne; replace HR := hr; replace HM := HM.trans hm; clear hr hm c0 c1 f1 c2; have c0 := HR.c0; have c1 := HR.c1; have f1 := HR.f1; have c2 := HR.c2)
                    | ((with_reducible refine is_build ?_); refine wpl_build_at (vals := _) (rb_text t) rfl _ rfl rfl ?_)
                    | ((with_reducible refine is_store ?_); refine wpl_store_at rfl 26 (.tmp 4) (.tmp 64) rfl w.heap.size (leafJ 3 false 0 t).cells rfl rfl _ _ BV info_value rfl (jv_one _) ?_; intro w9 hw; replace HR := HR.bes (Bes.row (X := fun q => q = w.heap.size) hw rfl) hne2; replace HM := HM.put hw (Nat.le_refl _); replace BV := hid_row hw BV; clear hw c0 c1 f1 c2; have c0 := HR.c0; have c1 := HR.c1; have f1 := HR.f1; have c2 := HR.c2))
                  refine bodyPost_ret (results_box rfl _ _ w.heap.size _ (leafJ 3 false 0 t).cells _ rfl BV Tryz.underlying26 rfl info_value) rfl ?_
                  exact RGot.ok HK.out HM (rv_leaf i64_3 mi0 HTS.out rfl) HR
              · by_cases v91 : bt s i = 91
                · have hp := hpk.trans v91
                  have HV := Lib.hid v91
                  clear v91 hpk
                  cases d with
                  | zero =>
                    have HK : Hid (valueTo s 0 i = .bad 4 i) := Lib.hid (v_deep (.inl hp))
                    have hx2 : x = 32 := by have := HX.out; omega
                    subst hx2
                    clear hp hin
                    go_enter Tryz.func21, Tryz.ntmps21
                    go_wp2_with (first
                      | ((with_reducible refine is_alloc ?_); refine wpl_alloc_at rfl 26 rfl _ zeroV ?_; intro wa hw; have hb := hid_grow hw; have BV := hid_alloc0 hw; have hsz := hid_size hw; have hlw : w.heap.size < wa.heap.size := (by omega); clear hw hsz; replace HR := HR.below hb; replace HM := HM.trans (Mv.of hb); clear hb c0 c1 f1 c2; have c0 := HR.c0; have c1 := HR.c1; have f1 := HR.f1; have c2 := HR.c2)
                      | (go_at_call 35; (with_reducible refine (rnextB_in HR hlt).mono ?_); rintro e w2 ⟨rfl, hr, hm⟩; rw [HV.out]; replace BV := Bes.box hm BV hne; replace HR := hr; replace HM := HM.trans hm; clear hr hm c0 c1 f1 c2; have c0 := HR.c0; have c1 := HR.c1; have f1 := HR.f1; have c2 := HR.c2)
                      | (go_at_call 36; (with_reducible refine (rfail_any _ _ HR).mono ?_); rintro e w3 ⟨rfl, hr, hm⟩; replace BV := Bes.box hm BV hne; replace HR := hr; replace HM := HM.trans hm; clear hr hm c0 c1 f1 c2; have c0 := HR.c0; have c1 := HR.c1; have f1 := HR.f1; have c2 := HR.c2)
                      | ((with_reducible refine is_build ?_); refine wpl_build_at (vals := _) (rb_null) rfl _ rfl rfl ?_)
                      | ((with_reducible refine is_store ?_); refine wpl_store_at rfl 26 (.tmp 4) (.tmp 80) rfl w.heap.size JV.zero.cells rfl rfl _ _ BV info_value rfl (jv_one _) ?_; intro w9 hw; replace HR := HR.bes (Bes.row (X := fun q => q = w.heap.size) hw rfl) hne2; replace HM := HM.put hw (Nat.le_refl _); replace BV := hid_row hw BV; clear hw c0 c1 f1 c2; have c0 := HR.c0; have c1 := HR.c1; have f1 := HR.f1; have c2 := HR.c2))
                    refine bodyPost_ret (results_box rfl _ _ w.heap.size _ JV.zero.cells _ rfl BV Tryz.underlying26 rfl info_value) rfl ?_
                    exact RGot.bad HK.out HM (rv_n _) (by decide) HR
                  | succ e =>
                    have hval : Hid (RvOK e) := Lib.hid (hin e rfl)
                    have he31 : e ≤ 31 := by omega
                    have hx2 : x + 1 = 32 - (e : Int) := by have := HX.out; omega
                    have hx3 : x ≤ 31 := by omega
                    have hx4 : (x == 32) = false := by simp; omega
                    have HX1 := Lib.hid hx2
                    obtain ⟨i1, hi1⟩ : ∃ i1, i1 = i + 1 := ⟨_, rfl⟩
                    have HI1 := Lib.hid hi1
                    have hi1s : i1 ≤ s.size := by omega
                    clear hin hx2 hi1
                    cases ho : eachTo s 93 (listStep (valueTo s e)) i [] with
                    | bad c p =>
                      have HK : Hid (valueTo s (e + 1) i = .bad c p) := Lib.hid (by rw [v_list hp, ho]; rfl)
                      have HO := Lib.hid ho
                      clear ho hp
                      go_enter Tryz.func21, Tryz.ntmps21
                      go_wp2_with (first
                        | ((with_reducible refine is_alloc ?_); refine wpl_alloc_at rfl 26 rfl _ zeroV ?_; intro wa hw; have hb := hid_grow hw; have BV := hid_alloc0 hw; have hsz := hid_size hw; have hlw : w.heap.size < wa.heap.size := (by omega); clear hw hsz; replace HR := HR.below hb; replace HM := HM.trans (Mv.of hb); clear hb c0 c1 f1 c2; have c0 := HR.c0; have c1 := HR.c1; have f1 := HR.f1; have c2 := HR.c2)
                        | (go_at_call 35; (with_reducible refine (rnextB_in HR hlt).mono ?_); rintro e w2 ⟨rfl, hr, hm⟩; rw [HV.out]; replace BV := Bes.box hm BV hne; replace HR := hr; replace HM := HM.trans hm; clear hr hm c0 c1 f1 c2; have c0 := HR.c0; have c1 := HR.c1; have f1 := HR.f1; have c2 := HR.c2)
                        | ((with_reducible refine is_store ?_); refine wpl_rat rfl (.tmp 87) (.tmp 85) rfl rfl i1 (by rw [HI1.out]; rfl) HR ?_; intro w4 hr hm; replace BV := Bes.box hm BV hne; replace HR := hr; replace HM := HM.trans hm; clear hr hm c0 c1 f1 c2; have c0 := HR.c0; have c1 := HR.c1; have f1 := HR.f1; have c2 := HR.c2)
                        | (go_at_call 40; rw [HX1.out]; (refine (rlist_any he31 hval.out HR HI1.out hlt hs).mono ?_); rw [HO.out]; rintro e w5 ⟨hm, ⟨A, n, cp, rfl⟩, hc, i3, hr⟩; have HC := Lib.hid hc; clear hc; replace BV := Bes.box hm BV hne; replace HR := hr; replace HM := HM.trans hm; clear hr hm c0 c1 f1 c2; have c0 := HR.c0; have c1 := HR.c1; have f1 := HR.f1; have c2 := HR.c2)
                        | ((with_reducible refine is_build ?_); refine wpl_build_at (vals := _) (rb_list A n cp) rfl _ rfl rfl ?_)
                        | ((with_reducible refine is_store ?_); refine wpl_store_at rfl 26 (.tmp 4) (.tmp 94) rfl w.heap.size (rowJ 4 A n cp none 0 0).cells rfl rfl _ _ BV info_value rfl (jv_one _) ?_; intro w9 hw; replace HR := HR.bes (Bes.row (X := fun q => q = w.heap.size) hw rfl) hne2; replace HM := HM.put hw (Nat.le_refl _); replace BV := hid_row hw BV; clear hw c0 c1 f1 c2; have c0 := HR.c0; have c1 := HR.c1; have f1 := HR.f1; have c2 := HR.c2))
                      refine bodyPost_ret (results_box rfl _ _ w.heap.size _ (rowJ 4 A n cp none 0 0).cells _ rfl BV Tryz.underlying26 rfl info_value) rfl ?_
                      exact RGot.bad HK.out HM (rv_n _) HC.out HR
                    | ok l k =>
                      have HK : Hid (valueTo s (e + 1) i = .ok (jList l) k) := Lib.hid (by rw [v_list hp, ho]; rfl)
                      have HO := Lib.hid ho
                      clear ho hp
                      go_enter Tryz.func21, Tryz.ntmps21
                      go_wp2_with (first
                        | ((with_reducible refine is_alloc ?_); refine wpl_alloc_at rfl 26 rfl _ zeroV ?_; intro wa hw; have hb := hid_grow hw; have BV := hid_alloc0 hw; have hsz := hid_size hw; have hlw : w.heap.size < wa.heap.size := (by omega); clear hw hsz; replace HR := HR.below hb; replace HM := HM.trans (Mv.of hb); clear hb c0 c1 f1 c2; have c0 := HR.c0; have c1 := HR.c1; have f1 := HR.f1; have c2 := HR.c2)
                        | (go_at_call 35; (with_reducible refine (rnextB_in HR hlt).mono ?_); rintro e w2 ⟨rfl, hr, hm⟩; rw [HV.out]; replace BV := Bes.box hm BV hne; replace HR := hr; replace HM := HM.trans hm; clear hr hm c0 c1 f1 c2; have c0 := HR.c0; have c1 := HR.c1; have f1 := HR.f1; have c2 := HR.c2)
                        | ((with_reducible refine is_store ?_); refine wpl_rat rfl (.tmp 87) (.tmp 85) rfl rfl i1 (by rw [HI1.out]; rfl) HR ?_; intro w4 hr hm; replace BV := Bes.box hm BV hne; replace HR := hr; replace HM := HM.trans hm; clear hr hm c0 c1 f1 c2; have c0 := HR.c0; have c1 := HR.c1; have f1 := HR.f1; have c2 := HR.c2)
                        | (go_at_call 40; rw [HX1.out]; (have hlw2 := IBox.lt BV); (refine (rlist_any he31 hval.out HR HI1.out hlt hs).mono ?_); rw [HO.out]; rintro e w5 ⟨hm, ⟨A, c, acc, rfl, hj, hl, hjo⟩, hr⟩; have HL := Lib.hid hl; have hms := HM.size; have hq := Off.mono (fun q (e : q ≤ w.heap.size) => Nat.lt_of_le_of_lt e hlw2) hjo; clear hl hjo; replace BV := Bes.box hm BV hne; replace HR := hr; replace HM := HM.trans hm; clear hr hm c0 c1 f1 c2; have c0 := HR.c0; have c1 := HR.c1; have f1 := HR.f1; have c2 := HR.c2)
                        | ((with_reducible refine is_build ?_); refine wpl_build_at (vals := _) (rb_list A acc.length c) rfl _ rfl rfl ?_)
                        | ((with_reducible refine is_store ?_); refine wpl_store_at rfl 26 (.tmp 4) (.tmp 94) rfl w.heap.size (rowJ 4 A acc.length c none 0 0).cells rfl rfl _ _ BV info_value rfl (jv_one _) ?_; intro w9 hw; replace HR := HR.bes (Bes.row (X := fun q => q = w.heap.size) hw rfl) hne2; replace hj := IsJV.bes (Bes.row (X := fun q => q = w.heap.size) hw rfl) hj (Off.mono (fun q e => Nat.le_of_eq e) hq); replace HM := HM.put hw (Nat.le_refl _); replace BV := hid_row hw BV; clear hw c0 c1 f1 c2; have c0 := HR.c0; have c1 := HR.c1; have f1 := HR.f1; have c2 := HR.c2))
                      refine bodyPost_ret (results_box rfl _ _ w.heap.size _ (rowJ 4 A acc.length c none 0 0).cells _ rfl BV Tryz.underlying26 rfl info_value) rfl ?_
                      exact RGot.ok HK.out HM (rv_list hj HL.out (Off.mono (fun q e => Nat.le_of_lt e) hq)) HR
                · by_cases v123 : bt s i = 123
                  · have hp := hpk.trans v123
                    have HV := Lib.hid v123
                    clear v123 hpk
                    cases d with
                    | zero =>
                      have HK : Hid (valueTo s 0 i = .bad 4 i) := Lib.hid (v_deep (.inr hp))
                      have hx2 : x = 32 := by have := HX.out; omega
                      subst hx2
                      clear hp hin
                      go_enter Tryz.func21, Tryz.ntmps21
                      go_wp2_with (first
                        | ((with_reducible refine is_alloc ?_); refine wpl_alloc_at rfl 26 rfl _ zeroV ?_; intro wa hw; have hb := hid_grow hw; have BV := hid_alloc0 hw; have hsz := hid_size hw; have hlw : w.heap.size < wa.heap.size := (by omega); clear hw hsz; replace HR := HR.below hb; replace HM := HM.trans (Mv.of hb); clear hb c0 c1 f1 c2; have c0 := HR.c0; have c1 := HR.c1; have f1 := HR.f1; have c2 := HR.c2)
                        | (go_at_call 35; (with_reducible refine (rnextB_in HR hlt).mono ?_); rintro e w2 ⟨rfl, hr, hm⟩; rw [HV.out]; replace BV := Bes.box hm BV hne; replace HR := hr; replace HM := HM.trans hm; clear hr hm c0 c1 f1 c2; have c0 := HR.c0; have c1 := HR.c1; have f1 := HR.f1; have c2 := HR.c2)
                        | (go_at_call 36; (with_reducible refine (rfail_any _ _ HR).mono ?_); rintro e w3 ⟨rfl, hr, hm⟩; replace BV := Bes.box hm BV hne; replace HR := hr; replace HM := HM.trans hm; clear hr hm c0 c1 f1 c2; have c0 := HR.c0; have c1 := HR.c1; have f1 := HR.f1; have c2 := HR.c2)
                        | ((with_reducible refine is_build ?_); refine wpl_build_at (vals := _) (rb_null) rfl _ rfl rfl ?_)
                        | ((with_reducible refine is_store ?_); refine wpl_store_at rfl 26 (.tmp 4) (.tmp 80) rfl w.heap.size JV.zero.cells rfl rfl _ _ BV info_value rfl (jv_one _) ?_; intro w9 hw; replace HR := HR.bes (Bes.row (X := fun q => q = w.heap.size) hw rfl) hne2; replace HM := HM.put hw (Nat.le_refl _); replace BV := hid_row hw BV; clear hw c0 c1 f1 c2; have c0 := HR.c0; have c1 := HR.c1; have f1 := HR.f1; have c2 := HR.c2))
                      refine bodyPost_ret (results_box rfl _ _ w.heap.size _ JV.zero.cells _ rfl BV Tryz.underlying26 rfl info_value) rfl ?_
                      exact RGot.bad HK.out HM (rv_n _) (by decide) HR
                    | succ e =>
                      have hval : Hid (RvOK e) := Lib.hid (hin e rfl)
                      have he31 : e ≤ 31 := by omega
                      have hx2 : x + 1 = 32 - (e : Int) := by have := HX.out; omega
                      have hx3 : x ≤ 31 := by omega
                      have hx4 : (x == 32) = false := by simp; omega
                      have HX1 := Lib.hid hx2
                      obtain ⟨i1, hi1⟩ : ∃ i1, i1 = i + 1 := ⟨_, rfl⟩
                      have HI1 := Lib.hid hi1
                      have hi1s : i1 ≤ s.size := by omega
                      clear hin hx2 hi1
                      cases ho : eachTo s 125 (objStep s (valueTo s e)) i ([], []) with
                      | bad c p =>
                        have HK : Hid (valueTo s (e + 1) i = .bad c p) := Lib.hid (by rw [v_obj hp, ho]; rfl)
                        have HO := Lib.hid ho
                        clear ho hp
                        go_enter Tryz.func21, Tryz.ntmps21
                        go_wp2_with (first
                          | ((with_reducible refine is_alloc ?_); refine wpl_alloc_at rfl 26 rfl _ zeroV ?_; intro wa hw; have hb := hid_grow hw; have BV := hid_alloc0 hw; have hsz := hid_size hw; have hlw : w.heap.size < wa.heap.size := (by omega); clear hw hsz; replace HR := HR.below hb; replace HM := HM.trans (Mv.of hb); clear hb c0 c1 f1 c2; have c0 := HR.c0; have c1 := HR.c1; have f1 := HR.f1; have c2 := HR.c2)
                          | (go_at_call 35; (with_reducible refine (rnextB_in HR hlt).mono ?_); rintro e w2 ⟨rfl, hr, hm⟩; rw [HV.out]; replace BV := Bes.box hm BV hne; replace HR := hr; replace HM := HM.trans hm; clear hr hm c0 c1 f1 c2; have c0 := HR.c0; have c1 := HR.c1; have f1 := HR.f1; have c2 := HR.c2)
                          | ((with_reducible refine is_store ?_); refine wpl_rat rfl (.tmp 87) (.tmp 85) rfl rfl i1 (by rw [HI1.out]; rfl) HR ?_; intro w4 hr hm; replace BV := Bes.box hm BV hne; replace HR := hr; replace HM := HM.trans hm; clear hr hm c0 c1 f1 c2; have c0 := HR.c0; have c1 := HR.c1; have f1 := HR.f1; have c2 := HR.c2)
                          | (go_at_call 41; rw [HX1.out]; (refine (robj_any he31 hval.out HR HI1.out hlt hs).mono ?_); rw [HO.out]; rintro e w5 ⟨hm, ⟨A, n, cp, rfl⟩, hc, i3, hr⟩; have HC := Lib.hid hc; clear hc; replace BV := Bes.box hm BV hne; replace HR := hr; replace HM := HM.trans hm; clear hr hm c0 c1 f1 c2; have c0 := HR.c0; have c1 := HR.c1; have f1 := HR.f1; have c2 := HR.c2)
                          | ((with_reducible refine is_build ?_); refine wpl_build_at (vals := _) (rb_obj A n cp) rfl _ rfl rfl ?_)
                          | ((with_reducible refine is_store ?_); refine wpl_store_at rfl 26 (.tmp 4) (.tmp 99) rfl w.heap.size (rowJ 5 none 0 0 A n cp).cells rfl rfl _ _ BV info_value rfl (jv_one _) ?_; intro w9 hw; replace HR := HR.bes (Bes.row (X := fun q => q = w.heap.size) hw rfl) hne2; replace HM := HM.put hw (Nat.le_refl _); replace BV := hid_row hw BV; clear hw c0 c1 f1 c2; have c0 := HR.c0; have c1 := HR.c1; have f1 := HR.f1; have c2 := HR.c2))
                        refine bodyPost_ret (results_box rfl _ _ w.heap.size _ (rowJ 5 none 0 0 A n cp).cells _ rfl BV Tryz.underlying26 rfl info_value) rfl ?_
                        exact RGot.bad HK.out HM (rv_n _) HC.out HR
                      | ok l k =>
                        have HK : Hid (valueTo s (e + 1) i = .ok (jObj l) k) := Lib.hid (by rw [v_obj hp, ho]; rfl)
                        have HO := Lib.hid ho
                        clear ho hp
                        go_enter Tryz.func21, Tryz.ntmps21
                        go_wp2_with (first
                          | ((with_reducible refine is_alloc ?_); refine wpl_alloc_at rfl 26 rfl _ zeroV ?_; intro wa hw; have hb := hid_grow hw; have BV := hid_alloc0 hw; have hsz := hid_size hw; have hlw : w.heap.size < wa.heap.size := (by omega); clear hw hsz; replace HR := HR.below hb; replace HM := HM.trans (Mv.of hb); clear hb c0 c1 f1 c2; have c0 := HR.c0; have c1 := HR.c1; have f1 := HR.f1; have c2 := HR.c2)
                          | (go_at_call 35; (with_reducible refine (rnextB_in HR hlt).mono ?_); rintro e w2 ⟨rfl, hr, hm⟩; rw [HV.out]; replace BV := Bes.box hm BV hne; replace HR := hr; replace HM := HM.trans hm; clear hr hm c0 c1 f1 c2; have c0 := HR.c0; have c1 := HR.c1; have f1 := HR.f1; have c2 := HR.c2)
                          | ((with_reducible refine is_store ?_); refine wpl_rat rfl (.tmp 87) (.tmp 85) rfl rfl i1 (by rw [HI1.out]; rfl) HR ?_; intro w4 hr hm; replace BV := Bes.box hm BV hne; replace HR := hr; replace HM := HM.trans hm; clear hr hm c0 c1 f1 c2; have c0 := HR.c0; have c1 := HR.c1; have f1 := HR.f1; have c2 := HR.c2)
                          | (go_at_call 41; rw [HX1.out]; (have hlw2 := IBox.lt BV); (refine (robj_any he31 hval.out HR HI1.out hlt hs).mono ?_); rw [HO.out]; rintro e w5 ⟨hm, ⟨A, c, L, rfl, hj, hl, hjo⟩, hr⟩; have HL := Lib.hid hl; have hms := HM.size; have hq := Off.mono (fun q (e : q ≤ w.heap.size) => Nat.lt_of_le_of_lt e hlw2) hjo; clear hl hjo; replace BV := Bes.box hm BV hne; replace HR := hr; replace HM := HM.trans hm; clear hr hm c0 c1 f1 c2; have c0 := HR.c0; have c1 := HR.c1; have f1 := HR.f1; have c2 := HR.c2)
                          | ((with_reducible refine is_build ?_); refine wpl_build_at (vals := _) (rb_obj A L.length c) rfl _ rfl rfl ?_)
                          | ((with_reducible refine is_store ?_); refine wpl_store_at rfl 26 (.tmp 4) (.tmp 99) rfl w.heap.size (rowJ 5 none 0 0 A L.length c).cells rfl rfl _ _ BV info_value rfl (jv_one _) ?_; intro w9 hw; replace HR := HR.bes (Bes.row (X := fun q => q = w.heap.size) hw rfl) hne2; replace hj := IsJV.bes (Bes.row (X := fun q => q = w.heap.size) hw rfl) hj (Off.mono (fun q e => Nat.le_of_eq e) hq); replace HM := HM.put hw (Nat.le_refl _); replace BV := hid_row hw BV; clear hw c0 c1 f1 c2; have c0 := HR.c0; have c1 := HR.c1; have f1 := HR.f1; have c2 := HR.c2))
                        refine bodyPost_ret (results_box rfl _ _ w.heap.size _ (rowJ 5 none 0 0 A L.length c).cells _ rfl BV Tryz.underlying26 rfl info_value) rfl ?_
                        exact RGot.ok HK.out HM (rv_obj hj HL.out (Off.mono (fun q e => Nat.le_of_lt e) hq)) HR
                  · have HK : Hid (valueTo s d i = .bad 3 i) := Lib.hid (v_bad (by rw [hpk]; exact v110) (by rw [hpk]; exact v116) (by rw [hpk]; exact v102) (fun hh => hh.elim (fun e => v45 (hpk.symm.trans e)) (fun e => vd (by rw [hpk] at e; unfold digI at e; simp at e; exact e))) (by rw [hpk]; exact v34) (by rw [hpk]; exact v91) (by rw [hpk]; exact v123))
                    have q110 : (bt s i == 110) = false := by simpa using v110
                    have q116 : (bt s i == 116) = false := by simpa using v116
                    have q102 : (bt s i == 102) = false := by simpa using v102
                    have q45 : (bt s i == 45) = false := by simpa using v45
                    have q34 : (bt s i == 34) = false := by simpa using v34
                    have q91 : (bt s i == 91) = false := by simpa using v91
                    have q123 : (bt s i == 123) = false := by simpa using v123
                    clear v110 v116 v102 v45 v34 v91 v123 hpk
                    by_cases g1 : 48 ≤ bt s i
                    · have g2 : ¬ bt s i ≤ 57 := fun hh => vd ⟨g1, hh⟩
                      clear vd
                      go_enter Tryz.func21, Tryz.ntmps21
                      go_wp2_with (first
                        | ((with_reducible refine is_alloc ?_); refine wpl_alloc_at rfl 26 rfl _ zeroV ?_; intro wa hw; have hb := hid_grow hw; have BV := hid_alloc0 hw; have hsz := hid_size hw; have hlw : w.heap.size < wa.heap.size := (by omega); clear hw hsz; replace HR := HR.below hb; replace HM := HM.trans (Mv.of hb); clear hb c0 c1 f1 c2; have c0 := HR.c0; have c1 := HR.c1; have f1 := HR.f1; have c2 := HR.c2)
                        | (go_at_call 35; (with_reducible refine (rnextB_in HR hlt).mono ?_); rintro e w2 ⟨rfl, hr, hm⟩; replace BV := Bes.box hm BV hne; replace HR := hr; replace HM := HM.trans hm; clear hr hm c0 c1 f1 c2; have c0 := HR.c0; have c1 := HR.c1; have f1 := HR.f1; have c2 := HR.c2)
                        | (go_at_call 36; (with_reducible refine (rfail_any _ _ HR).mono ?_); rintro e w3 ⟨rfl, hr, hm⟩; replace BV := Bes.box hm BV hne; replace HR := hr; replace HM := HM.trans hm; clear hr hm c0 c1 f1 c2; have c0 := HR.c0; have c1 := HR.c1; have f1 := HR.f1; have c2 := HR.c2)
                        | ((with_reducible refine is_build ?_); refine wpl_build_at (vals := _) (rb_null) rfl _ rfl rfl ?_)
                        | ((with_reducible refine is_store ?_); refine wpl_store_at rfl 26 (.tmp 4) (.tmp 100) rfl w.heap.size JV.zero.cells rfl rfl _ _ BV info_value rfl (jv_one _) ?_; intro w9 hw; replace HR := HR.bes (Bes.row (X := fun q => q = w.heap.size) hw rfl) hne2; replace HM := HM.put hw (Nat.le_refl _); replace BV := hid_row hw BV; clear hw c0 c1 f1 c2; have c0 := HR.c0; have c1 := HR.c1; have f1 := HR.f1; have c2 := HR.c2))
                      refine bodyPost_ret (results_box rfl _ _ w.heap.size _ JV.zero.cells _ rfl BV Tryz.underlying26 rfl info_value) rfl ?_
                      exact RGot.bad HK.out HM (rv_n _) (by decide) HR
                    · clear vd
                      go_enter Tryz.func21, Tryz.ntmps21
                      go_wp2_with (first
                        | ((with_reducible refine is_alloc ?_); refine wpl_alloc_at rfl 26 rfl _ zeroV ?_; intro wa hw; have hb := hid_grow hw; have BV := hid_alloc0 hw; have hsz := hid_size hw; have hlw : w.heap.size < wa.heap.size := (by omega); clear hw hsz; replace HR := HR.below hb; replace HM := HM.trans (Mv.of hb); clear hb c0 c1 f1 c2; have c0 := HR.c0; have c1 := HR.c1; have f1 := HR.f1; have c2 := HR.c2)
                        | (go_at_call 35; (with_reducible refine (rnextB_in HR hlt).mono ?_); rintro e w2 ⟨rfl, hr, hm⟩; replace BV := Bes.box hm BV hne; replace HR := hr; replace HM := HM.trans hm; clear hr hm c0 c1 f1 c2; have c0 := HR.c0; have c1 := HR.c1; have f1 := HR.f1; have c2 := HR.c2)
                        | (go_at_call 36; (with_reducible refine (rfail_any _ _ HR).mono ?_); rintro e w3 ⟨rfl, hr, hm⟩; replace BV := Bes.box hm BV hne; replace HR := hr; replace HM := HM.trans hm; clear hr hm c0 c1 f1 c2; have c0 := HR.c0; have c1 := HR.c1; have f1 := HR.f1; have c2 := HR.c2)
                        | ((with_reducible refine is_build ?_); refine wpl_build_at (vals := _) (rb_null) rfl _ rfl rfl ?_)
                        | ((with_reducible refine is_store ?_); refine wpl_store_at rfl 26 (.tmp 4) (.tmp 100) rfl w.heap.size JV.zero.cells rfl rfl _ _ BV info_value rfl (jv_one _) ?_; intro w9 hw; replace HR := HR.bes (Bes.row (X := fun q => q = w.heap.size) hw rfl) hne2; replace HM := HM.put hw (Nat.le_refl _); replace BV := hid_row hw BV; clear hw c0 c1 f1 c2; have c0 := HR.c0; have c1 := HR.c1; have f1 := HR.f1; have c2 := HR.c2))
                      refine bodyPost_ret (results_box rfl _ _ w.heap.size _ JV.zero.cells _ rfl BV Tryz.underlying26 rfl info_value) rfl ?_
                      exact RGot.bad HK.out HM (rv_n _) (by decide) HR
  · have HK : Hid (valueTo s d i = .bad 3 i) := Lib.hid (v_bad (by rw [pk_end (by omega)]; decide) (by rw [pk_end (by omega)]; decide) (by rw [pk_end (by omega)]; decide) (by rw [pk_end (by omega)]; decide) (by rw [pk_end (by omega)]; decide) (by rw [pk_end (by omega)]; decide) (by rw [pk_end (by omega)]; decide))
    go_enter Tryz.func21, Tryz.ntmps21
    go_wp2_with (first
      | ((with_reducible refine is_alloc ?_); refine wpl_alloc_at rfl 26 rfl _ zeroV ?_; intro wa hw; have hb := hid_grow hw; have BV := hid_alloc0 hw; have hsz := hid_size hw; have hlw : w.heap.size < wa.heap.size := (by omega); clear hw hsz; replace HR := HR.below hb; replace HM := HM.trans (Mv.of hb); clear hb c0 c1 f1 c2; have c0 := HR.c0; have c1 := HR.c1; have f1 := HR.f1; have c2 := HR.c2)
      | (go_at_call 35; (with_reducible refine (rnextB_out HR hlt).mono ?_); rintro e w2 ⟨rfl, hr, hm⟩; replace BV := Bes.box hm BV hne; replace HR := hr; replace HM := HM.trans hm; clear hr hm c0 c1 f1 c2; have c0 := HR.c0; have c1 := HR.c1; have f1 := HR.f1; have c2 := HR.c2)
      | (go_at_call 36; (with_reducible refine (rfail_any _ _ HR).mono ?_); rintro e w3 ⟨rfl, hr, hm⟩; replace BV := Bes.box hm BV hne; replace HR := hr; replace HM := HM.trans hm; clear hr hm c0 c1 f1 c2; have c0 := HR.c0; have c1 := HR.c1; have f1 := HR.f1; have c2 := HR.c2)
      | ((with_reducible refine is_build ?_); refine wpl_build_at (vals := _) (rb_null) rfl _ rfl rfl ?_)
      | ((with_reducible refine is_store ?_); refine wpl_store_at rfl 26 (.tmp 4) (.tmp 100) rfl w.heap.size JV.zero.cells rfl rfl _ _ BV info_value rfl (jv_one _) ?_; intro w9 hw; replace HR := HR.bes (Bes.row (X := fun q => q = w.heap.size) hw rfl) hne2; replace HM := HM.put hw (Nat.le_refl _); replace BV := hid_row hw BV; clear hw c0 c1 f1 c2; have c0 := HR.c0; have c1 := HR.c1; have f1 := HR.f1; have c2 := HR.c2))
    refine bodyPost_ret (results_box rfl _ _ w.heap.size _ JV.zero.cells _ rfl BV Tryz.underlying26 rfl info_value) rfl ?_
    exact RGot.bad HK.out HM (rv_n _) (by decide) HR
theorem rvalue_all (d : Nat) : d ≤ 32 → RvOK d := by
  induction d with
  | zero =>
    intro h
    have hin : ∀ e, 0 = e + 1 → RvOK e := fun e he => by omega
    have hv : RvOK 0 := rvalue_any h hin
    exact @hv
  | succ d ih =>
    intro h
    have hd : RvOK d := ih (by omega)
    have hin : ∀ e, d + 1 = e + 1 → RvOK e := fun e he => by
      have e2 : d = e := by omega
      subst e2
      exact @hd
    have hv : RvOK (d + 1) := rvalue_any h hin
    exact @hv
theorem rvalue0 {w : World} {r : Nat} {s : ByteArray} {i : Nat} (h1 : RR w r s i 0 0) (h3 : i ≤ s.size) (h4 : s.size ≤ 65536) : Calls Tryz.prog 21 #[At r, .int .i64 0] w (RGot (valueTo s 32 i) r s w (RvV w) RvN) := RvOK.at (rvalue_all 32 (Nat.le_refl _)) h1 h3 h4
end
end Go.Proofs.YtjhncopbiblenaaGreatDoor
namespace Go.Proofs.YtjhncopbiblenaaGreatDoor
section
open Go.RowKit Go.PlainAid
set_option linter.unusedVariables false
set_option linter.unusedSimpArgs false
theorem is_box {P : Program} {ops : Array Oper} {rest : List Oper} {a : Act} {w : World} {Q : Exit → Act → World → Prop} {d : Option Tmp} {ty : TypeId} {x : Operand} {tt : TypeId} {ps : String} {af : Array Edge} {gd : Option (Nat × Bool)} (h : wpList P ops Q (⟨d, .box ty x, tt, ps, af, gd⟩ :: rest) a w) : wpList P ops Q (⟨d, .box ty x, tt, ps, af, gd⟩ :: rest) a w := h
theorem rp_zero_bad : (Tryz.prog.info? 33).map (fun i => (i.zero, i.size)) = some (some (.agg #[.int .i64 0, .int .i64 0]), 2) := by kernel_rfl
theorem zeroBad (w : World) : (zeroValue 33).run Tryz.prog w = .ok (.agg #[.int .i64 0, .int .i64 0]) w := (Go.zero_of_info rp_zero_bad).1 w
theorem info_bad : (Tryz.prog.info? 33).map (·.size) = some 2 := by kernel_rfl
theorem rp_badv (c p : Int) (w : World) : (Instr.build 33 ([(0, .int .i64 c), (1, .int .i64 p)] : List (Nat × Value)).toArray).run Tryz.prog w = .ok (.agg #[.int .i64 c, .int .i64 p]) w := by kernel_rfl
theorem rp_bad0 (w : World) : (Instr.build 33 ([] : List (Nat × Value)).toArray).run Tryz.prog w = .ok (.agg #[.int .i64 0, .int .i64 0]) w := by kernel_rfl
theorem rp_reader (s : ByteArray) (w : World) : (Instr.build 56 ([(0, .string s)] : List (Nat × Value)).toArray).run Tryz.prog w = .ok (.agg #[.string s, .int .i64 0, .int .i64 0, .int .i64 0]) w := by kernel_rfl
theorem bad_one (c p : Int) : (#[.int .i64 c, .int .i64 p] : Array Value).all (·.oneCell') = true := by simp [Value.oneCell']
theorem RR.range {w : World} {r : Nat} {s : ByteArray} {i : Nat} {c p : Int} (h : RR w r s i c p) : w.rangeAt r 2 [.int .i64 c, .int .i64 p] := by
  intro j v hv
  match j, hv with
  | 0, hv => have e : Value.int .i64 c = v := by simpa using hv
             rw [← e]; exact h.c2
  | 1, hv => have e : Value.int .i64 p = v := by simpa using hv
             rw [← e]; exact h.c3
theorem yields_bad {ops : Array Oper} {o : Oper} {a : Act} {S : World → Prop} {r : Nat} {s : ByteArray} {i : Nat} {c p : Int} (hw : Region.wanted o (yielded ops a.tmps) = true) (x : Operand) (ho : o.op = .load 33 x) (hx : a.eval x = .pointer (some ⟨r, 2, none⟩)) (hc : ∀ w', S w' → RR w' r s i c p) : YieldsIf Tryz.prog ops S o (.agg #[.int .i64 c, .int .i64 p]) a :=
  yieldsIf_load_mid (P := Tryz.prog) (S := S) hw 33 x ho r 2 hx [.int .i64 c, .int .i64 p] _ (fun w' hS => (hc w' hS).range) Tryz.underlying33 rfl info_bad
/-- What the document's Parse gives. -/
def RpRes (s : ByteArray) (w : World) (e : Ending) (w' : World) : Prop := Below w.heap.size w w' ∧
  (if 65536 < s.size then e = .returned (.tuple #[.agg JV.zero.cells, .agg #[.int .i64 2, .int .i64 (-1)]]) else match parseTo s with
    | .ok t _ => ∃ j, e = .returned (.tuple #[.agg j.cells, .agg #[.int .i64 0, .int .i64 0]]) ∧ IsJV w' j ∧ er j = t
    | .bad c p => e = .returned (.tuple #[.agg JV.zero.cells, .agg #[.int .i64 c, .int .i64 p]]))
theorem RpRes.big {s : ByteArray} {w w' : World} (hs : 65536 < s.size) (hb : Below w.heap.size w w') : RpRes s w (.returned (.tuple #[.agg JV.zero.cells, .agg #[.int .i64 2, .int .i64 (-1)]])) w' := ⟨hb, by rw [if_pos hs]⟩
theorem RpRes.ok {s : ByteArray} {w w' : World} (hs : s.size ≤ 65536) (hb : Below w.heap.size w w') {t : JT} {k : Nat} (hp : parseTo s = .ok t k) {j : JV} (hj : IsJV w' j) (he : er j = t) : RpRes s w (.returned (.tuple #[.agg j.cells, .agg #[.int .i64 0, .int .i64 0]])) w' := ⟨hb, by rw [if_neg (by omega), hp]; exact ⟨j, rfl, hj, he⟩⟩
theorem RpRes.bad {s : ByteArray} {w w' : World} (hs : s.size ≤ 65536) (hb : Below w.heap.size w w') {c : Int} {p : Nat} (hp : parseTo s = .bad c p) : RpRes s w (.returned (.tuple #[.agg JV.zero.cells, .agg #[.int .i64 c, .int .i64 p]])) w' := ⟨hb, by rw [if_neg (by omega), hp]⟩
theorem Below.put {B : Nat} {w a w' : World} {g : Nat} {arr : Array Value} (h : Below B w a) (hw : Hid (w' = a.setRow g arr)) (hg : B ≤ g) : Below B w w' := (hid_row_below hw hg h).1
set_option maxRecDepth 10000 in
set_option maxHeartbeats 8000000 in
theorem rparse_any {w : World} {s : ByteArray} (hsr : s.size ≤ reach) : Calls Tryz.prog 7 #[.string s] w (RpRes s w) := by
  have HB := Below.refl w.heap.size w
  have h64 : s.size ≤ 9223372036854775807 := Nat.le_trans hsr (by decide)
  by_cases hs : 65536 < s.size
  · have HK := Lib.hid hs
    go_enter Tryz.func7, Tryz.ntmps7
    go_wp2_with (first
      | ((with_reducible refine is_alloc ?_); refine wpl_alloc_at rfl 26 rfl _ zeroV ?_; intro wa hw; have hb := hid_grow hw; have BV := hid_alloc0 hw; have hsa := Lib.hid (hid_size hw); clear hw; replace HB := HB.trans (hb.mono HB.size); clear hb)
      | ((with_reducible refine is_alloc ?_); refine wpl_alloc_at rfl 33 rfl _ zeroBad ?_; intro wb hw; have hb := hid_grow hw; have BE := hid_alloc0 hw; have hsb := Lib.hid (hid_size hw); clear hw; replace BV := IBox.below BV hb (IBox.lt BV); replace HB := HB.trans (hb.mono HB.size); clear hb; have n0 : ¬ wa.heap.size = w.heap.size := (by have := hsa.out; omega); have hwa : w.heap.size ≤ wa.heap.size := (by have := hsa.out; omega))
      | ((with_reducible refine is_build ?_); refine wpl_build_at (vals := _) (rb_null) rfl _ rfl rfl ?_)
      | ((with_reducible refine is_build ?_); refine wpl_build_at (vals := _) (rp_badv 2 (-1)) rfl _ rfl rfl ?_)
      | ((with_reducible refine is_store ?_); refine wpl_store_at rfl 26 (.tmp 2) (.tmp 9) rfl w.heap.size JV.zero.cells rfl rfl _ _ BV info_value rfl (jv_one _) ?_; intro w5 hw; have hbe := Bes.row (X := fun q => q = w.heap.size) hw rfl; replace HB := Below.put HB hw (Nat.le_refl _); replace BE := Bes.box hbe BE n0; replace BV := hid_row hw BV; clear hw hbe)
      | ((with_reducible refine is_store ?_); refine wpl_store_at rfl 33 (.tmp 3) (.tmp 10) rfl wa.heap.size #[.int .i64 2, .int .i64 (-1)] rfl rfl _ _ BE info_bad rfl (bad_one _ _) ?_; intro w6 hw; have hbe := Bes.row (X := fun q => q = wa.heap.size) hw rfl; replace HB := Below.put HB hw hwa; replace BV := Bes.box hbe BV (fun e => n0 (Eq.symm e)); replace BE := hid_row hw BE; clear hw hbe))
    refine bodyPost_ret (results_two rfl _ _ w.heap.size _ JV.zero.cells _ rfl BV Tryz.underlying26 rfl info_value wa.heap.size _ rfl (run_loadVar_row _ _ _ _ #[.int .i64 2, .int .i64 (-1)] (0, 0) _ BE Tryz.underlying33 rfl info_bad)) rfl ?_
    exact RpRes.big HK.out HB
  · have HSZ : Hid (s.size ≤ 65536) := Lib.hid (by omega)
    obtain ⟨k0, hk0⟩ : ∃ k0, k0 = skipTo s 0 := ⟨_, rfl⟩
    have hk0s : k0 ≤ s.size := by rw [hk0]; exact skip_le (Nat.zero_le _)
    have HK0 := Lib.hid hk0
    clear hk0
    cases ho : valueTo s 32 k0 with
    | bad c p =>
      have HO := Lib.hid ho
      have HK := Lib.hid (parse_bad (by rw [← HK0.out]; exact ho))
      clear ho
      go_enter Tryz.func7, Tryz.ntmps7
      go_wp2_with (first
        | (refine wpl_newbox 5 rfl rfl 26 rfl rfl (.tmp 17) rfl _ zeroV j.cells rfl rfl info_value rfl (jv_one _) ?_; intro w7 hw; have hb := hid_grow hw; clear hw; replace HR := HR.below hb; replace BV := IBox.below BV hb (IBox.lt BV); replace BE := IBox.below BE hb (IBox.lt BE); replace HB := HB.trans (hb.mono HB.size); clear hb; clear c0 c1 f1 c2; have c0 := HR.c0; have c1 := HR.c1; have f1 := HR.f1; have c2 := HR.c2)
        | ((with_reducible refine is_alloc ?_); refine wpl_alloc_at rfl 26 rfl _ zeroV ?_; intro wa hw; have hb := hid_grow hw; have BV := hid_alloc0 hw; have hsa := Lib.hid (hid_size hw); clear hw; replace HB := HB.trans (hb.mono HB.size); clear hb)
        | ((with_reducible refine is_alloc ?_); refine wpl_alloc_at rfl 33 rfl _ zeroBad ?_; intro wb hw; have hb := hid_grow hw; have BE := hid_alloc0 hw; have hsb := Lib.hid (hid_size hw); clear hw; replace BV := IBox.below BV hb (IBox.lt BV); replace HB := HB.trans (hb.mono HB.size); clear hb; have n0 : ¬ wa.heap.size = w.heap.size := (by have := hsa.out; omega); have hwa : w.heap.size ≤ wa.heap.size := (by have := hsa.out; omega))
        | ((with_reducible refine is_build ?_); refine wpl_build_at (vals := _) (rp_reader s) rfl _ rfl rfl ?_)
        | ((with_reducible refine is_box ?_); refine wpl_box_at rfl 56 (.tmp 12) rfl _ rfl ?_; intro wc hw; have hb := hid_grow hw; have HR : RR wc wb.heap.size s 0 0 0 := (hid_alloc hw).1; have hsc := Lib.hid (hid_size hw); clear hw; replace BV := IBox.below BV hb (IBox.lt BV); replace BE := IBox.below BE hb (IBox.lt BE); replace HB := HB.trans (hb.mono HB.size); clear hb; have n1 : ¬ w.heap.size = wb.heap.size := (by have := hsa.out; have := hsb.out; omega); have n2 : ¬ wa.heap.size = wb.heap.size := (by have := hsb.out; omega); have hlw : w.heap.size ≤ wb.heap.size := (by have := hsa.out; have := hsb.out; omega); have c0 := HR.c0; have c1 := HR.c1; have f1 := HR.f1; have c2 := HR.c2)
        | (go_at_call 20; (with_reducible refine (rblanks_any HR (Nat.zero_le _) HSZ.out).mono ?_); rintro e w3 ⟨rfl, hr, hm⟩; rw [← HK0.out] at hr; replace BV := Bes.box hm BV n1; replace BE := Bes.box hm BE n2; replace HR := hr; replace HB := Below.of_mv HB hm hlw (Below.leB HB (Nat.le_refl _)); clear hr hm c0 c1 f1 c2; have c0 := HR.c0; have c1 := HR.c1; have f1 := HR.f1; have c2 := HR.c2)
        | (go_at_call 21; (refine (rvalue0 HR hk0s HSZ.out).mono ?_); rw [HO.out]; rintro e w4 ⟨hm, ⟨j, rfl⟩, hc, i3, hr⟩; have hc2 : (c == 0) = false := (by simpa using hc); have hc3 : (c != 0) = true := (by simpa using hc); clear hc; replace BV := Bes.box hm BV n1; replace BE := Bes.box hm BE n2; replace HR := hr; replace HB := Below.of_mv HB hm hlw (Below.leB HB (Nat.le_refl _)); clear hr hm c0 c1 f1 c2; have c0 := HR.c0; have c1 := HR.c1; have f1 := HR.f1; have c2 := HR.c2))
      refine wp_region_S (S := fun w' => RR w' wb.heap.size s _ _ _) (by kernel_rfl) (fun w2 hh => box_heap hh HR) (fun w8 hh hbb hS => ?_)
      have hb := hbb _ (Nat.le_refl _)
      replace BV := IBox.below BV hb (IBox.lt BV)
      replace BE := IBox.below BE hb (IBox.lt BE)
      replace HR := HR.below hb
      replace HB := HB.trans (hb.mono HB.size)
      clear hb hbb hh c0 c1 f1 c2
      refine wpAnyH_take (i := 0) (oi := ⟨some 24, _, _, _, _, _⟩) (v := _) rfl (by kernel_rfl) (by kernel_rfl) (by kernel_rfl) (fun _ _ _ h => h) (yields_build (by kernel_rfl) rb_null _ rfl rfl) (by assumption) ?_
      try simp only [Act.put, List.setIfInBounds_toArray, List.set_cons_zero, List.set_cons_succ]
      refine wpAnyH_take (i := 1) (oi := ⟨some 25, _, _, _, _, _⟩) (v := ?_) rfl (by kernel_rfl) (by kernel_rfl) (by kernel_rfl) (fun _ _ _ h => h) (Or.inl ⟨by kernel_rfl, ?_⟩) (by assumption) ?_
      rotate_left
      · (intro w hSw; (try dsimp only at hSw); go_simp; try with_reducible rfl)
      try simp only [Act.put, List.setIfInBounds_toArray, List.set_cons_zero, List.set_cons_succ]
      refine wpAnyH_take (i := 2) (oi := ⟨some 26, _, _, _, _, _⟩) (v := ?_) rfl (by kernel_rfl) (by kernel_rfl) (by kernel_rfl) (fun _ _ _ h => h) (Or.inl ⟨by kernel_rfl, ?_⟩) (by assumption) ?_
      rotate_left
      · (intro w hSw; (try dsimp only at hSw); go_simp; try with_reducible rfl)
      try simp only [Act.put, List.setIfInBounds_toArray, List.set_cons_zero, List.set_cons_succ]
      refine wpAnyH_take (i := 3) (oi := ⟨some 27, _, _, _, _, _⟩) (v := ?_) rfl (by kernel_rfl) (by kernel_rfl) (by kernel_rfl) (fun _ _ _ h => h) (Or.inl ⟨by kernel_rfl, ?_⟩) (by assumption) ?_
      rotate_left
      · (intro w hSw; (try dsimp only at hSw); go_simp; try with_reducible rfl)
      try simp only [Act.put, List.setIfInBounds_toArray, List.set_cons_zero, List.set_cons_succ]
      refine wpAnyH_take (i := 4) (oi := ⟨some 28, _, _, _, _, _⟩) (v := _) rfl (by kernel_rfl) (by kernel_rfl) (by kernel_rfl) (fun _ _ _ h => h) (yields_bad (by kernel_rfl) _ rfl rfl (fun _ h => h)) (by assumption) ?_
      try simp only [Act.put, List.setIfInBounds_toArray, List.set_cons_zero, List.set_cons_succ]
      refine wpAnyH_ready (rs := [5]) (by kernel_rfl) (by simp) ?_
      refine AllReadyH.cons (o := ⟨none, _, _, _, _, _⟩) rfl (fun K hK => ?_) AllReadyH.nil
      simp only [Region.wanted, if_true]
      refine op_store_at 26 _ _ rfl w.heap.size JV.zero.cells rfl rfl _ _ BV info_value rfl (jv_one _) ?_
      intro w9 hw
      have hbe := Bes.row (X := fun q => q = w.heap.size) hw rfl
      replace HB := Below.put HB hw (Nat.le_refl _)
      replace BE := Bes.box hbe BE n0
      replace HR := HR.bes hbe (fun e => n1 (Eq.symm e))
      replace BV := hid_row hw BV
      clear hw hbe
      refine hK.out _ _ HR (fun hS2 => ?_)
      clear hK K
      try simp only [Act.put, List.setIfInBounds_toArray, List.set_cons_zero, List.set_cons_succ]
      refine wpAnyH_ready (rs := [6]) (by kernel_rfl) (by simp) ?_
      refine AllReadyH.cons (o := ⟨none, _, _, _, _, _⟩) rfl (fun K hK => ?_) AllReadyH.nil
      simp only [Region.wanted, if_true]
      refine op_store_at 33 _ _ rfl wa.heap.size #[.int .i64 c, .int .i64 p] rfl rfl _ _ BE info_bad rfl (bad_one _ _) ?_
      intro w9 hw
      have hbe := Bes.row (X := fun q => q = wa.heap.size) hw rfl
      replace HB := Below.put HB hw hwa
      replace BV := Bes.box hbe BV (fun e => n0 (Eq.symm e))
      replace HR := HR.bes hbe (fun e => n2 (Eq.symm e))
      replace BE := hid_row hw BE
      clear hw hbe
      refine hK.out _ _ HR (fun hS2 => ?_)
      clear hK K
      try simp only [Act.put, List.setIfInBounds_toArray, List.set_cons_zero, List.set_cons_succ]
      refine wpAnyH_done (by kernel_rfl) ?_ _
      go_wp2
      refine bodyPost_ret (results_two rfl _ _ w.heap.size _ JV.zero.cells _ rfl BV Tryz.underlying26 rfl info_value wa.heap.size _ rfl (run_loadVar_row _ _ _ _ #[.int .i64 c, .int .i64 p] (0, 0) _ BE Tryz.underlying33 rfl info_bad)) rfl ?_
      exact RpRes.bad HSZ.out HB HK.out
    | ok t k =>
      have HO := Lib.hid ho
      have ho2 : valueTo s 32 (skipTo s 0) = .ok t k := by rw [← HK0.out]; exact ho
      have hks : k ≤ s.size := (value_goes 32 k0 t k ho).2
      obtain ⟨k3, hk3⟩ : ∃ k3, k3 = skipTo s k := ⟨_, rfl⟩
      have HK3 := Lib.hid hk3
      by_cases h2 : k3 < s.size
      · have HK : Hid (parseTo s = .bad 3 k3) := Lib.hid (by rw [hk3] at h2 ⊢; exact parse_more ho2 h2)
        clear ho ho2 hk3
        go_enter Tryz.func7, Tryz.ntmps7
        go_wp2_with (first
          | (refine wpl_newbox 5 rfl rfl 26 rfl rfl (.tmp 17) rfl _ zeroV j.cells rfl rfl info_value rfl (jv_one _) ?_; intro w7 hw; have hb := hid_grow hw; have B5 := (hid_alloc hw).1; have hn5 := Lib.hid (Nat.ne_of_gt (IBox.lt HR)); clear hw; replace HR := HR.below hb; replace hj := IsJV.below hb hj; replace BV := IBox.below BV hb (IBox.lt BV); replace BE := IBox.below BE hb (IBox.lt BE); replace HB := HB.trans (hb.mono HB.size); clear hb; clear c0 c1 f1 c2; have c0 := HR.c0; have c1 := HR.c1; have f1 := HR.f1; have c2 := HR.c2)
          | ((with_reducible refine is_alloc ?_); refine wpl_alloc_at rfl 26 rfl _ zeroV ?_; intro wa hw; have hb := hid_grow hw; have BV := hid_alloc0 hw; have hsa := Lib.hid (hid_size hw); clear hw; replace HB := HB.trans (hb.mono HB.size); clear hb)
          | ((with_reducible refine is_alloc ?_); refine wpl_alloc_at rfl 33 rfl _ zeroBad ?_; intro wb hw; have hb := hid_grow hw; have BE := hid_alloc0 hw; have hsb := Lib.hid (hid_size hw); clear hw; replace BV := IBox.below BV hb (IBox.lt BV); replace HB := HB.trans (hb.mono HB.size); clear hb; have n0 : ¬ wa.heap.size = w.heap.size := (by have := hsa.out; omega); have hwa : w.heap.size ≤ wa.heap.size := (by have := hsa.out; omega))
          | ((with_reducible refine is_build ?_); refine wpl_build_at (vals := _) (rp_reader s) rfl _ rfl rfl ?_)
          | ((with_reducible refine is_box ?_); refine wpl_box_at rfl 56 (.tmp 12) rfl _ rfl ?_; intro wc hw; have hb := hid_grow hw; have HR : RR wc wb.heap.size s 0 0 0 := (hid_alloc hw).1; have hsc := Lib.hid (hid_size hw); clear hw; replace BV := IBox.below BV hb (IBox.lt BV); replace BE := IBox.below BE hb (IBox.lt BE); replace HB := HB.trans (hb.mono HB.size); clear hb; have n1 : ¬ w.heap.size = wb.heap.size := (by have := hsa.out; have := hsb.out; omega); have n2 : ¬ wa.heap.size = wb.heap.size := (by have := hsb.out; omega); have hlw : w.heap.size ≤ wb.heap.size := (by have := hsa.out; have := hsb.out; omega); have c0 := HR.c0; have c1 := HR.c1; have f1 := HR.f1; have c2 := HR.c2)
          | (go_at_call 20; (with_reducible refine (rblanks_any HR (Nat.zero_le _) HSZ.out).mono ?_); rintro e w3 ⟨rfl, hr, hm⟩; rw [← HK0.out] at hr; replace BV := Bes.box hm BV n1; replace BE := Bes.box hm BE n2; replace HR := hr; replace HB := Below.of_mv HB hm hlw (Below.leB HB (Nat.le_refl _)); clear hr hm c0 c1 f1 c2; have c0 := HR.c0; have c1 := HR.c1; have f1 := HR.f1; have c2 := HR.c2)
          | (go_at_call 21; (have hrl := HR.lt; refine (rvalue0 HR hk0s HSZ.out).mono ?_); rw [HO.out]; rintro e w4 ⟨hm, ⟨j, rfl, hj, hje, hjo⟩, hr⟩; have HJE := Lib.hid hje; have HJO : Hid (Off (fun q => q ≤ wb.heap.size) j) := Lib.hid (Off.mono (fun q e => Nat.lt_of_le_of_lt e hrl) hjo); clear hje hjo hrl; replace BV := Bes.box hm BV n1; replace BE := Bes.box hm BE n2; replace HR := hr; replace HB := Below.of_mv HB hm hlw (Below.leB HB (Nat.le_refl _)); clear hr hm c0 c1 f1 c2; have c0 := HR.c0; have c1 := HR.c1; have f1 := HR.f1; have c2 := HR.c2)
          | (go_at_call 20; (with_reducible refine (rblanks_any HR hks HSZ.out).mono ?_); rintro e w3 ⟨rfl, hr, hm⟩; rw [← HK3.out] at hr; replace B5 := Bes.box hm B5 (fun e => hn5.out e); replace hj := IsJV.bes hm hj (Off.mono (fun q e => by have e2 : q = wb.heap.size := e; omega) HJO.out); replace BV := Bes.box hm BV n1; replace BE := Bes.box hm BE n2; replace HR := hr; replace HB := Below.of_mv HB hm hlw (Below.leB HB (Nat.le_refl _)); clear hr hm c0 c1 f1 c2; have c0 := HR.c0; have c1 := HR.c1; have f1 := HR.f1; have c2 := HR.c2))
        refine wp_region_S (S := fun w' => RR w' wb.heap.size s _ _ _) (by kernel_rfl) (fun w2 hh => box_heap hh HR) (fun w8 hh hbb hS => ?_)
        have hb := hbb _ (Nat.le_refl _)
        replace BV := IBox.below BV hb (IBox.lt BV)
        replace BE := IBox.below BE hb (IBox.lt BE)
        replace HR := HR.below hb
        replace HB := HB.trans (hb.mono HB.size)
        clear hb hbb hh c0 c1 f1 c2
        refine wpAnyH_take (i := 0) (oi := ⟨some 38, _, _, _, _, _⟩) (v := _) rfl (by kernel_rfl) (by kernel_rfl) (by kernel_rfl) (fun _ _ _ h => h) (yields_build (by kernel_rfl) rb_null _ rfl rfl) (by assumption) ?_
        try simp only [Act.put, List.setIfInBounds_toArray, List.set_cons_zero, List.set_cons_succ]
        refine wpAnyH_take (i := 1) (oi := ⟨some 39, _, _, _, _, _⟩) (v := ?_) rfl (by kernel_rfl) (by kernel_rfl) (by kernel_rfl) (fun _ _ _ h => h) (Or.inl ⟨by kernel_rfl, ?_⟩) (by assumption) ?_
        rotate_left
        · (intro w hSw; (try dsimp only at hSw); go_simp; try with_reducible rfl)
        try simp only [Act.put, List.setIfInBounds_toArray, List.set_cons_zero, List.set_cons_succ]
        refine wpAnyH_take (i := 2) (oi := ⟨some 40, _, _, _, _, _⟩) (v := ?_) rfl (by kernel_rfl) (by kernel_rfl) (by kernel_rfl) (fun _ _ _ h => h) (Or.inl ⟨by kernel_rfl, ?_⟩) (by assumption) ?_
        rotate_left
        · (intro w hSw; (try dsimp only at hSw); go_simp; try with_reducible rfl)
        try simp only [Act.put, List.setIfInBounds_toArray, List.set_cons_zero, List.set_cons_succ]
        refine wpAnyH_take (i := 3) (oi := ⟨some 41, _, _, _, _, _⟩) (v := ?_) rfl (by kernel_rfl) (by kernel_rfl) (by kernel_rfl) (fun _ _ _ h => h) (Or.inl ⟨by kernel_rfl, ?_⟩) (by assumption) ?_
        rotate_left
        · (intro w hSw; (try dsimp only at hSw); go_simp; try with_reducible rfl)
        try simp only [Act.put, List.setIfInBounds_toArray, List.set_cons_zero, List.set_cons_succ]
        refine wpAnyH_take (i := 4) (oi := ⟨some 42, _, _, _, _, _⟩) (v := ?_) rfl (by kernel_rfl) (by kernel_rfl) (by kernel_rfl) (fun _ _ _ h => h) (Or.inl ⟨by kernel_rfl, ?_⟩) (by assumption) ?_
        rotate_left
        · (intro w hSw; (try dsimp only at hSw); have := RR.c1 hSw; go_simp; try with_reducible rfl)
        try simp only [Act.put, List.setIfInBounds_toArray, List.set_cons_zero, List.set_cons_succ]
        refine wpAnyH_take (i := 5) (oi := ⟨some 43, _, _, _, _, _⟩) (v := _) rfl (by kernel_rfl) (by kernel_rfl) (by kernel_rfl) (fun _ _ _ h => h) (yields_build (by kernel_rfl) (rp_badv 3 _) _ rfl rfl) (by assumption) ?_
        try simp only [Act.put, List.setIfInBounds_toArray, List.set_cons_zero, List.set_cons_succ]
        refine wpAnyH_ready (rs := [6]) (by kernel_rfl) (by simp) ?_
        refine AllReadyH.cons (o := ⟨none, _, _, _, _, _⟩) rfl (fun K hK => ?_) AllReadyH.nil
        simp only [Region.wanted, if_true]
        refine op_store_at 26 _ _ rfl w.heap.size JV.zero.cells rfl rfl _ _ BV info_value rfl (jv_one _) ?_
        intro w9 hw
        have hbe := Bes.row (X := fun q => q = w.heap.size) hw rfl
        replace HB := Below.put HB hw (Nat.le_refl _)
        replace BE := Bes.box hbe BE n0
        replace HR := HR.bes hbe (fun e => n1 (Eq.symm e))
        replace BV := hid_row hw BV
        clear hw hbe
        refine hK.out _ _ HR (fun hS2 => ?_)
        clear hK K
        try simp only [Act.put, List.setIfInBounds_toArray, List.set_cons_zero, List.set_cons_succ]
        refine wpAnyH_ready (rs := [7]) (by kernel_rfl) (by simp) ?_
        refine AllReadyH.cons (o := ⟨none, _, _, _, _, _⟩) rfl (fun K hK => ?_) AllReadyH.nil
        simp only [Region.wanted, if_true]
        refine op_store_at 33 _ _ rfl wa.heap.size #[.int .i64 3, .int .i64 (k3 : Int)] rfl rfl _ _ BE info_bad rfl (bad_one _ _) ?_
        intro w9 hw
        have hbe := Bes.row (X := fun q => q = wa.heap.size) hw rfl
        replace HB := Below.put HB hw hwa
        replace BV := Bes.box hbe BV (fun e => n0 (Eq.symm e))
        replace HR := HR.bes hbe (fun e => n2 (Eq.symm e))
        replace BE := hid_row hw BE
        clear hw hbe
        refine hK.out _ _ HR (fun hS2 => ?_)
        clear hK K
        try simp only [Act.put, List.setIfInBounds_toArray, List.set_cons_zero, List.set_cons_succ]
        refine wpAnyH_done (by kernel_rfl) ?_ _
        go_wp2
        refine bodyPost_ret (results_two rfl _ _ w.heap.size _ JV.zero.cells _ rfl BV Tryz.underlying26 rfl info_value wa.heap.size _ rfl (run_loadVar_row _ _ _ _ #[.int .i64 3, .int .i64 (k3 : Int)] (0, 0) _ BE Tryz.underlying33 rfl info_bad)) rfl ?_
        exact RpRes.bad HSZ.out HB HK.out
      · have HK : Hid (parseTo s = .ok t k3) := Lib.hid (by rw [hk3] at h2 ⊢; exact parse_okk ho2 h2)
        clear ho ho2 hk3
        go_enter Tryz.func7, Tryz.ntmps7
        go_wp2_with (first
          | (refine wpl_newbox 5 rfl rfl 26 rfl rfl (.tmp 17) rfl _ zeroV j.cells rfl rfl info_value rfl (jv_one _) ?_; intro w7 hw; have hb := hid_grow hw; have B5 := (hid_alloc hw).1; have hn5 := Lib.hid (Nat.ne_of_gt (IBox.lt HR)); clear hw; replace HR := HR.below hb; replace hj := IsJV.below hb hj; replace BV := IBox.below BV hb (IBox.lt BV); replace BE := IBox.below BE hb (IBox.lt BE); replace HB := HB.trans (hb.mono HB.size); clear hb; clear c0 c1 f1 c2; have c0 := HR.c0; have c1 := HR.c1; have f1 := HR.f1; have c2 := HR.c2)
          | ((with_reducible refine is_alloc ?_); refine wpl_alloc_at rfl 26 rfl _ zeroV ?_; intro wa hw; have hb := hid_grow hw; have BV := hid_alloc0 hw; have hsa := Lib.hid (hid_size hw); clear hw; replace HB := HB.trans (hb.mono HB.size); clear hb)
          | ((with_reducible refine is_alloc ?_); refine wpl_alloc_at rfl 33 rfl _ zeroBad ?_; intro wb hw; have hb := hid_grow hw; have BE := hid_alloc0 hw; have hsb := Lib.hid (hid_size hw); clear hw; replace BV := IBox.below BV hb (IBox.lt BV); replace HB := HB.trans (hb.mono HB.size); clear hb; have n0 : ¬ wa.heap.size = w.heap.size := (by have := hsa.out; omega); have hwa : w.heap.size ≤ wa.heap.size := (by have := hsa.out; omega))
          | ((with_reducible refine is_build ?_); refine wpl_build_at (vals := _) (rp_reader s) rfl _ rfl rfl ?_)
          | ((with_reducible refine is_box ?_); refine wpl_box_at rfl 56 (.tmp 12) rfl _ rfl ?_; intro wc hw; have hb := hid_grow hw; have HR : RR wc wb.heap.size s 0 0 0 := (hid_alloc hw).1; have hsc := Lib.hid (hid_size hw); clear hw; replace BV := IBox.below BV hb (IBox.lt BV); replace BE := IBox.below BE hb (IBox.lt BE); replace HB := HB.trans (hb.mono HB.size); clear hb; have n1 : ¬ w.heap.size = wb.heap.size := (by have := hsa.out; have := hsb.out; omega); have n2 : ¬ wa.heap.size = wb.heap.size := (by have := hsb.out; omega); have hlw : w.heap.size ≤ wb.heap.size := (by have := hsa.out; have := hsb.out; omega); have c0 := HR.c0; have c1 := HR.c1; have f1 := HR.f1; have c2 := HR.c2)
          | (go_at_call 20; (with_reducible refine (rblanks_any HR (Nat.zero_le _) HSZ.out).mono ?_); rintro e w3 ⟨rfl, hr, hm⟩; rw [← HK0.out] at hr; replace BV := Bes.box hm BV n1; replace BE := Bes.box hm BE n2; replace HR := hr; replace HB := Below.of_mv HB hm hlw (Below.leB HB (Nat.le_refl _)); clear hr hm c0 c1 f1 c2; have c0 := HR.c0; have c1 := HR.c1; have f1 := HR.f1; have c2 := HR.c2)
          | (go_at_call 21; (have hrl := HR.lt; refine (rvalue0 HR hk0s HSZ.out).mono ?_); rw [HO.out]; rintro e w4 ⟨hm, ⟨j, rfl, hj, hje, hjo⟩, hr⟩; have HJE := Lib.hid hje; have HJO : Hid (Off (fun q => q ≤ wb.heap.size) j) := Lib.hid (Off.mono (fun q e => Nat.lt_of_le_of_lt e hrl) hjo); clear hje hjo hrl; replace BV := Bes.box hm BV n1; replace BE := Bes.box hm BE n2; replace HR := hr; replace HB := Below.of_mv HB hm hlw (Below.leB HB (Nat.le_refl _)); clear hr hm c0 c1 f1 c2; have c0 := HR.c0; have c1 := HR.c1; have f1 := HR.f1; have c2 := HR.c2)
          | (go_at_call 20; (with_reducible refine (rblanks_any HR hks HSZ.out).mono ?_); rintro e w3 ⟨rfl, hr, hm⟩; rw [← HK3.out] at hr; replace B5 := Bes.box hm B5 (fun e => hn5.out e); replace hj := IsJV.bes hm hj (Off.mono (fun q e => by have e2 : q = wb.heap.size := e; omega) HJO.out); replace BV := Bes.box hm BV n1; replace BE := Bes.box hm BE n2; replace HR := hr; replace HB := Below.of_mv HB hm hlw (Below.leB HB (Nat.le_refl _)); clear hr hm c0 c1 f1 c2; have c0 := HR.c0; have c1 := HR.c1; have f1 := HR.f1; have c2 := HR.c2)
          | ((with_reducible refine is_load ?_); refine wpl_load_box rfl 26 (.tmp 5) rfl _ rfl _ _ _ B5 Tryz.underlying26 rfl info_value ?_)
          | ((with_reducible refine is_build ?_); refine wpl_build_at (vals := _) (rp_bad0) rfl _ rfl rfl ?_)
          | ((with_reducible refine is_store ?_); refine wpl_store_at rfl 26 (.tmp 2) (.tmp 44) rfl w.heap.size j.cells rfl rfl _ _ BV info_value rfl (jv_one _) ?_; intro w5 hw; have hbe := Bes.row (X := fun q => q = w.heap.size) hw rfl; replace HB := Below.put HB hw (Nat.le_refl _); replace BE := Bes.box hbe BE n0; replace hj := IsJV.bes hbe hj (Off.mono (fun q e => by have e2 : q = w.heap.size := e; omega) HJO.out); replace BV := hid_row hw BV; clear hw hbe)
          | ((with_reducible refine is_store ?_); refine wpl_store_at rfl 33 (.tmp 3) (.tmp 45) rfl wa.heap.size #[.int .i64 0, .int .i64 0] rfl rfl _ _ BE info_bad rfl (bad_one _ _) ?_; intro w6 hw; have hbe := Bes.row (X := fun q => q = wa.heap.size) hw rfl; replace HB := Below.put HB hw hwa; replace BV := Bes.box hbe BV (fun e => n0 (Eq.symm e)); replace hj := IsJV.bes hbe hj (Off.mono (fun q e => by have e2 : q = wa.heap.size := e; have := hsb.out; omega) HJO.out); replace BE := hid_row hw BE; clear hw hbe))
        refine bodyPost_ret (results_two rfl _ _ w.heap.size _ j.cells _ rfl BV Tryz.underlying26 rfl info_value wa.heap.size _ rfl (run_loadVar_row _ _ _ _ #[.int .i64 0, .int .i64 0] (0, 0) _ BE Tryz.underlying33 rfl info_bad)) rfl ?_
        exact RpRes.ok HSZ.out HB HK.out hj HJE.out
end
end Go.Proofs.YtjhncopbiblenaaGreatDoor
namespace Go.Proofs.YtjhncopbiblenaaGreatDoor
section
open Go.RowKit Go.PlainAid
set_option linter.unusedVariables false
set_option linter.unusedSimpArgs false
/-- What is amiss has a number from 3 to 7. -/
def Cd {α : Type} (o : Out α) : Prop := ∀ c p, o = .bad c p → 3 ≤ c ∧ c ≤ 7
theorem Cd.okk {α : Type} {x : α} {k : Nat} : Cd (.ok x k) := fun _ _ h => by cases h
theorem Cd.badd {α : Type} {c : Int} {p : Nat} (h : 3 ≤ c ∧ c ≤ 7) : Cd (.bad c p : Out α) := fun _ _ e => by injection e with e1 _; rw [← e1]; exact h
theorem Cd.map {α β : Type} {o : Out α} {f : α → β} (h : Cd o) : Cd (o.map f) := by
  cases o with
  | ok x k => exact Cd.okk
  | bad c p => exact Cd.badd (h c p rfl)
theorem cd_word {s v : ByteArray} : ∀ (n i : Nat), Cd (wordTo s v n i)
  | 0, i => by unfold wordTo; exact Cd.okk
  | n + 1, i => by
    unfold wordTo
    split
    · exact cd_word n _
    · exact Cd.badd (by omega)
theorem cd_num {s : ByteArray} {i : Nat} : Cd (numTo s i) := by
  have key : ∀ {neg : Bool} {j : Nat}, Cd (numAt s neg i j) := fun {neg j} => by
    unfold numAt
    split
    · exact Cd.badd (by omega)
    · split
      · exact Cd.badd (by omega)
      · exact Cd.okk
  unfold numTo
  split
  · exact key
  · exact key
theorem cd_hex {s : ByteArray} : ∀ (n i : Nat) (v : Int), Cd (hexTo s n i v)
  | 0, i, v => by unfold hexTo; exact Cd.okk
  | n + 1, i, v => by
    unfold hexTo
    split
    · exact Cd.badd (by omega)
    · exact cd_hex n _ _
theorem cd_char {s : ByteArray} {i : Nat} : Cd (charTo s i) := by
  unfold charTo
  split
  · exact Cd.okk
  · split
    · exact Cd.badd (by omega)
    · split
      · rename_i c p hh
        exact Cd.badd (cd_hex 4 _ _ c p hh)
      · split
        · exact Cd.okk
        · split
          · split
            · exact Cd.badd (by omega)
            · split
              · exact Cd.okk
              · exact Cd.badd (by omega)
          · exact Cd.badd (by omega)
theorem cd_textL {s : ByteArray} : ∀ (n i : Nat) (acc : List UInt8), i ≤ s.size → s.size < i + n → Cd (textL s n i acc)
  | 0, i, acc, h1, h2 => by omega
  | n + 1, i, acc, h1, h2 => by
    unfold textL
    split
    · exact Cd.badd (by omega)
    · rename_i h3
      have hi : i < s.size := pk_lt' (by omega)
      split
      · exact Cd.okk
      · split
        · split
          · rename_i c p hh
            exact Cd.badd (cd_char c p hh)
          · rename_i x k hk
            have hg := char_goes x k hk
            exact cd_textL n k _ hg.2 (by omega)
        · split
          · exact Cd.badd (by omega)
          · have hd := dec_bounds s i hi
            exact cd_textL n _ _ hd.2 (by omega)
theorem cd_text {s : ByteArray} {i : Nat} (hi : i < s.size) : Cd (textTo s i) := cd_textL _ _ _ (by omega) (by omega)
theorem cd_eachL {σ : Type} {s : ByteArray} {endc : Int} {step : Nat → σ → Out σ} (hg : ∀ i x, Goes s i (step i x)) (hc : ∀ i x, i ≤ s.size → Cd (step i x)) : ∀ (n i : Nat) (x : σ), i ≤ s.size → s.size < i + n → Cd (eachL s endc step n i x)
  | 0, i, x, h1, h2 => by omega
  | n + 1, i, x, h1, h2 => by
    unfold eachL
    split
    · rename_i c p hh
      exact Cd.badd (hc i x h1 c p hh)
    · rename_i y k hk
      have h3 := hg i x y k hk
      have h4 := skip_ge (s := s) (i := k)
      split
      · exact Cd.okk
      · split
        · rename_i h5
          have h6 := pk_lt h5 (by omega)
          have h7 := skip_ge (s := s) (i := skipTo s k + 1)
          exact cd_eachL hg hc n _ y (skip_le (by omega)) (by omega)
        · exact Cd.badd (by omega)
theorem cd_each {σ : Type} {s : ByteArray} {endc : Int} {step : Nat → σ → Out σ} (hg : ∀ i x, Goes s i (step i x)) (hc : ∀ i x, i ≤ s.size → Cd (step i x)) {i : Nat} (hi : i < s.size) (x : σ) : Cd (eachTo s endc step i x) := by
  unfold eachTo
  split
  · exact Cd.okk
  · exact cd_eachL hg hc _ _ x (skip_le (by omega)) (by omega)
theorem cd_obj {s : ByteArray} {f : Nat → Out JT} (hf : ∀ i, i ≤ s.size → Cd (f i)) (i : Nat) (x : List ByteArray × List JT) : Cd (objStep s f i x) := by
  unfold objStep
  split
  · rename_i h0
    have hi := pk_lt h0 (by omega)
    split
    · rename_i c p hh
      exact Cd.badd (cd_text hi c p hh)
    · rename_i nm k hk
      have hgt := text_goes hi nm k hk
      split
      · exact Cd.badd (by omega)
      · split
        · rename_i c p hh
          exact Cd.badd (cd_word _ _ c p hh)
        · rename_i k2 hk2
          have hg2 := word_goes 1 (skipTo s k) (by omega) bt_colon _ _ hk2
          exact (hf _ (skip_le hg2.2)).map
  · exact Cd.badd (by omega)
theorem cd_value {s : ByteArray} : ∀ (d i : Nat), i ≤ s.size → Cd (valueTo s d i)
  | d, i, hi => by
    unfold valueTo
    split
    · exact (cd_word _ _).map
    · split
      · exact (cd_word _ _).map
      · split
        · exact (cd_word _ _).map
        · split
          · exact cd_num.map
          · split
            · rename_i h0
              exact (cd_text (pk_lt h0 (by omega))).map
            · split
              · exact Cd.badd (by omega)
              · rename_i h0
                have hlt : i < s.size := by
                  rcases Nat.lt_or_ge i s.size with h | h
                  · exact h
                  · rw [pk_end h] at h0; exact absurd ⟨by decide, by decide⟩ h0
                cases d with
                | zero => exact Cd.badd (by omega)
                | succ d =>
                  simp only
                  split
                  · exact (cd_each (list_goes (value_goes d)) (fun i x h => (cd_value d i h).map) hlt _).map
                  · exact (cd_each (obj_goes (value_goes d)) (fun i x h => cd_obj (cd_value d) i x) hlt _).map
theorem cd_parse {s : ByteArray} : Cd (parseTo s) := by
  unfold parseTo
  split
  · rename_i c p hh
    exact Cd.badd (cd_value 32 _ (skip_le (Nat.zero_le _)) c p hh)
  · split
    · exact Cd.badd (by omega)
    · exact Cd.okk
theorem zero_jv (w : World) : IsJV w JV.zero := (leaf_ok w w (k := 0) (i := 0) (b := false) (t := ⟨#[]⟩) mi0 mi0 mze).1
set_option maxRecDepth 10000 in
set_option maxHeartbeats 8000000 in
theorem jparses_any {w : World} (h : Wo w) {s : ByteArray} (hsr : s.size ≤ reach) : Calls Tryz.prog 3 #[.string s] w fun e w' => e = .returned (.bool true) ∧ Below w.heap.size w w' := by
  have HB := Below.refl w.heap.size w
  have HW := h
  by_cases hs : 65536 < s.size
  · have heq := fun w => Lib.run_eql_iface_int (P := Tryz.prog) w (k := .i64) 2 2 Tryz.underlying28 Tryz.codeComp Tryz.underlying31
    have HSZ := Lib.hid hs
    clear hs
    go_enter Tryz.func3, Tryz.ntmps3
    go_wp2_with (first
      | (go_at_call 5; (with_reducible refine (shown_any HW).mono ?_); rintro e w1 ⟨rfl, hb⟩; (try replace hj := IsJV.below hb hj); (try replace hk := IsJV.below hb hk); (try replace hg := IBox.below hg hb (IBox.lt hg)); (try replace B4 := IBox.below B4 hb (IBox.lt B4)); (try replace B6 := IBox.below B6 hb (IBox.lt B6)); (try replace B7 := IBox.below B7 hb (IBox.lt B7)); (try replace c70 := cell_below hb c70); (try replace c71 := cell_below hb c71); replace HB := HB.trans (hb.mono HB.size); replace HW := HW.below hb; clear hb)
      | (refine wpl_newbox 4 rfl rfl 26 rfl rfl (.tmp 14) rfl _ zeroV JV.zero.cells rfl rfl info_value rfl (jv_one _) ?_; intro w7 hw; have hb := hid_grow hw; have BX := (hid_alloc hw).1; clear hw; (try replace hj := IsJV.below hb hj); (try replace hk := IsJV.below hb hk); (try replace hg := IBox.below hg hb (IBox.lt hg)); (try replace B4 := IBox.below B4 hb (IBox.lt B4)); (try replace B6 := IBox.below B6 hb (IBox.lt B6)); (try replace B7 := IBox.below B7 hb (IBox.lt B7)); (try replace c70 := cell_below hb c70); (try replace c71 := cell_below hb c71); replace HB := HB.trans (hb.mono HB.size); replace HW := HW.below hb; clear hb; have B4 := BX; clear BX)
      | (go_at_call 6; (refine (parse_any HW.gl hsr).mono ?_); rintro e w2 ⟨hb, h2⟩; rw [if_pos HSZ.out] at h2; subst h2; (try replace hj := IsJV.below hb hj); (try replace hk := IsJV.below hb hk); (try replace hg := IBox.below hg hb (IBox.lt hg)); (try replace B4 := IBox.below B4 hb (IBox.lt B4)); (try replace B6 := IBox.below B6 hb (IBox.lt B6)); (try replace B7 := IBox.below B7 hb (IBox.lt B7)); (try replace c70 := cell_below hb c70); (try replace c71 := cell_below hb c71); replace HB := HB.trans (hb.mono HB.size); replace HW := HW.below hb; clear hb)
      | (go_at_call 7; (refine (rparse_any hsr).mono ?_); rintro e w3 ⟨hb, h2⟩; rw [if_pos HSZ.out] at h2; subst h2; (try replace hj := IsJV.below hb hj); (try replace hk := IsJV.below hb hk); (try replace hg := IBox.below hg hb (IBox.lt hg)); (try replace B4 := IBox.below B4 hb (IBox.lt B4)); (try replace B6 := IBox.below B6 hb (IBox.lt B6)); (try replace B7 := IBox.below B7 hb (IBox.lt B7)); (try replace c70 := cell_below hb c70); (try replace c71 := cell_below hb c71); replace HB := HB.trans (hb.mono HB.size); replace HW := HW.below hb; clear hb)
      | ((with_reducible refine is_alloc ?_); refine wpl_alloc_at rfl 26 rfl _ zeroV ?_; intro wa hw; have H36 := hid_grow hw; have B6 := hid_alloc0 hw; have hs6 := Lib.hid (hid_size hw); clear hw)
      | ((with_reducible refine is_alloc ?_); refine wpl_alloc_at rfl 33 rfl _ zeroBad ?_; intro wb hw; have hb := hid_grow hw; have B7 := hid_alloc0 hw; have hn7 : ¬ wa.heap.size = w3.heap.size := (by have := hs6.out; omega); have hl7 : w3.heap.size ≤ wa.heap.size := (by have := hs6.out; omega); clear hw; replace B6 := IBox.below B6 hb (IBox.lt B6); replace H36 := H36.trans (hb.mono H36.size); clear hb)
      | ((with_reducible refine is_store ?_); refine wpl_store_at rfl 26 (.tmp 6) (.tmp 19) rfl w3.heap.size JV.zero.cells rfl rfl _ _ B6 info_value rfl (jv_one _) ?_; intro w5 hw; have hbe := Bes.row (X := fun q => q = w3.heap.size) hw rfl; replace H36 := Below.put H36 hw (Nat.le_refl _); replace B7 := Bes.box hbe B7 hn7; replace B6 := hid_row hw B6; clear hw hbe)
      | ((with_reducible refine is_store ?_); refine wpl_store_at rfl 33 (.tmp 7) (.tmp 20) rfl wa.heap.size #[.int .i64 2, .int .i64 (-1)] rfl rfl _ _ B7 info_bad rfl (bad_one _ _) ?_; intro w6 hw; have hbe := Bes.row (X := fun q => q = wa.heap.size) hw rfl; replace H36 := Below.put H36 hw hl7; replace B6 := Bes.box hbe B6 (fun e => hn7 (Eq.symm e)); replace B7 := hid_row hw B7; clear hw hbe; have hb := H36; clear H36; (try replace hj := IsJV.below hb hj); (try replace hk := IsJV.below hb hk); (try replace hg := IBox.below hg hb (IBox.lt hg)); (try replace B4 := IBox.below B4 hb (IBox.lt B4)); (try replace B6 := IBox.below B6 hb (IBox.lt B6)); (try replace B7 := IBox.below B7 hb (IBox.lt B7)); (try replace c70 := cell_below hb c70); (try replace c71 := cell_below hb c71); replace HB := HB.trans (hb.mono HB.size); replace HW := HW.below hb; clear hb; have c70 := B7.cell 0; have c71 := B7.cell 1)
      | ((with_reducible refine is_load ?_); refine wpl_load_box rfl 26 (.tmp 4) rfl _ rfl _ _ _ B4 Tryz.underlying26 rfl info_value ?_)
      | ((with_reducible refine is_load ?_); refine wpl_load_box rfl 26 (.tmp 6) rfl _ rfl _ _ _ B6 Tryz.underlying26 rfl info_value ?_)
      | (go_at_call 8; (with_reducible refine (same_any (zero_jv _) (zero_jv _) rfl).mono ?_); rintro e w8 ⟨rfl, hb⟩; (try replace hj := IsJV.below hb hj); (try replace hk := IsJV.below hb hk); (try replace hg := IBox.below hg hb (IBox.lt hg)); (try replace B4 := IBox.below B4 hb (IBox.lt B4)); (try replace B6 := IBox.below B6 hb (IBox.lt B6)); (try replace B7 := IBox.below B7 hb (IBox.lt B7)); (try replace c70 := cell_below hb c70); (try replace c71 := cell_below hb c71); replace HB := HB.trans (hb.mono HB.size); replace HW := HW.below hb; clear hb))
    go_ret
    exact ⟨rfl, HB⟩
  · have HSZ := Lib.hid hs
    clear hs
    cases hP : parseTo s with
    | bad c p =>
      have hcd := cd_parse c p hP
      have q2 : (c == 2) = false := by simp; omega
      have q0 : (c != 0) = true := by simp; omega
      have q00 : (c == 0) = false := by simp; omega
      have HP := Lib.hid hP
      clear hP hcd
      go_enter Tryz.func3, Tryz.ntmps3
      go_wp2_with (first
        | (go_at_call 5; (with_reducible refine (shown_any HW).mono ?_); rintro e w1 ⟨rfl, hb⟩; (try replace hj := IsJV.below hb hj); (try replace hk := IsJV.below hb hk); (try replace hg := IBox.below hg hb (IBox.lt hg)); (try replace B4 := IBox.below B4 hb (IBox.lt B4)); (try replace B6 := IBox.below B6 hb (IBox.lt B6)); (try replace B7 := IBox.below B7 hb (IBox.lt B7)); (try replace c70 := cell_below hb c70); (try replace c71 := cell_below hb c71); replace HB := HB.trans (hb.mono HB.size); replace HW := HW.below hb; clear hb)
        | (refine wpl_newbox 4 rfl rfl 26 rfl rfl (.tmp 14) rfl _ zeroV JV.zero.cells rfl rfl info_value rfl (jv_one _) ?_; intro w7 hw; have hb := hid_grow hw; have BX := (hid_alloc hw).1; clear hw; (try replace hj := IsJV.below hb hj); (try replace hk := IsJV.below hb hk); (try replace hg := IBox.below hg hb (IBox.lt hg)); (try replace B4 := IBox.below B4 hb (IBox.lt B4)); (try replace B6 := IBox.below B6 hb (IBox.lt B6)); (try replace B7 := IBox.below B7 hb (IBox.lt B7)); (try replace c70 := cell_below hb c70); (try replace c71 := cell_below hb c71); replace HB := HB.trans (hb.mono HB.size); replace HW := HW.below hb; clear hb; have B4 := BX; clear BX)
        | (go_at_call 6; (refine (parse_any HW.gl hsr).mono ?_); rintro e w2 ⟨hb, h2⟩; rw [if_neg HSZ.out, HP.out] at h2; obtain ⟨g, rfl, hg⟩ := h2; (try replace hj := IsJV.below hb hj); (try replace hk := IsJV.below hb hk); (try replace hg := IBox.below hg hb (IBox.lt hg)); (try replace B4 := IBox.below B4 hb (IBox.lt B4)); (try replace B6 := IBox.below B6 hb (IBox.lt B6)); (try replace B7 := IBox.below B7 hb (IBox.lt B7)); (try replace c70 := cell_below hb c70); (try replace c71 := cell_below hb c71); replace HB := HB.trans (hb.mono HB.size); replace HW := HW.below hb; clear hb)
        | (go_at_call 7; (refine (rparse_any hsr).mono ?_); rintro e w3 ⟨hb, h2⟩; rw [if_neg HSZ.out, HP.out] at h2; simp only at h2; subst h2; (try replace hj := IsJV.below hb hj); (try replace hk := IsJV.below hb hk); (try replace hg := IBox.below hg hb (IBox.lt hg)); (try replace B4 := IBox.below B4 hb (IBox.lt B4)); (try replace B6 := IBox.below B6 hb (IBox.lt B6)); (try replace B7 := IBox.below B7 hb (IBox.lt B7)); (try replace c70 := cell_below hb c70); (try replace c71 := cell_below hb c71); replace HB := HB.trans (hb.mono HB.size); replace HW := HW.below hb; clear hb)
        | ((with_reducible refine is_alloc ?_); refine wpl_alloc_at rfl 26 rfl _ zeroV ?_; intro wa hw; have H36 := hid_grow hw; have B6 := hid_alloc0 hw; have hs6 := Lib.hid (hid_size hw); clear hw)
        | ((with_reducible refine is_alloc ?_); refine wpl_alloc_at rfl 33 rfl _ zeroBad ?_; intro wb hw; have hb := hid_grow hw; have B7 := hid_alloc0 hw; have hn7 : ¬ wa.heap.size = w3.heap.size := (by have := hs6.out; omega); have hl7 : w3.heap.size ≤ wa.heap.size := (by have := hs6.out; omega); clear hw; replace B6 := IBox.below B6 hb (IBox.lt B6); replace H36 := H36.trans (hb.mono H36.size); clear hb)
        | ((with_reducible refine is_store ?_); refine wpl_store_at rfl 26 (.tmp 6) (.tmp 19) rfl w3.heap.size JV.zero.cells rfl rfl _ _ B6 info_value rfl (jv_one _) ?_; intro w5 hw; have hbe := Bes.row (X := fun q => q = w3.heap.size) hw rfl; replace H36 := Below.put H36 hw (Nat.le_refl _); replace B7 := Bes.box hbe B7 hn7; replace B6 := hid_row hw B6; clear hw hbe)
        | ((with_reducible refine is_store ?_); refine wpl_store_at rfl 33 (.tmp 7) (.tmp 20) rfl wa.heap.size #[.int .i64 c, .int .i64 p] rfl rfl _ _ B7 info_bad rfl (bad_one _ _) ?_; intro w6 hw; have hbe := Bes.row (X := fun q => q = wa.heap.size) hw rfl; replace H36 := Below.put H36 hw hl7; replace B6 := Bes.box hbe B6 (fun e => hn7 (Eq.symm e)); replace B7 := hid_row hw B7; clear hw hbe; have hb := H36; clear H36; (try replace hj := IsJV.below hb hj); (try replace hk := IsJV.below hb hk); (try replace hg := IBox.below hg hb (IBox.lt hg)); (try replace B4 := IBox.below B4 hb (IBox.lt B4)); (try replace B6 := IBox.below B6 hb (IBox.lt B6)); (try replace B7 := IBox.below B7 hb (IBox.lt B7)); (try replace c70 := cell_below hb c70); (try replace c71 := cell_below hb c71); replace HB := HB.trans (hb.mono HB.size); replace HW := HW.below hb; clear hb; have c70 := B7.cell 0; have c71 := B7.cell 1)
        | ((with_reducible refine is_load ?_); refine wpl_load_box rfl 26 (.tmp 4) rfl _ rfl _ _ _ B4 Tryz.underlying26 rfl info_value ?_)
        | ((with_reducible refine is_load ?_); refine wpl_load_box rfl 26 (.tmp 6) rfl _ rfl _ _ _ B6 Tryz.underlying26 rfl info_value ?_)
        | (go_at_call 8; (with_reducible refine (same_any (zero_jv _) (zero_jv _) rfl).mono ?_); rintro e w8 ⟨rfl, hb⟩; (try replace hj := IsJV.below hb hj); (try replace hk := IsJV.below hb hk); (try replace hg := IBox.below hg hb (IBox.lt hg)); (try replace B4 := IBox.below B4 hb (IBox.lt B4)); (try replace B6 := IBox.below B6 hb (IBox.lt B6)); (try replace B7 := IBox.below B7 hb (IBox.lt B7)); (try replace c70 := cell_below hb c70); (try replace c71 := cell_below hb c71); replace HB := HB.trans (hb.mono HB.size); replace HW := HW.below hb; clear hb)
        | (go_at_call 9; (refine (fault_is HW.ty HW.lt hg).mono ?_); rintro e w9 ⟨rfl, hb⟩; (try replace hj := IsJV.below hb hj); (try replace hk := IsJV.below hb hk); (try replace hg := IBox.below hg hb (IBox.lt hg)); (try replace B4 := IBox.below B4 hb (IBox.lt B4)); (try replace B6 := IBox.below B6 hb (IBox.lt B6)); (try replace B7 := IBox.below B7 hb (IBox.lt B7)); (try replace c70 := cell_below hb c70); (try replace c71 := cell_below hb c71); replace HB := HB.trans (hb.mono HB.size); replace HW := HW.below hb; clear hb))
      go_ret
      exact ⟨rfl, HB⟩
    | ok t k =>
      have HP := Lib.hid hP
      clear hP
      go_enter Tryz.func3, Tryz.ntmps3
      go_wp2_with (first
        | (go_at_call 5; (with_reducible refine (shown_any HW).mono ?_); rintro e w1 ⟨rfl, hb⟩; (try replace hj := IsJV.below hb hj); (try replace hk := IsJV.below hb hk); (try replace hg := IBox.below hg hb (IBox.lt hg)); (try replace B4 := IBox.below B4 hb (IBox.lt B4)); (try replace B6 := IBox.below B6 hb (IBox.lt B6)); (try replace B7 := IBox.below B7 hb (IBox.lt B7)); (try replace c70 := cell_below hb c70); (try replace c71 := cell_below hb c71); replace HB := HB.trans (hb.mono HB.size); replace HW := HW.below hb; clear hb)
        | (refine wpl_newbox 4 rfl rfl 26 rfl rfl (.tmp 14) rfl _ zeroV j.cells rfl rfl info_value rfl (jv_one _) ?_; intro w7 hw; have hb := hid_grow hw; have BX := (hid_alloc hw).1; clear hw; (try replace hj := IsJV.below hb hj); (try replace hk := IsJV.below hb hk); (try replace hg := IBox.below hg hb (IBox.lt hg)); (try replace B4 := IBox.below B4 hb (IBox.lt B4)); (try replace B6 := IBox.below B6 hb (IBox.lt B6)); (try replace B7 := IBox.below B7 hb (IBox.lt B7)); (try replace c70 := cell_below hb c70); (try replace c71 := cell_below hb c71); replace HB := HB.trans (hb.mono HB.size); replace HW := HW.below hb; clear hb; have B4 := BX; clear BX)
        | (go_at_call 6; (refine (parse_any HW.gl hsr).mono ?_); rintro e w2 ⟨hb, h2⟩; rw [if_neg HSZ.out, HP.out] at h2; obtain ⟨j, rfl, hj, hje, _⟩ := h2; have HJE := Lib.hid hje; clear hje; (try replace hj := IsJV.below hb hj); (try replace hk := IsJV.below hb hk); (try replace hg := IBox.below hg hb (IBox.lt hg)); (try replace B4 := IBox.below B4 hb (IBox.lt B4)); (try replace B6 := IBox.below B6 hb (IBox.lt B6)); (try replace B7 := IBox.below B7 hb (IBox.lt B7)); (try replace c70 := cell_below hb c70); (try replace c71 := cell_below hb c71); replace HB := HB.trans (hb.mono HB.size); replace HW := HW.below hb; clear hb)
        | (go_at_call 7; (refine (rparse_any hsr).mono ?_); rintro e w3 ⟨hb, h2⟩; rw [if_neg HSZ.out, HP.out] at h2; obtain ⟨k2, rfl, hk, hke⟩ := h2; have HKE := Lib.hid hke; clear hke; (try replace hj := IsJV.below hb hj); (try replace hk := IsJV.below hb hk); (try replace hg := IBox.below hg hb (IBox.lt hg)); (try replace B4 := IBox.below B4 hb (IBox.lt B4)); (try replace B6 := IBox.below B6 hb (IBox.lt B6)); (try replace B7 := IBox.below B7 hb (IBox.lt B7)); (try replace c70 := cell_below hb c70); (try replace c71 := cell_below hb c71); replace HB := HB.trans (hb.mono HB.size); replace HW := HW.below hb; clear hb)
        | ((with_reducible refine is_alloc ?_); refine wpl_alloc_at rfl 26 rfl _ zeroV ?_; intro wa hw; have H36 := hid_grow hw; have B6 := hid_alloc0 hw; have hs6 := Lib.hid (hid_size hw); clear hw)
        | ((with_reducible refine is_alloc ?_); refine wpl_alloc_at rfl 33 rfl _ zeroBad ?_; intro wb hw; have hb := hid_grow hw; have B7 := hid_alloc0 hw; have hn7 : ¬ wa.heap.size = w3.heap.size := (by have := hs6.out; omega); have hl7 : w3.heap.size ≤ wa.heap.size := (by have := hs6.out; omega); clear hw; replace B6 := IBox.below B6 hb (IBox.lt B6); replace H36 := H36.trans (hb.mono H36.size); clear hb)
        | ((with_reducible refine is_store ?_); refine wpl_store_at rfl 26 (.tmp 6) (.tmp 19) rfl w3.heap.size k2.cells rfl rfl _ _ B6 info_value rfl (jv_one _) ?_; intro w5 hw; have hbe := Bes.row (X := fun q => q = w3.heap.size) hw rfl; replace H36 := Below.put H36 hw (Nat.le_refl _); replace B7 := Bes.box hbe B7 hn7; replace B6 := hid_row hw B6; clear hw hbe)
        | ((with_reducible refine is_store ?_); refine wpl_store_at rfl 33 (.tmp 7) (.tmp 20) rfl wa.heap.size #[.int .i64 0, .int .i64 0] rfl rfl _ _ B7 info_bad rfl (bad_one _ _) ?_; intro w6 hw; have hbe := Bes.row (X := fun q => q = wa.heap.size) hw rfl; replace H36 := Below.put H36 hw hl7; replace B6 := Bes.box hbe B6 (fun e => hn7 (Eq.symm e)); replace B7 := hid_row hw B7; clear hw hbe; have hb := H36; clear H36; (try replace hj := IsJV.below hb hj); (try replace hk := IsJV.below hb hk); (try replace hg := IBox.below hg hb (IBox.lt hg)); (try replace B4 := IBox.below B4 hb (IBox.lt B4)); (try replace B6 := IBox.below B6 hb (IBox.lt B6)); (try replace B7 := IBox.below B7 hb (IBox.lt B7)); (try replace c70 := cell_below hb c70); (try replace c71 := cell_below hb c71); replace HB := HB.trans (hb.mono HB.size); replace HW := HW.below hb; clear hb; have c70 := B7.cell 0; have c71 := B7.cell 1)
        | ((with_reducible refine is_load ?_); refine wpl_load_box rfl 26 (.tmp 4) rfl _ rfl _ _ _ B4 Tryz.underlying26 rfl info_value ?_)
        | ((with_reducible refine is_load ?_); refine wpl_load_box rfl 26 (.tmp 6) rfl _ rfl _ _ _ B6 Tryz.underlying26 rfl info_value ?_)
        | (go_at_call 8; (with_reducible refine (same_any hj hk (HJE.out.trans HKE.out.symm)).mono ?_); rintro e w8 ⟨rfl, hb⟩; (try replace hj := IsJV.below hb hj); (try replace hk := IsJV.below hb hk); (try replace hg := IBox.below hg hb (IBox.lt hg)); (try replace B4 := IBox.below B4 hb (IBox.lt B4)); (try replace B6 := IBox.below B6 hb (IBox.lt B6)); (try replace B7 := IBox.below B7 hb (IBox.lt B7)); (try replace c70 := cell_below hb c70); (try replace c71 := cell_below hb c71); replace HB := HB.trans (hb.mono HB.size); replace HW := HW.below hb; clear hb))
      go_ret
      exact ⟨rfl, HB⟩
end
end Go.Proofs.YtjhncopbiblenaaGreatDoor
