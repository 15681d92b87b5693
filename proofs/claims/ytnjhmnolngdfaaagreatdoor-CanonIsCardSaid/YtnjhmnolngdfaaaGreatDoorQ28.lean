/- Layer 2, the document: its reader (coveyref02): a value, Parse; what is amiss has a number from 3 to 7. -/
import Derived.Test.YtnjhmnolngdfaaaGreatDoorQ16
import Derived.Test.YtnjhmnolngdfaaaGreatDoorQ27
import Derived.Test.YtnjhmnolngdfaaaGreatDoorQZip
set_option linter.unusedVariables false
set_option linter.unusedSimpArgs false
set_option maxHeartbeats 16000000
set_option maxRecDepth 100000
namespace Go.Proofs.YtnjhmnolngdfaaaGreatDoor
section
open Go.RowKit Go.PlainAid
theorem qCj (w : World) : (Instr.build 25 ([] : List (Nat × Value)).toArray).run Tryz.prog w = .ok (.agg JV.zero.cells) w := by kernel_rfl
theorem qLo (w : World) : (Instr.build 25 ([(0, .int .i64 1), (1, .bool true)] : List (Nat × Value)).toArray).run Tryz.prog w = .ok (.agg (qBG 1 true 0 ⟨#[]⟩).cells) w := by kernel_rfl
theorem qIi (w : World) : (Instr.build 25 ([(0, .int .i64 1)] : List (Nat × Value)).toArray).run Tryz.prog w = .ok (.agg (qBG 1 false 0 ⟨#[]⟩).cells) w := by kernel_rfl
theorem qI2 (n : Int) (w : World) : (Instr.build 25 ([(0, .int .i64 2), (2, .int .i64 n)] : List (Nat × Value)).toArray).run Tryz.prog w = .ok (.agg (qBG 2 false n ⟨#[]⟩).cells) w := by kernel_rfl
theorem qLJ (t : ByteArray) (w : World) : (Instr.build 25 ([(0, .int .i64 3), (3, .string t)] : List (Nat × Value)).toArray).run Tryz.prog w = .ok (.agg (qBG 3 false 0 t).cells) w := by kernel_rfl
def qJ6 (k : Int) (A : Option Addr) (n c : Nat) (B : Option Addr) (m e : Nat) : JV := .mk ⟨k, false, 0, ⟨#[]⟩, A, n, c, B, m, e⟩ [] [] []
theorem qLV (A : Option Addr) (n c : Nat) (w : World) : (Instr.build 25 ([(0, .int .i64 4), (4, .slice A n c)] : List (Nat × Value)).toArray).run Tryz.prog w = .ok (.agg (qJ6 4 A n c none 0 0).cells) w := by kernel_rfl
theorem qNS (A : Option Addr) (n c : Nat) (w : World) : (Instr.build 25 ([(0, .int .i64 5), (5, .slice A n c)] : List (Nat × Value)).toArray).run Tryz.prog w = .ok (.agg (qJ6 5 none 0 0 A n c).cells) w := by kernel_rfl
theorem qNU {w : World} {r : Nat} {s : ByteArray} {i : Nat} (h : RR w r s i 0 0) (hi : i ≤ s.size) (hs : s.size ≤ 65536) : Calls Tryz.prog 74 #[At r, .string ⟨#[110, 117, 108, 108]⟩] w (qBL (qBF s qF0 4 i) r s w qJ0 Nix) := qEF qF0 h hi hs (by decide)
theorem qNA {w : World} {r : Nat} {s : ByteArray} {i : Nat} (h : RR w r s i 0 0) (hi : i ≤ s.size) (hs : s.size ≤ 65536) : Calls Tryz.prog 74 #[At r, .string ⟨#[116, 114, 117, 101]⟩] w (qBL (qBF s qFz 4 i) r s w qJ0 Nix) := qEF qFz h hi hs (by decide)
theorem qNQ {w : World} {r : Nat} {s : ByteArray} {i : Nat} (h : RR w r s i 0 0) (hi : i ≤ s.size) (hs : s.size ≤ 65536) : Calls Tryz.prog 74 #[At r, .string ⟨#[102, 97, 108, 115, 101]⟩] w (qBL (qBF s qDt 5 i) r s w qJ0 Nix) := qEF qDt h hi hs (by decide)
theorem qEQ {w w' : World} {t : JT} {k i : Int} {b : Bool} {x : ByteArray} (hk : I64 k) (hi : I64 i) (hx : x.size ≤ qAy) (ht : t = .mk k b i x [] [] []) : RvV w t (.returned (.agg (qBG k b i x).cells)) w' := by
  subst ht; obtain ⟨h1, h2, h3⟩ := qDT w' w hk hi hx; exact ⟨_, rfl, h1, h2, h3⟩
theorem qJl (j : JV) : RvN (.returned (.agg j.cells)) := ⟨j, rfl⟩
theorem qN2 {w w' : World} {A : Option Addr} {c : Nat} {acc : List JV} {l : List JT} (hj : qAi w' (qBy A c acc)) (hl : acc.map er = l) (ho : Off (fun q => q < w.heap.size) (qBy A c acc)) : RvV w (qJx l) (.returned (.agg (qJ6 4 A acc.length c none 0 0).cells)) w' :=
  ⟨qBy A c acc, rfl, hj, by rw [qIC, hl]; rfl, ho⟩
theorem qO6 {w w' : World} {A : Option Addr} {c : Nat} {L : List (ByteArray × JV)} {x : List ByteArray × List JT} (hj : qAi w' (qDD A c L)) (hl : (L.map (·.1), L.map fun p => er p.2) = x) (ho : Off (fun q => q < w.heap.size) (qDD A c L)) : RvV w (qOk x) (.returned (.agg (qJ6 5 none 0 0 A L.length c).cells)) w' :=
  ⟨qDD A c L, rfl, hj, by rw [qGD, ← hl]; rfl, ho⟩
theorem qGF {d : Nat} (hd : d ≤ 32) (hin : ∀ e, d = e + 1 → qIP e) : qIP d := by
 intro w r s i h hi hs; obtain ⟨x, hx⟩ : ∃ x : Int, x = 32 - (d : Int) := ⟨_, rfl⟩; rw [← hx]; (have hx0 : 0 ≤ x := by omega); (have hx1 : x ≤ 32 := by omega); have HX := Lib.hid hx; clear hx; have HR := h; have HM := Mv.refl r w; have hrw := HR.lt; (have hne : ¬ w.heap.size = r := by omega); (have hne2 : ¬ r = w.heap.size := by omega); have c0 := HR.c0; have c1 := HR.c1; have f1 := HR.f1; have c2 := HR.c2
 by_cases hlt : i < s.size
 ·have b0 := bt_nonneg s i; have b1 := bt_le s i; have hpk := qBh hlt
  by_cases v110 : bt s i = 110
  ·have hp := hpk.trans v110; have HV := Lib.hid v110; clear v110 hpk
   cases ho : qBF s qF0 4 i with
   | bad c p =>
    have HK : Hid (qAJ s d i = .bad c p) := Lib.hid (by rw [qI8 hp, ho]; rfl); have HO := Lib.hid ho; clear ho hp; go_enter Tryz.func51, Tryz.ntmps51
    go_wp2_with (first
     | ((with_reducible refine qAG ?_); refine qAE rfl 25 rfl _ qAY ?_; intro wa hw; have hb := qAD hw; have BV := qAI hw; have hsz := qAZ hw; have hlw : w.heap.size < wa.heap.size := (by omega); clear hw hsz; replace HR := HR.below hb; replace HM := HM.trans (Mv.of hb); clear hb c0 c1 f1 c2; have c0 := HR.c0; have c1 := HR.c1; have f1 := HR.f1; have c2 := HR.c2)
     | (go_at_call 72; (with_reducible refine (qAS HR hlt).mono ?_); rintro e w2 ⟨rfl, hr, hm⟩; rw [HV.out]; replace BV := Bes.box hm BV hne; replace HR := hr; replace HM := HM.trans hm; clear hr hm c0 c1 f1 c2; have c0 := HR.c0; have c1 := HR.c1; have f1 := HR.f1; have c2 := HR.c2)
     | (go_at_call 74; (refine (qNU HR hi hs).mono ?_); rw [HO.out]; rintro e w5 ⟨hm, rfl, hc, i3, hr⟩; have HC := Lib.hid hc; clear hc; replace BV := Bes.box hm BV hne; replace HR := hr; replace HM := HM.trans hm; clear hr hm c0 c1 f1 c2; have c0 := HR.c0; have c1 := HR.c1; have f1 := HR.f1; have c2 := HR.c2)
     | ((with_reducible refine qAT ?_); refine qAK (vals := _) (qCj) rfl _ rfl rfl ?_)
     | ((with_reducible refine qAF ?_); refine qAH rfl 25 (.tmp 4) (.tmp 32) rfl w.heap.size JV.zero.cells rfl rfl _ _ BV qAA rfl (qAP _) ?_; intro w9 hw; replace HR := HR.bes (Bes.row (X := fun q => q = w.heap.size) hw rfl) hne2; replace HM := HM.put hw (Nat.le_refl _); replace BV := qAQ hw BV; clear hw c0 c1 f1 c2; have c0 := HR.c0; have c1 := HR.c1; have f1 := HR.f1; have c2 := HR.c2))
    refine bodyPost_ret (qAb rfl _ _ w.heap.size _ JV.zero.cells _ rfl BV Tryz.underlying25 rfl qAA) rfl ?_; exact qBL.bad HK.out HM (qJl _) HC.out HR
   | ok u k =>
    have HK : Hid (qAJ s d i = .ok qJf k) := Lib.hid (by rw [qI8 hp, ho]; rfl); have HO := Lib.hid ho; clear ho hp; go_enter Tryz.func51, Tryz.ntmps51
    go_wp2_with (first
     | ((with_reducible refine qAG ?_); refine qAE rfl 25 rfl _ qAY ?_; intro wa hw; have hb := qAD hw; have BV := qAI hw; have hsz := qAZ hw; have hlw : w.heap.size < wa.heap.size := (by omega); clear hw hsz; replace HR := HR.below hb; replace HM := HM.trans (Mv.of hb); clear hb c0 c1 f1 c2; have c0 := HR.c0; have c1 := HR.c1; have f1 := HR.f1; have c2 := HR.c2)
     | (go_at_call 72; (with_reducible refine (qAS HR hlt).mono ?_); rintro e w2 ⟨rfl, hr, hm⟩; rw [HV.out]; replace BV := Bes.box hm BV hne; replace HR := hr; replace HM := HM.trans hm; clear hr hm c0 c1 f1 c2; have c0 := HR.c0; have c1 := HR.c1; have f1 := HR.f1; have c2 := HR.c2)
     | (go_at_call 74; (refine (qNU HR hi hs).mono ?_); rw [HO.out]; rintro e w5 ⟨hm, rfl, hr⟩; replace BV := Bes.box hm BV hne; replace HR := hr; replace HM := HM.trans hm; clear hr hm c0 c1 f1 c2; have c0 := HR.c0; have c1 := HR.c1; have f1 := HR.f1; have c2 := HR.c2)
     | ((with_reducible refine qAT ?_); refine qAK (vals := _) (qCj) rfl _ rfl rfl ?_)
     | ((with_reducible refine qAF ?_); refine qAH rfl 25 (.tmp 4) (.tmp 32) rfl w.heap.size JV.zero.cells rfl rfl _ _ BV qAA rfl (qAP _) ?_; intro w9 hw; replace HR := HR.bes (Bes.row (X := fun q => q = w.heap.size) hw rfl) hne2; replace HM := HM.put hw (Nat.le_refl _); replace BV := qAQ hw BV; clear hw c0 c1 f1 c2; have c0 := HR.c0; have c1 := HR.c1; have f1 := HR.f1; have c2 := HR.c2))
    refine bodyPost_ret (qAb rfl _ _ w.heap.size _ JV.zero.cells _ rfl BV Tryz.underlying25 rfl qAA) rfl ?_; exact qBL.ok HK.out HM (qEQ mi0 mi0 mze rfl) HR
  ·by_cases v116 : bt s i = 116
   ·have hp := hpk.trans v116; have HV := Lib.hid v116; clear v116 hpk
    cases ho : qBF s qFz 4 i with
    | bad c p =>
     have HK : Hid (qAJ s d i = .bad c p) := Lib.hid (by rw [qI3 hp, ho]; rfl); have HO := Lib.hid ho; clear ho hp; go_enter Tryz.func51, Tryz.ntmps51
     go_wp2_with (first
      | ((with_reducible refine qAG ?_); refine qAE rfl 25 rfl _ qAY ?_; intro wa hw; have hb := qAD hw; have BV := qAI hw; have hsz := qAZ hw; have hlw : w.heap.size < wa.heap.size := (by omega); clear hw hsz; replace HR := HR.below hb; replace HM := HM.trans (Mv.of hb); clear hb c0 c1 f1 c2; have c0 := HR.c0; have c1 := HR.c1; have f1 := HR.f1; have c2 := HR.c2)
      | (go_at_call 72; (with_reducible refine (qAS HR hlt).mono ?_); rintro e w2 ⟨rfl, hr, hm⟩; rw [HV.out]; replace BV := Bes.box hm BV hne; replace HR := hr; replace HM := HM.trans hm; clear hr hm c0 c1 f1 c2; have c0 := HR.c0; have c1 := HR.c1; have f1 := HR.f1; have c2 := HR.c2)
      | (go_at_call 74; (refine (qNA HR hi hs).mono ?_); rw [HO.out]; rintro e w5 ⟨hm, rfl, hc, i3, hr⟩; have HC := Lib.hid hc; clear hc; replace BV := Bes.box hm BV hne; replace HR := hr; replace HM := HM.trans hm; clear hr hm c0 c1 f1 c2; have c0 := HR.c0; have c1 := HR.c1; have f1 := HR.f1; have c2 := HR.c2)
      | ((with_reducible refine qAT ?_); refine qAK (vals := _) (qLo) rfl _ rfl rfl ?_)
      | ((with_reducible refine qAF ?_); refine qAH rfl 25 (.tmp 4) (.tmp 38) rfl w.heap.size (qBG 1 true 0 ⟨#[]⟩).cells rfl rfl _ _ BV qAA rfl (qAP _) ?_; intro w9 hw; replace HR := HR.bes (Bes.row (X := fun q => q = w.heap.size) hw rfl) hne2; replace HM := HM.put hw (Nat.le_refl _); replace BV := qAQ hw BV; clear hw c0 c1 f1 c2; have c0 := HR.c0; have c1 := HR.c1; have f1 := HR.f1; have c2 := HR.c2))
     refine bodyPost_ret (qAb rfl _ _ w.heap.size _ (qBG 1 true 0 ⟨#[]⟩).cells _ rfl BV Tryz.underlying25 rfl qAA) rfl ?_; exact qBL.bad HK.out HM (qJl _) HC.out HR
    | ok u k =>
     have HK : Hid (qAJ s d i = .ok (qFu true) k) := Lib.hid (by rw [qI3 hp, ho]; rfl); have HO := Lib.hid ho; clear ho hp; go_enter Tryz.func51, Tryz.ntmps51
     go_wp2_with (first
      | ((with_reducible refine qAG ?_); refine qAE rfl 25 rfl _ qAY ?_; intro wa hw; have hb := qAD hw; have BV := qAI hw; have hsz := qAZ hw; have hlw : w.heap.size < wa.heap.size := (by omega); clear hw hsz; replace HR := HR.below hb; replace HM := HM.trans (Mv.of hb); clear hb c0 c1 f1 c2; have c0 := HR.c0; have c1 := HR.c1; have f1 := HR.f1; have c2 := HR.c2)
      | (go_at_call 72; (with_reducible refine (qAS HR hlt).mono ?_); rintro e w2 ⟨rfl, hr, hm⟩; rw [HV.out]; replace BV := Bes.box hm BV hne; replace HR := hr; replace HM := HM.trans hm; clear hr hm c0 c1 f1 c2; have c0 := HR.c0; have c1 := HR.c1; have f1 := HR.f1; have c2 := HR.c2)
      | (go_at_call 74; (refine (qNA HR hi hs).mono ?_); rw [HO.out]; rintro e w5 ⟨hm, rfl, hr⟩; replace BV := Bes.box hm BV hne; replace HR := hr; replace HM := HM.trans hm; clear hr hm c0 c1 f1 c2; have c0 := HR.c0; have c1 := HR.c1; have f1 := HR.f1; have c2 := HR.c2)
      | ((with_reducible refine qAT ?_); refine qAK (vals := _) (qLo) rfl _ rfl rfl ?_)
      | ((with_reducible refine qAF ?_); refine qAH rfl 25 (.tmp 4) (.tmp 38) rfl w.heap.size (qBG 1 true 0 ⟨#[]⟩).cells rfl rfl _ _ BV qAA rfl (qAP _) ?_; intro w9 hw; replace HR := HR.bes (Bes.row (X := fun q => q = w.heap.size) hw rfl) hne2; replace HM := HM.put hw (Nat.le_refl _); replace BV := qAQ hw BV; clear hw c0 c1 f1 c2; have c0 := HR.c0; have c1 := HR.c1; have f1 := HR.f1; have c2 := HR.c2))
     refine bodyPost_ret (qAb rfl _ _ w.heap.size _ (qBG 1 true 0 ⟨#[]⟩).cells _ rfl BV Tryz.underlying25 rfl qAA) rfl ?_; exact qBL.ok HK.out HM (qEQ qKh mi0 mze rfl) HR
   ·by_cases v102 : bt s i = 102
    ·have hp := hpk.trans v102; have HV := Lib.hid v102; clear v102 hpk
     cases ho : qBF s qDt 5 i with
     | bad c p =>
      have HK : Hid (qAJ s d i = .bad c p) := Lib.hid (by rw [qGk hp, ho]; rfl); have HO := Lib.hid ho; clear ho hp; go_enter Tryz.func51, Tryz.ntmps51
      go_wp2_with (first
       | ((with_reducible refine qAG ?_); refine qAE rfl 25 rfl _ qAY ?_; intro wa hw; have hb := qAD hw; have BV := qAI hw; have hsz := qAZ hw; have hlw : w.heap.size < wa.heap.size := (by omega); clear hw hsz; replace HR := HR.below hb; replace HM := HM.trans (Mv.of hb); clear hb c0 c1 f1 c2; have c0 := HR.c0; have c1 := HR.c1; have f1 := HR.f1; have c2 := HR.c2)
       | (go_at_call 72; (with_reducible refine (qAS HR hlt).mono ?_); rintro e w2 ⟨rfl, hr, hm⟩; rw [HV.out]; replace BV := Bes.box hm BV hne; replace HR := hr; replace HM := HM.trans hm; clear hr hm c0 c1 f1 c2; have c0 := HR.c0; have c1 := HR.c1; have f1 := HR.f1; have c2 := HR.c2)
       | (go_at_call 74; (refine (qNQ HR hi hs).mono ?_); rw [HO.out]; rintro e w5 ⟨hm, rfl, hc, i3, hr⟩; have HC := Lib.hid hc; clear hc; replace BV := Bes.box hm BV hne; replace HR := hr; replace HM := HM.trans hm; clear hr hm c0 c1 f1 c2; have c0 := HR.c0; have c1 := HR.c1; have f1 := HR.f1; have c2 := HR.c2)
       | ((with_reducible refine qAT ?_); refine qAK (vals := _) (qIi) rfl _ rfl rfl ?_)
       | ((with_reducible refine qAF ?_); refine qAH rfl 25 (.tmp 4) (.tmp 44) rfl w.heap.size (qBG 1 false 0 ⟨#[]⟩).cells rfl rfl _ _ BV qAA rfl (qAP _) ?_; intro w9 hw; replace HR := HR.bes (Bes.row (X := fun q => q = w.heap.size) hw rfl) hne2; replace HM := HM.put hw (Nat.le_refl _); replace BV := qAQ hw BV; clear hw c0 c1 f1 c2; have c0 := HR.c0; have c1 := HR.c1; have f1 := HR.f1; have c2 := HR.c2))
      refine bodyPost_ret (qAb rfl _ _ w.heap.size _ (qBG 1 false 0 ⟨#[]⟩).cells _ rfl BV Tryz.underlying25 rfl qAA) rfl ?_; exact qBL.bad HK.out HM (qJl _) HC.out HR
     | ok u k =>
      have HK : Hid (qAJ s d i = .ok (qFu false) k) := Lib.hid (by rw [qGk hp, ho]; rfl); have HO := Lib.hid ho; clear ho hp; go_enter Tryz.func51, Tryz.ntmps51
      go_wp2_with (first
       | ((with_reducible refine qAG ?_); refine qAE rfl 25 rfl _ qAY ?_; intro wa hw; have hb := qAD hw; have BV := qAI hw; have hsz := qAZ hw; have hlw : w.heap.size < wa.heap.size := (by omega); clear hw hsz; replace HR := HR.below hb; replace HM := HM.trans (Mv.of hb); clear hb c0 c1 f1 c2; have c0 := HR.c0; have c1 := HR.c1; have f1 := HR.f1; have c2 := HR.c2)
       | (go_at_call 72; (with_reducible refine (qAS HR hlt).mono ?_); rintro e w2 ⟨rfl, hr, hm⟩; rw [HV.out]; replace BV := Bes.box hm BV hne; replace HR := hr; replace HM := HM.trans hm; clear hr hm c0 c1 f1 c2; have c0 := HR.c0; have c1 := HR.c1; have f1 := HR.f1; have c2 := HR.c2)
       | (go_at_call 74; (refine (qNQ HR hi hs).mono ?_); rw [HO.out]; rintro e w5 ⟨hm, rfl, hr⟩; replace BV := Bes.box hm BV hne; replace HR := hr; replace HM := HM.trans hm; clear hr hm c0 c1 f1 c2; have c0 := HR.c0; have c1 := HR.c1; have f1 := HR.f1; have c2 := HR.c2)
       | ((with_reducible refine qAT ?_); refine qAK (vals := _) (qIi) rfl _ rfl rfl ?_)
       | ((with_reducible refine qAF ?_); refine qAH rfl 25 (.tmp 4) (.tmp 44) rfl w.heap.size (qBG 1 false 0 ⟨#[]⟩).cells rfl rfl _ _ BV qAA rfl (qAP _) ?_; intro w9 hw; replace HR := HR.bes (Bes.row (X := fun q => q = w.heap.size) hw rfl) hne2; replace HM := HM.put hw (Nat.le_refl _); replace BV := qAQ hw BV; clear hw c0 c1 f1 c2; have c0 := HR.c0; have c1 := HR.c1; have f1 := HR.f1; have c2 := HR.c2))
      refine bodyPost_ret (qAb rfl _ _ w.heap.size _ (qBG 1 false 0 ⟨#[]⟩).cells _ rfl BV Tryz.underlying25 rfl qAA) rfl ?_; exact qBL.ok HK.out HM (qEQ qKh mi0 mze rfl) HR
    ·by_cases v45 : bt s i = 45
     ·have HD : Hid (pk s i = 45 ∨ qBa (pk s i) = true) := Lib.hid (.inl (hpk.trans v45)); have HV := Lib.hid v45; clear v45 hpk
      cases ho : qBo s i with
      | bad c p =>
       have HK : Hid (qAJ s d i = .bad c p) := Lib.hid (by rw [qG2 HD.out, ho]; rfl); have HO := Lib.hid ho; clear ho; go_enter Tryz.func51, Tryz.ntmps51
       go_wp2_with (first
        | ((with_reducible refine qAG ?_); refine qAE rfl 25 rfl _ qAY ?_; intro wa hw; have hb := qAD hw; have BV := qAI hw; have hsz := qAZ hw; have hlw : w.heap.size < wa.heap.size := (by omega); clear hw hsz; replace HR := HR.below hb; replace HM := HM.trans (Mv.of hb); clear hb c0 c1 f1 c2; have c0 := HR.c0; have c1 := HR.c1; have f1 := HR.f1; have c2 := HR.c2)
        | (go_at_call 72; (with_reducible refine (qAS HR hlt).mono ?_); rintro e w2 ⟨rfl, hr, hm⟩; rw [HV.out]; replace BV := Bes.box hm BV hne; replace HR := hr; replace HM := HM.trans hm; clear hr hm c0 c1 f1 c2; have c0 := HR.c0; have c1 := HR.c1; have f1 := HR.f1; have c2 := HR.c2)
        | (go_at_call 75; (refine (qDF HR hlt hs).mono ?_); rw [HO.out]; rintro e w5 ⟨hm, rfl, hc, i3, hr⟩; have HC := Lib.hid hc; clear hc; replace BV := Bes.box hm BV hne; replace HR := hr; replace HM := HM.trans hm; clear hr hm c0 c1 f1 c2; have c0 := HR.c0; have c1 := HR.c1; have f1 := HR.f1; have c2 := HR.c2)
        | ((with_reducible refine qAT ?_); refine qAK (vals := _) (qI2 0) rfl _ rfl rfl ?_)
        | ((with_reducible refine qAF ?_); refine qAH rfl 25 (.tmp 4) (.tmp 58) rfl w.heap.size (qBG 2 false 0 ⟨#[]⟩).cells rfl rfl _ _ BV qAA rfl (qAP _) ?_; intro w9 hw; replace HR := HR.bes (Bes.row (X := fun q => q = w.heap.size) hw rfl) hne2; replace HM := HM.put hw (Nat.le_refl _); replace BV := qAQ hw BV; clear hw c0 c1 f1 c2; have c0 := HR.c0; have c1 := HR.c1; have f1 := HR.f1; have c2 := HR.c2))
       refine bodyPost_ret (qAb rfl _ _ w.heap.size _ (qBG 2 false 0 ⟨#[]⟩).cells _ rfl BV Tryz.underlying25 rfl qAA) rfl ?_; exact qBL.bad HK.out HM (qJl _) HC.out HR
      | ok n k =>
       have HK : Hid (qAJ s d i = .ok (qOD n) k) := Lib.hid (by rw [qG2 HD.out, ho]; rfl); have HNI := Lib.hid (qGS ho); have HO := Lib.hid ho; clear ho; go_enter Tryz.func51, Tryz.ntmps51
       go_wp2_with (first
        | ((with_reducible refine qAG ?_); refine qAE rfl 25 rfl _ qAY ?_; intro wa hw; have hb := qAD hw; have BV := qAI hw; have hsz := qAZ hw; have hlw : w.heap.size < wa.heap.size := (by omega); clear hw hsz; replace HR := HR.below hb; replace HM := HM.trans (Mv.of hb); clear hb c0 c1 f1 c2; have c0 := HR.c0; have c1 := HR.c1; have f1 := HR.f1; have c2 := HR.c2)
        | (go_at_call 72; (with_reducible refine (qAS HR hlt).mono ?_); rintro e w2 ⟨rfl, hr, hm⟩; rw [HV.out]; replace BV := Bes.box hm BV hne; replace HR := hr; replace HM := HM.trans hm; clear hr hm c0 c1 f1 c2; have c0 := HR.c0; have c1 := HR.c1; have f1 := HR.f1; have c2 := HR.c2)
        | (go_at_call 75; (refine (qDF HR hlt hs).mono ?_); rw [HO.out]; rintro e w5 ⟨hm, rfl, hr⟩; replace BV := Bes.box hm BV hne; replace HR := hr; replace HM := HM.trans hm; clear hr hm c0 c1 f1 c2; have c0 := HR.c0; have c1 := HR.c1; have f1 := HR.f1; have c2 := HR.c2)
        | ((with_reducible refine qAT ?_); refine qAK (vals := _) (qI2 n) rfl _ rfl rfl ?_)
        | ((with_reducible refine qAF ?_); refine qAH rfl 25 (.tmp 4) (.tmp 58) rfl w.heap.size (qBG 2 false n ⟨#[]⟩).cells rfl rfl _ _ BV qAA rfl (qAP _) ?_; intro w9 hw; replace HR := HR.bes (Bes.row (X := fun q => q = w.heap.size) hw rfl) hne2; replace HM := HM.put hw (Nat.le_refl _); replace BV := qAQ hw BV; clear hw c0 c1 f1 c2; have c0 := HR.c0; have c1 := HR.c1; have f1 := HR.f1; have c2 := HR.c2))
       refine bodyPost_ret (qAb rfl _ _ w.heap.size _ (qBG 2 false n ⟨#[]⟩).cells _ rfl BV Tryz.underlying25 rfl qAA) rfl ?_; exact qBL.ok HK.out HM (qEQ qLO HNI.out mze rfl) HR
     ·by_cases vd : 48 ≤ bt s i ∧ bt s i ≤ 57
      ·have HD : Hid (pk s i = 45 ∨ qBa (pk s i) = true) := Lib.hid (.inr (qHb hlt vd.1 vd.2)); obtain ⟨g1, g2⟩ := vd; (have q110 : (bt s i == 110) = false := by simpa using v110); (have q116 : (bt s i == 116) = false := by simpa using v116); (have q102 : (bt s i == 102) = false := by simpa using v102); (have q45 : (bt s i == 45) = false := by simpa using v45); clear v110 v116 v102 v45 hpk
       cases ho : qBo s i with
       | bad c p =>
        have HK : Hid (qAJ s d i = .bad c p) := Lib.hid (by rw [qG2 HD.out, ho]; rfl); have HO := Lib.hid ho; clear ho; go_enter Tryz.func51, Tryz.ntmps51
        go_wp2_with (first
         | ((with_reducible refine qAG ?_); refine qAE rfl 25 rfl _ qAY ?_; intro wa hw; have hb := qAD hw; have BV := qAI hw; have hsz := qAZ hw; have hlw : w.heap.size < wa.heap.size := (by omega); clear hw hsz; replace HR := HR.below hb; replace HM := HM.trans (Mv.of hb); clear hb c0 c1 f1 c2; have c0 := HR.c0; have c1 := HR.c1; have f1 := HR.f1; have c2 := HR.c2)
         | (go_at_call 72; (with_reducible refine (qAS HR hlt).mono ?_); rintro e w2 ⟨rfl, hr, hm⟩; replace BV := Bes.box hm BV hne; replace HR := hr; replace HM := HM.trans hm; clear hr hm c0 c1 f1 c2; have c0 := HR.c0; have c1 := HR.c1; have f1 := HR.f1; have c2 := HR.c2)
         | (go_at_call 75; (refine (qDF HR hlt hs).mono ?_); rw [HO.out]; rintro e w5 ⟨hm, rfl, hc, i3, hr⟩; have HC := Lib.hid hc; clear hc; replace BV := Bes.box hm BV hne; replace HR := hr; replace HM := HM.trans hm; clear hr hm c0 c1 f1 c2; have c0 := HR.c0; have c1 := HR.c1; have f1 := HR.f1; have c2 := HR.c2)
         | ((with_reducible refine qAT ?_); refine qAK (vals := _) (qI2 0) rfl _ rfl rfl ?_)
         | ((with_reducible refine qAF ?_); refine qAH rfl 25 (.tmp 4) (.tmp 58) rfl w.heap.size (qBG 2 false 0 ⟨#[]⟩).cells rfl rfl _ _ BV qAA rfl (qAP _) ?_; intro w9 hw; replace HR := HR.bes (Bes.row (X := fun q => q = w.heap.size) hw rfl) hne2; replace HM := HM.put hw (Nat.le_refl _); replace BV := qAQ hw BV; clear hw c0 c1 f1 c2; have c0 := HR.c0; have c1 := HR.c1; have f1 := HR.f1; have c2 := HR.c2))
        refine bodyPost_ret (qAb rfl _ _ w.heap.size _ (qBG 2 false 0 ⟨#[]⟩).cells _ rfl BV Tryz.underlying25 rfl qAA) rfl ?_; exact qBL.bad HK.out HM (qJl _) HC.out HR
       | ok n k =>
        have HK : Hid (qAJ s d i = .ok (qOD n) k) := Lib.hid (by rw [qG2 HD.out, ho]; rfl); have HNI := Lib.hid (qGS ho); have HO := Lib.hid ho; clear ho; go_enter Tryz.func51, Tryz.ntmps51
        go_wp2_with (first
         | ((with_reducible refine qAG ?_); refine qAE rfl 25 rfl _ qAY ?_; intro wa hw; have hb := qAD hw; have BV := qAI hw; have hsz := qAZ hw; have hlw : w.heap.size < wa.heap.size := (by omega); clear hw hsz; replace HR := HR.below hb; replace HM := HM.trans (Mv.of hb); clear hb c0 c1 f1 c2; have c0 := HR.c0; have c1 := HR.c1; have f1 := HR.f1; have c2 := HR.c2)
         | (go_at_call 72; (with_reducible refine (qAS HR hlt).mono ?_); rintro e w2 ⟨rfl, hr, hm⟩; replace BV := Bes.box hm BV hne; replace HR := hr; replace HM := HM.trans hm; clear hr hm c0 c1 f1 c2; have c0 := HR.c0; have c1 := HR.c1; have f1 := HR.f1; have c2 := HR.c2)
         | (go_at_call 75; (refine (qDF HR hlt hs).mono ?_); rw [HO.out]; rintro e w5 ⟨hm, rfl, hr⟩; replace BV := Bes.box hm BV hne; replace HR := hr; replace HM := HM.trans hm; clear hr hm c0 c1 f1 c2; have c0 := HR.c0; have c1 := HR.c1; have f1 := HR.f1; have c2 := HR.c2)
         | ((with_reducible refine qAT ?_); refine qAK (vals := _) (qI2 n) rfl _ rfl rfl ?_)
         | ((with_reducible refine qAF ?_); refine qAH rfl 25 (.tmp 4) (.tmp 58) rfl w.heap.size (qBG 2 false n ⟨#[]⟩).cells rfl rfl _ _ BV qAA rfl (qAP _) ?_; intro w9 hw; replace HR := HR.bes (Bes.row (X := fun q => q = w.heap.size) hw rfl) hne2; replace HM := HM.put hw (Nat.le_refl _); replace BV := qAQ hw BV; clear hw c0 c1 f1 c2; have c0 := HR.c0; have c1 := HR.c1; have f1 := HR.f1; have c2 := HR.c2))
        refine bodyPost_ret (qAb rfl _ _ w.heap.size _ (qBG 2 false n ⟨#[]⟩).cells _ rfl BV Tryz.underlying25 rfl qAA) rfl ?_; exact qBL.ok HK.out HM (qEQ qLO HNI.out mze rfl) HR
      ·by_cases v34 : bt s i = 34
       ·have hp := hpk.trans v34; have HV := Lib.hid v34; clear v34 hpk
        cases ho : qBK s i with
        | bad c p =>
         have HK : Hid (qAJ s d i = .bad c p) := Lib.hid (by rw [qJM hp, ho]; rfl); have HO := Lib.hid ho; clear ho hp; go_enter Tryz.func51, Tryz.ntmps51
         go_wp2_with (first
          | ((with_reducible refine qAG ?_); refine qAE rfl 25 rfl _ qAY ?_; intro wa hw; have hb := qAD hw; have BV := qAI hw; have hsz := qAZ hw; have hlw : w.heap.size < wa.heap.size := (by omega); clear hw hsz; replace HR := HR.below hb; replace HM := HM.trans (Mv.of hb); clear hb c0 c1 f1 c2; have c0 := HR.c0; have c1 := HR.c1; have f1 := HR.f1; have c2 := HR.c2)
          | (go_at_call 72; (with_reducible refine (qAS HR hlt).mono ?_); rintro e w2 ⟨rfl, hr, hm⟩; rw [HV.out]; replace BV := Bes.box hm BV hne; replace HR := hr; replace HM := HM.trans hm; clear hr hm c0 c1 f1 c2; have c0 := HR.c0; have c1 := HR.c1; have f1 := HR.f1; have c2 := HR.c2)
          | (go_at_call 76; (refine (qCu HR hlt hs).mono ?_); rw [HO.out]; rintro e w5 ⟨hm, rfl, hc, i3, hr⟩; have HC := Lib.hid hc; clear hc; replace BV := Bes.box hm BV hne; replace HR := hr; replace HM := HM.trans hm; clear hr hm c0 c1 f1 c2; have c0 := HR.c0; have c1 := HR.c1; have f1 := HR.f1; have c2 := HR.c2)
          | ((with_reducible refine qAT ?_); refine qAK (vals := _) (qLJ ⟨#[]⟩) rfl _ rfl rfl ?_)
          | ((with_reducible refine qAF ?_); refine qAH rfl 25 (.tmp 4) (.tmp 64) rfl w.heap.size (qBG 3 false 0 ⟨#[]⟩).cells rfl rfl _ _ BV qAA rfl (qAP _) ?_; intro w9 hw; replace HR := HR.bes (Bes.row (X := fun q => q = w.heap.size) hw rfl) hne2; replace HM := HM.put hw (Nat.le_refl _); replace BV := qAQ hw BV; clear hw c0 c1 f1 c2; have c0 := HR.c0; have c1 := HR.c1; have f1 := HR.f1; have c2 := HR.c2))
         refine bodyPost_ret (qAb rfl _ _ w.heap.size _ (qBG 3 false 0 ⟨#[]⟩).cells _ rfl BV Tryz.underlying25 rfl qAA) rfl ?_; exact qBL.bad HK.out HM (qJl _) HC.out HR
        | ok t k =>
         have HK : Hid (qAJ s d i = .ok (qKb t) k) := Lib.hid (by rw [qJM hp, ho]; rfl); have HTS : Hid (t.size ≤ qAy) := Lib.hid (by have := qEO ho hlt; unfold qAy; omega); have HO := Lib.hid ho; clear ho hp; go_enter Tryz.func51, Tryz.ntmps51
         go_wp2_with (first
          | ((with_reducible refine qAG ?_); refine qAE rfl 25 rfl _ qAY ?_; intro wa hw; have hb := qAD hw; have BV := qAI hw; have hsz := qAZ hw; have hlw : w.heap.size < wa.heap.size := (by omega); clear hw hsz; replace HR := HR.below hb; replace HM := HM.trans (Mv.of hb); clear hb c0 c1 f1 c2; have c0 := HR.c0; have c1 := HR.c1; have f1 := HR.f1; have c2 := HR.c2)
          | (go_at_call 72; (with_reducible refine (qAS HR hlt).mono ?_); rintro e w2 ⟨rfl, hr, hm⟩; rw [HV.out]; replace BV := Bes.box hm BV hne; replace HR := hr; replace HM := HM.trans hm; clear hr hm c0 c1 f1 c2; have c0 := HR.c0; have c1 := HR.c1; have f1 := HR.f1; have c2 := HR.c2)
          | (go_at_call 76; (refine (qCu HR hlt hs).mono ?_); rw [HO.out]; rintro e w5 ⟨hm, rfl, hr⟩; replace BV := Bes.box hm BV hne; replace HR := hr; replace HM := HM.trans hm; clear hr hm c0 c1 f1 c2; have c0 := HR.c0; have c1 := HR.c1; have f1 := HR.f1; have c2 := HR.c2)
          | ((with_reducible refine qAT ?_); refine qAK (vals := _) (qLJ t) rfl _ rfl rfl ?_)
          | ((with_reducible refine qAF ?_); refine qAH rfl 25 (.tmp 4) (.tmp 64) rfl w.heap.size (qBG 3 false 0 t).cells rfl rfl _ _ BV qAA rfl (qAP _) ?_; intro w9 hw; replace HR := HR.bes (Bes.row (X := fun q => q = w.heap.size) hw rfl) hne2; replace HM := HM.put hw (Nat.le_refl _); replace BV := qAQ hw BV; clear hw c0 c1 f1 c2; have c0 := HR.c0; have c1 := HR.c1; have f1 := HR.f1; have c2 := HR.c2))
         refine bodyPost_ret (qAb rfl _ _ w.heap.size _ (qBG 3 false 0 t).cells _ rfl BV Tryz.underlying25 rfl qAA) rfl ?_; exact qBL.ok HK.out HM (qEQ qOU mi0 HTS.out rfl) HR
       ·by_cases v91 : bt s i = 91
        ·have hp := hpk.trans v91; have HV := Lib.hid v91; clear v91 hpk
         cases d with
         | zero =>
          have HK : Hid (qAJ s 0 i = .bad 4 i) := Lib.hid (qI9 (.inl hp)); (have hx2 : x = 32 := by have := HX.out; omega); subst hx2; clear hp hin; go_enter Tryz.func51, Tryz.ntmps51
          go_wp2_with (first
           | ((with_reducible refine qAG ?_); refine qAE rfl 25 rfl _ qAY ?_; intro wa hw; have hb := qAD hw; have BV := qAI hw; have hsz := qAZ hw; have hlw : w.heap.size < wa.heap.size := (by omega); clear hw hsz; replace HR := HR.below hb; replace HM := HM.trans (Mv.of hb); clear hb c0 c1 f1 c2; have c0 := HR.c0; have c1 := HR.c1; have f1 := HR.f1; have c2 := HR.c2)
           | (go_at_call 72; (with_reducible refine (qAS HR hlt).mono ?_); rintro e w2 ⟨rfl, hr, hm⟩; rw [HV.out]; replace BV := Bes.box hm BV hne; replace HR := hr; replace HM := HM.trans hm; clear hr hm c0 c1 f1 c2; have c0 := HR.c0; have c1 := HR.c1; have f1 := HR.f1; have c2 := HR.c2)
           | (go_at_call 73; (with_reducible refine (qAj _ _ HR).mono ?_); rintro e w3 ⟨rfl, hr, hm⟩; replace BV := Bes.box hm BV hne; replace HR := hr; replace HM := HM.trans hm; clear hr hm c0 c1 f1 c2; have c0 := HR.c0; have c1 := HR.c1; have f1 := HR.f1; have c2 := HR.c2)
           | ((with_reducible refine qAT ?_); refine qAK (vals := _) (qCj) rfl _ rfl rfl ?_)
           | ((with_reducible refine qAF ?_); refine qAH rfl 25 (.tmp 4) (.tmp 80) rfl w.heap.size JV.zero.cells rfl rfl _ _ BV qAA rfl (qAP _) ?_; intro w9 hw; replace HR := HR.bes (Bes.row (X := fun q => q = w.heap.size) hw rfl) hne2; replace HM := HM.put hw (Nat.le_refl _); replace BV := qAQ hw BV; clear hw c0 c1 f1 c2; have c0 := HR.c0; have c1 := HR.c1; have f1 := HR.f1; have c2 := HR.c2))
          refine bodyPost_ret (qAb rfl _ _ w.heap.size _ JV.zero.cells _ rfl BV Tryz.underlying25 rfl qAA) rfl ?_; exact qBL.bad HK.out HM (qJl _) (by decide) HR
         | succ e =>
          have hval : Hid (qIP e) := Lib.hid (hin e rfl); (have he31 : e ≤ 31 := by omega); (have hx2 : x + 1 = 32 - (e : Int) := by have := HX.out; omega); (have hx3 : x ≤ 31 := by omega); (have hx4 : (x == 32) = false := by simp; omega); have HX1 := Lib.hid hx2; obtain ⟨i1, hi1⟩ : ∃ i1, i1 = i + 1 := ⟨_, rfl⟩; have HI1 := Lib.hid hi1; (have hi1s : i1 ≤ s.size := by omega); clear hin hx2 hi1
          cases ho : qAx s 93 (qAo (qAJ s e)) i [] with
          | bad c p =>
           have HK : Hid (qAJ s (e + 1) i = .bad c p) := Lib.hid (by rw [qJL hp, ho]; rfl); have HO := Lib.hid ho; clear ho hp; go_enter Tryz.func51, Tryz.ntmps51
           go_wp2_with (first
            | ((with_reducible refine qAG ?_); refine qAE rfl 25 rfl _ qAY ?_; intro wa hw; have hb := qAD hw; have BV := qAI hw; have hsz := qAZ hw; have hlw : w.heap.size < wa.heap.size := (by omega); clear hw hsz; replace HR := HR.below hb; replace HM := HM.trans (Mv.of hb); clear hb c0 c1 f1 c2; have c0 := HR.c0; have c1 := HR.c1; have f1 := HR.f1; have c2 := HR.c2)
            | (go_at_call 72; (with_reducible refine (qAS HR hlt).mono ?_); rintro e w2 ⟨rfl, hr, hm⟩; rw [HV.out]; replace BV := Bes.box hm BV hne; replace HR := hr; replace HM := HM.trans hm; clear hr hm c0 c1 f1 c2; have c0 := HR.c0; have c1 := HR.c1; have f1 := HR.f1; have c2 := HR.c2)
            | ((with_reducible refine qAF ?_); refine qAl rfl (.tmp 87) (.tmp 85) rfl rfl i1 (by rw [HI1.out]; rfl) HR ?_; intro w4 hr hm; replace BV := Bes.box hm BV hne; replace HR := hr; replace HM := HM.trans hm; clear hr hm c0 c1 f1 c2; have c0 := HR.c0; have c1 := HR.c1; have f1 := HR.f1; have c2 := HR.c2)
            | (go_at_call 77; rw [HX1.out]; (refine (qHc he31 hval.out HR HI1.out hlt hs).mono ?_); rw [HO.out]; rintro e w5 ⟨hm, ⟨A, n, cp, rfl⟩, hc, i3, hr⟩; have HC := Lib.hid hc; clear hc; replace BV := Bes.box hm BV hne; replace HR := hr; replace HM := HM.trans hm; clear hr hm c0 c1 f1 c2; have c0 := HR.c0; have c1 := HR.c1; have f1 := HR.f1; have c2 := HR.c2)
            | ((with_reducible refine qAT ?_); refine qAK (vals := _) (qLV A n cp) rfl _ rfl rfl ?_)
            | ((with_reducible refine qAF ?_); refine qAH rfl 25 (.tmp 4) (.tmp 94) rfl w.heap.size (qJ6 4 A n cp none 0 0).cells rfl rfl _ _ BV qAA rfl (qAP _) ?_; intro w9 hw; replace HR := HR.bes (Bes.row (X := fun q => q = w.heap.size) hw rfl) hne2; replace HM := HM.put hw (Nat.le_refl _); replace BV := qAQ hw BV; clear hw c0 c1 f1 c2; have c0 := HR.c0; have c1 := HR.c1; have f1 := HR.f1; have c2 := HR.c2))
           refine bodyPost_ret (qAb rfl _ _ w.heap.size _ (qJ6 4 A n cp none 0 0).cells _ rfl BV Tryz.underlying25 rfl qAA) rfl ?_; exact qBL.bad HK.out HM (qJl _) HC.out HR
          | ok l k =>
           have HK : Hid (qAJ s (e + 1) i = .ok (qJx l) k) := Lib.hid (by rw [qJL hp, ho]; rfl); have HO := Lib.hid ho; clear ho hp; go_enter Tryz.func51, Tryz.ntmps51
           go_wp2_with (first
            | ((with_reducible refine qAG ?_); refine qAE rfl 25 rfl _ qAY ?_; intro wa hw; have hb := qAD hw; have BV := qAI hw; have hsz := qAZ hw; have hlw : w.heap.size < wa.heap.size := (by omega); clear hw hsz; replace HR := HR.below hb; replace HM := HM.trans (Mv.of hb); clear hb c0 c1 f1 c2; have c0 := HR.c0; have c1 := HR.c1; have f1 := HR.f1; have c2 := HR.c2)
            | (go_at_call 72; (with_reducible refine (qAS HR hlt).mono ?_); rintro e w2 ⟨rfl, hr, hm⟩; rw [HV.out]; replace BV := Bes.box hm BV hne; replace HR := hr; replace HM := HM.trans hm; clear hr hm c0 c1 f1 c2; have c0 := HR.c0; have c1 := HR.c1; have f1 := HR.f1; have c2 := HR.c2)
            | ((with_reducible refine qAF ?_); refine qAl rfl (.tmp 87) (.tmp 85) rfl rfl i1 (by rw [HI1.out]; rfl) HR ?_; intro w4 hr hm; replace BV := Bes.box hm BV hne; replace HR := hr; replace HM := HM.trans hm; clear hr hm c0 c1 f1 c2; have c0 := HR.c0; have c1 := HR.c1; have f1 := HR.f1; have c2 := HR.c2)
            | (go_at_call 77; rw [HX1.out]; (have hlw2 := qAW.lt BV); (refine (qHc he31 hval.out HR HI1.out hlt hs).mono ?_); rw [HO.out]; rintro e w5 ⟨hm, ⟨A, c, acc, rfl, hj, hl, hjo⟩, hr⟩; have HL := Lib.hid hl; have hms := HM.size; have hq := Off.mono (fun q (e : q ≤ w.heap.size) => Nat.lt_of_le_of_lt e hlw2) hjo; clear hl hjo; replace BV := Bes.box hm BV hne; replace HR := hr; replace HM := HM.trans hm; clear hr hm c0 c1 f1 c2; have c0 := HR.c0; have c1 := HR.c1; have f1 := HR.f1; have c2 := HR.c2)
            | ((with_reducible refine qAT ?_); refine qAK (vals := _) (qLV A acc.length c) rfl _ rfl rfl ?_)
            | ((with_reducible refine qAF ?_); refine qAH rfl 25 (.tmp 4) (.tmp 94) rfl w.heap.size (qJ6 4 A acc.length c none 0 0).cells rfl rfl _ _ BV qAA rfl (qAP _) ?_; intro w9 hw; replace HR := HR.bes (Bes.row (X := fun q => q = w.heap.size) hw rfl) hne2; replace hj := qAi.bes (Bes.row (X := fun q => q = w.heap.size) hw rfl) hj (Off.mono (fun q e => Nat.le_of_eq e) hq); replace HM := HM.put hw (Nat.le_refl _); replace BV := qAQ hw BV; clear hw c0 c1 f1 c2; have c0 := HR.c0; have c1 := HR.c1; have f1 := HR.f1; have c2 := HR.c2))
           refine bodyPost_ret (qAb rfl _ _ w.heap.size _ (qJ6 4 A acc.length c none 0 0).cells _ rfl BV Tryz.underlying25 rfl qAA) rfl ?_; exact qBL.ok HK.out HM (qN2 hj HL.out (Off.mono (fun q e => Nat.le_of_lt e) hq)) HR
        ·by_cases v123 : bt s i = 123
         ·have hp := hpk.trans v123; have HV := Lib.hid v123; clear v123 hpk
          cases d with
          | zero =>
           have HK : Hid (qAJ s 0 i = .bad 4 i) := Lib.hid (qI9 (.inr hp)); (have hx2 : x = 32 := by have := HX.out; omega); subst hx2; clear hp hin; go_enter Tryz.func51, Tryz.ntmps51
           go_wp2_with (first
            | ((with_reducible refine qAG ?_); refine qAE rfl 25 rfl _ qAY ?_; intro wa hw; have hb := qAD hw; have BV := qAI hw; have hsz := qAZ hw; have hlw : w.heap.size < wa.heap.size := (by omega); clear hw hsz; replace HR := HR.below hb; replace HM := HM.trans (Mv.of hb); clear hb c0 c1 f1 c2; have c0 := HR.c0; have c1 := HR.c1; have f1 := HR.f1; have c2 := HR.c2)
            | (go_at_call 72; (with_reducible refine (qAS HR hlt).mono ?_); rintro e w2 ⟨rfl, hr, hm⟩; rw [HV.out]; replace BV := Bes.box hm BV hne; replace HR := hr; replace HM := HM.trans hm; clear hr hm c0 c1 f1 c2; have c0 := HR.c0; have c1 := HR.c1; have f1 := HR.f1; have c2 := HR.c2)
            | (go_at_call 73; (with_reducible refine (qAj _ _ HR).mono ?_); rintro e w3 ⟨rfl, hr, hm⟩; replace BV := Bes.box hm BV hne; replace HR := hr; replace HM := HM.trans hm; clear hr hm c0 c1 f1 c2; have c0 := HR.c0; have c1 := HR.c1; have f1 := HR.f1; have c2 := HR.c2)
            | ((with_reducible refine qAT ?_); refine qAK (vals := _) (qCj) rfl _ rfl rfl ?_)
            | ((with_reducible refine qAF ?_); refine qAH rfl 25 (.tmp 4) (.tmp 80) rfl w.heap.size JV.zero.cells rfl rfl _ _ BV qAA rfl (qAP _) ?_; intro w9 hw; replace HR := HR.bes (Bes.row (X := fun q => q = w.heap.size) hw rfl) hne2; replace HM := HM.put hw (Nat.le_refl _); replace BV := qAQ hw BV; clear hw c0 c1 f1 c2; have c0 := HR.c0; have c1 := HR.c1; have f1 := HR.f1; have c2 := HR.c2))
           refine bodyPost_ret (qAb rfl _ _ w.heap.size _ JV.zero.cells _ rfl BV Tryz.underlying25 rfl qAA) rfl ?_; exact qBL.bad HK.out HM (qJl _) (by decide) HR
          | succ e =>
           have hval : Hid (qIP e) := Lib.hid (hin e rfl); (have he31 : e ≤ 31 := by omega); (have hx2 : x + 1 = 32 - (e : Int) := by have := HX.out; omega); (have hx3 : x ≤ 31 := by omega); (have hx4 : (x == 32) = false := by simp; omega); have HX1 := Lib.hid hx2; obtain ⟨i1, hi1⟩ : ∃ i1, i1 = i + 1 := ⟨_, rfl⟩; have HI1 := Lib.hid hi1; (have hi1s : i1 ≤ s.size := by omega); clear hin hx2 hi1
           cases ho : qAx s 125 (qAg s (qAJ s e)) i ([], []) with
           | bad c p =>
            have HK : Hid (qAJ s (e + 1) i = .bad c p) := Lib.hid (by rw [qMp hp, ho]; rfl); have HO := Lib.hid ho; clear ho hp; go_enter Tryz.func51, Tryz.ntmps51
            go_wp2_with (first
             | ((with_reducible refine qAG ?_); refine qAE rfl 25 rfl _ qAY ?_; intro wa hw; have hb := qAD hw; have BV := qAI hw; have hsz := qAZ hw; have hlw : w.heap.size < wa.heap.size := (by omega); clear hw hsz; replace HR := HR.below hb; replace HM := HM.trans (Mv.of hb); clear hb c0 c1 f1 c2; have c0 := HR.c0; have c1 := HR.c1; have f1 := HR.f1; have c2 := HR.c2)
             | (go_at_call 72; (with_reducible refine (qAS HR hlt).mono ?_); rintro e w2 ⟨rfl, hr, hm⟩; rw [HV.out]; replace BV := Bes.box hm BV hne; replace HR := hr; replace HM := HM.trans hm; clear hr hm c0 c1 f1 c2; have c0 := HR.c0; have c1 := HR.c1; have f1 := HR.f1; have c2 := HR.c2)
             | ((with_reducible refine qAF ?_); refine qAl rfl (.tmp 87) (.tmp 85) rfl rfl i1 (by rw [HI1.out]; rfl) HR ?_; intro w4 hr hm; replace BV := Bes.box hm BV hne; replace HR := hr; replace HM := HM.trans hm; clear hr hm c0 c1 f1 c2; have c0 := HR.c0; have c1 := HR.c1; have f1 := HR.f1; have c2 := HR.c2)
             | (go_at_call 78; rw [HX1.out]; (refine (qJX he31 hval.out HR HI1.out hlt hs).mono ?_); rw [HO.out]; rintro e w5 ⟨hm, ⟨A, n, cp, rfl⟩, hc, i3, hr⟩; have HC := Lib.hid hc; clear hc; replace BV := Bes.box hm BV hne; replace HR := hr; replace HM := HM.trans hm; clear hr hm c0 c1 f1 c2; have c0 := HR.c0; have c1 := HR.c1; have f1 := HR.f1; have c2 := HR.c2)
             | ((with_reducible refine qAT ?_); refine qAK (vals := _) (qNS A n cp) rfl _ rfl rfl ?_)
             | ((with_reducible refine qAF ?_); refine qAH rfl 25 (.tmp 4) (.tmp 99) rfl w.heap.size (qJ6 5 none 0 0 A n cp).cells rfl rfl _ _ BV qAA rfl (qAP _) ?_; intro w9 hw; replace HR := HR.bes (Bes.row (X := fun q => q = w.heap.size) hw rfl) hne2; replace HM := HM.put hw (Nat.le_refl _); replace BV := qAQ hw BV; clear hw c0 c1 f1 c2; have c0 := HR.c0; have c1 := HR.c1; have f1 := HR.f1; have c2 := HR.c2))
            refine bodyPost_ret (qAb rfl _ _ w.heap.size _ (qJ6 5 none 0 0 A n cp).cells _ rfl BV Tryz.underlying25 rfl qAA) rfl ?_; exact qBL.bad HK.out HM (qJl _) HC.out HR
           | ok l k =>
            have HK : Hid (qAJ s (e + 1) i = .ok (qOk l) k) := Lib.hid (by rw [qMp hp, ho]; rfl); have HO := Lib.hid ho; clear ho hp; go_enter Tryz.func51, Tryz.ntmps51
            go_wp2_with (first
             | ((with_reducible refine qAG ?_); refine qAE rfl 25 rfl _ qAY ?_; intro wa hw; have hb := qAD hw; have BV := qAI hw; have hsz := qAZ hw; have hlw : w.heap.size < wa.heap.size := (by omega); clear hw hsz; replace HR := HR.below hb; replace HM := HM.trans (Mv.of hb); clear hb c0 c1 f1 c2; have c0 := HR.c0; have c1 := HR.c1; have f1 := HR.f1; have c2 := HR.c2)
             | (go_at_call 72; (with_reducible refine (qAS HR hlt).mono ?_); rintro e w2 ⟨rfl, hr, hm⟩; rw [HV.out]; replace BV := Bes.box hm BV hne; replace HR := hr; replace HM := HM.trans hm; clear hr hm c0 c1 f1 c2; have c0 := HR.c0; have c1 := HR.c1; have f1 := HR.f1; have c2 := HR.c2)
             | ((with_reducible refine qAF ?_); refine qAl rfl (.tmp 87) (.tmp 85) rfl rfl i1 (by rw [HI1.out]; rfl) HR ?_; intro w4 hr hm; replace BV := Bes.box hm BV hne; replace HR := hr; replace HM := HM.trans hm; clear hr hm c0 c1 f1 c2; have c0 := HR.c0; have c1 := HR.c1; have f1 := HR.f1; have c2 := HR.c2)
             | (go_at_call 78; rw [HX1.out]; (have hlw2 := qAW.lt BV); (refine (qJX he31 hval.out HR HI1.out hlt hs).mono ?_); rw [HO.out]; rintro e w5 ⟨hm, ⟨A, c, L, rfl, hj, hl, hjo⟩, hr⟩; have HL := Lib.hid hl; have hms := HM.size; have hq := Off.mono (fun q (e : q ≤ w.heap.size) => Nat.lt_of_le_of_lt e hlw2) hjo; clear hl hjo; replace BV := Bes.box hm BV hne; replace HR := hr; replace HM := HM.trans hm; clear hr hm c0 c1 f1 c2; have c0 := HR.c0; have c1 := HR.c1; have f1 := HR.f1; have c2 := HR.c2)
             | ((with_reducible refine qAT ?_); refine qAK (vals := _) (qNS A L.length c) rfl _ rfl rfl ?_)
             | ((with_reducible refine qAF ?_); refine qAH rfl 25 (.tmp 4) (.tmp 99) rfl w.heap.size (qJ6 5 none 0 0 A L.length c).cells rfl rfl _ _ BV qAA rfl (qAP _) ?_; intro w9 hw; replace HR := HR.bes (Bes.row (X := fun q => q = w.heap.size) hw rfl) hne2; replace hj := qAi.bes (Bes.row (X := fun q => q = w.heap.size) hw rfl) hj (Off.mono (fun q e => Nat.le_of_eq e) hq); replace HM := HM.put hw (Nat.le_refl _); replace BV := qAQ hw BV; clear hw c0 c1 f1 c2; have c0 := HR.c0; have c1 := HR.c1; have f1 := HR.f1; have c2 := HR.c2))
            refine bodyPost_ret (qAb rfl _ _ w.heap.size _ (qJ6 5 none 0 0 A L.length c).cells _ rfl BV Tryz.underlying25 rfl qAA) rfl ?_; exact qBL.ok HK.out HM (qO6 hj HL.out (Off.mono (fun q e => Nat.le_of_lt e) hq)) HR
         ·have HK : Hid (qAJ s d i = .bad 3 i) := Lib.hid (qMt (by rw [hpk]; exact v110) (by rw [hpk]; exact v116) (by rw [hpk]; exact v102) (fun hh => hh.elim (fun e => v45 (hpk.symm.trans e)) (fun e => vd (by rw [hpk] at e; unfold qBa at e; simp at e; exact e))) (by rw [hpk]; exact v34) (by rw [hpk]; exact v91) (by rw [hpk]; exact v123)); (have q110 : (bt s i == 110) = false := by simpa using v110); (have q116 : (bt s i == 116) = false := by simpa using v116); (have q102 : (bt s i == 102) = false := by simpa using v102); (have q45 : (bt s i == 45) = false := by simpa using v45); (have q34 : (bt s i == 34) = false := by simpa using v34); (have q91 : (bt s i == 91) = false := by simpa using v91); (have q123 : (bt s i == 123) = false := by simpa using v123); clear v110 v116 v102 v45 v34 v91 v123 hpk
          by_cases g1 : 48 ≤ bt s i
          ·(have g2 : ¬ bt s i ≤ 57 := fun hh => vd ⟨g1, hh⟩); clear vd; go_enter Tryz.func51, Tryz.ntmps51
           go_wp2_with (first
            | ((with_reducible refine qAG ?_); refine qAE rfl 25 rfl _ qAY ?_; intro wa hw; have hb := qAD hw; have BV := qAI hw; have hsz := qAZ hw; have hlw : w.heap.size < wa.heap.size := (by omega); clear hw hsz; replace HR := HR.below hb; replace HM := HM.trans (Mv.of hb); clear hb c0 c1 f1 c2; have c0 := HR.c0; have c1 := HR.c1; have f1 := HR.f1; have c2 := HR.c2)
            | (go_at_call 72; (with_reducible refine (qAS HR hlt).mono ?_); rintro e w2 ⟨rfl, hr, hm⟩; replace BV := Bes.box hm BV hne; replace HR := hr; replace HM := HM.trans hm; clear hr hm c0 c1 f1 c2; have c0 := HR.c0; have c1 := HR.c1; have f1 := HR.f1; have c2 := HR.c2)
            | (go_at_call 73; (with_reducible refine (qAj _ _ HR).mono ?_); rintro e w3 ⟨rfl, hr, hm⟩; replace BV := Bes.box hm BV hne; replace HR := hr; replace HM := HM.trans hm; clear hr hm c0 c1 f1 c2; have c0 := HR.c0; have c1 := HR.c1; have f1 := HR.f1; have c2 := HR.c2)
            | ((with_reducible refine qAT ?_); refine qAK (vals := _) (qCj) rfl _ rfl rfl ?_)
            | ((with_reducible refine qAF ?_); refine qAH rfl 25 (.tmp 4) (.tmp 100) rfl w.heap.size JV.zero.cells rfl rfl _ _ BV qAA rfl (qAP _) ?_; intro w9 hw; replace HR := HR.bes (Bes.row (X := fun q => q = w.heap.size) hw rfl) hne2; replace HM := HM.put hw (Nat.le_refl _); replace BV := qAQ hw BV; clear hw c0 c1 f1 c2; have c0 := HR.c0; have c1 := HR.c1; have f1 := HR.f1; have c2 := HR.c2))
           refine bodyPost_ret (qAb rfl _ _ w.heap.size _ JV.zero.cells _ rfl BV Tryz.underlying25 rfl qAA) rfl ?_; exact qBL.bad HK.out HM (qJl _) (by decide) HR
          ·clear vd; go_enter Tryz.func51, Tryz.ntmps51
           go_wp2_with (first
            | ((with_reducible refine qAG ?_); refine qAE rfl 25 rfl _ qAY ?_; intro wa hw; have hb := qAD hw; have BV := qAI hw; have hsz := qAZ hw; have hlw : w.heap.size < wa.heap.size := (by omega); clear hw hsz; replace HR := HR.below hb; replace HM := HM.trans (Mv.of hb); clear hb c0 c1 f1 c2; have c0 := HR.c0; have c1 := HR.c1; have f1 := HR.f1; have c2 := HR.c2)
            | (go_at_call 72; (with_reducible refine (qAS HR hlt).mono ?_); rintro e w2 ⟨rfl, hr, hm⟩; replace BV := Bes.box hm BV hne; replace HR := hr; replace HM := HM.trans hm; clear hr hm c0 c1 f1 c2; have c0 := HR.c0; have c1 := HR.c1; have f1 := HR.f1; have c2 := HR.c2)
            | (go_at_call 73; (with_reducible refine (qAj _ _ HR).mono ?_); rintro e w3 ⟨rfl, hr, hm⟩; replace BV := Bes.box hm BV hne; replace HR := hr; replace HM := HM.trans hm; clear hr hm c0 c1 f1 c2; have c0 := HR.c0; have c1 := HR.c1; have f1 := HR.f1; have c2 := HR.c2)
            | ((with_reducible refine qAT ?_); refine qAK (vals := _) (qCj) rfl _ rfl rfl ?_)
            | ((with_reducible refine qAF ?_); refine qAH rfl 25 (.tmp 4) (.tmp 100) rfl w.heap.size JV.zero.cells rfl rfl _ _ BV qAA rfl (qAP _) ?_; intro w9 hw; replace HR := HR.bes (Bes.row (X := fun q => q = w.heap.size) hw rfl) hne2; replace HM := HM.put hw (Nat.le_refl _); replace BV := qAQ hw BV; clear hw c0 c1 f1 c2; have c0 := HR.c0; have c1 := HR.c1; have f1 := HR.f1; have c2 := HR.c2))
           refine bodyPost_ret (qAb rfl _ _ w.heap.size _ JV.zero.cells _ rfl BV Tryz.underlying25 rfl qAA) rfl ?_; exact qBL.bad HK.out HM (qJl _) (by decide) HR
 ·have HK : Hid (qAJ s d i = .bad 3 i) := Lib.hid (qMt (by rw [qBb (by omega)]; decide) (by rw [qBb (by omega)]; decide) (by rw [qBb (by omega)]; decide) (by rw [qBb (by omega)]; decide) (by rw [qBb (by omega)]; decide) (by rw [qBb (by omega)]; decide) (by rw [qBb (by omega)]; decide)); go_enter Tryz.func51, Tryz.ntmps51
  go_wp2_with (first
   | ((with_reducible refine qAG ?_); refine qAE rfl 25 rfl _ qAY ?_; intro wa hw; have hb := qAD hw; have BV := qAI hw; have hsz := qAZ hw; have hlw : w.heap.size < wa.heap.size := (by omega); clear hw hsz; replace HR := HR.below hb; replace HM := HM.trans (Mv.of hb); clear hb c0 c1 f1 c2; have c0 := HR.c0; have c1 := HR.c1; have f1 := HR.f1; have c2 := HR.c2)
   | (go_at_call 72; (with_reducible refine (qBT HR hlt).mono ?_); rintro e w2 ⟨rfl, hr, hm⟩; replace BV := Bes.box hm BV hne; replace HR := hr; replace HM := HM.trans hm; clear hr hm c0 c1 f1 c2; have c0 := HR.c0; have c1 := HR.c1; have f1 := HR.f1; have c2 := HR.c2)
   | (go_at_call 73; (with_reducible refine (qAj _ _ HR).mono ?_); rintro e w3 ⟨rfl, hr, hm⟩; replace BV := Bes.box hm BV hne; replace HR := hr; replace HM := HM.trans hm; clear hr hm c0 c1 f1 c2; have c0 := HR.c0; have c1 := HR.c1; have f1 := HR.f1; have c2 := HR.c2)
   | ((with_reducible refine qAT ?_); refine qAK (vals := _) (qCj) rfl _ rfl rfl ?_)
   | ((with_reducible refine qAF ?_); refine qAH rfl 25 (.tmp 4) (.tmp 100) rfl w.heap.size JV.zero.cells rfl rfl _ _ BV qAA rfl (qAP _) ?_; intro w9 hw; replace HR := HR.bes (Bes.row (X := fun q => q = w.heap.size) hw rfl) hne2; replace HM := HM.put hw (Nat.le_refl _); replace BV := qAQ hw BV; clear hw c0 c1 f1 c2; have c0 := HR.c0; have c1 := HR.c1; have f1 := HR.f1; have c2 := HR.c2))
  refine bodyPost_ret (qAb rfl _ _ w.heap.size _ JV.zero.cells _ rfl BV Tryz.underlying25 rfl qAA) rfl ?_; exact qBL.bad HK.out HM (qJl _) (by decide) HR
theorem qJu (d : Nat) : d ≤ 32 → qIP d := by
  induction d with
  | zero =>
    intro h; (have hin : ∀ e, 0 = e + 1 → qIP e := fun e he => by omega); have hv : qIP 0 := qGF h hin; exact @hv
  | succ d ih =>
    intro h; have hd : qIP d := ih (by omega)
    have hin : ∀ e, d + 1 = e + 1 → qIP e := fun e he => by
      (have e2 : d = e := by omega); subst e2; exact @hd
    have hv : qIP (d + 1) := qGF h hin; exact @hv
theorem qIU {w : World} {r : Nat} {s : ByteArray} {i : Nat} (h1 : RR w r s i 0 0) (h3 : i ≤ s.size) (h4 : s.size ≤ 65536) : Calls Tryz.prog 51 #[At r, .int .i64 0] w (qBL (qAJ s 32 i) r s w (RvV w) RvN) := qIP.at (qJu 32 (Nat.le_refl _)) h1 h3 h4
end
end Go.Proofs.YtnjhmnolngdfaaaGreatDoor
namespace Go.Proofs.YtnjhmnolngdfaaaGreatDoor
section
open Go.RowKit Go.PlainAid
theorem qLt {P : Program} {ops : Array Oper} {rest : List Oper} {a : Act} {w : World} {Q : Exit → Act → World → Prop} {d : Option Tmp} {ty : TypeId} {x : Operand} {tt : TypeId} {ps : String} {af : Array Edge} {gd : Option (Nat × Bool)} (h : wpList P ops Q (⟨d, .box ty x, tt, ps, af, gd⟩ :: rest) a w) : wpList P ops Q (⟨d, .box ty x, tt, ps, af, gd⟩ :: rest) a w := h
theorem qH6 : (Tryz.prog.info? 59).map (fun i => (i.zero, i.size)) = some (some (.agg #[.int .i64 0, .int .i64 0]), 2) := by kernel_rfl
theorem qDS (w : World) : (zeroValue 59).run Tryz.prog w = .ok (.agg #[.int .i64 0, .int .i64 0]) w := (Go.zero_of_info qH6).1 w
theorem qBx : (Tryz.prog.info? 59).map (·.size) = some 2 := by kernel_rfl
theorem qLL (c p : Int) (w : World) : (Instr.build 59 ([(0, .int .i64 c), (1, .int .i64 p)] : List (Nat × Value)).toArray).run Tryz.prog w = .ok (.agg #[.int .i64 c, .int .i64 p]) w := by kernel_rfl
theorem qOT (w : World) : (Instr.build 59 ([] : List (Nat × Value)).toArray).run Tryz.prog w = .ok (.agg #[.int .i64 0, .int .i64 0]) w := by kernel_rfl
theorem qFn (s : ByteArray) (w : World) : (Instr.build 85 ([(0, .string s)] : List (Nat × Value)).toArray).run Tryz.prog w = .ok (.agg #[.string s, .int .i64 0, .int .i64 0, .int .i64 0]) w := by kernel_rfl
theorem qDN (c p : Int) : (#[.int .i64 c, .int .i64 p] : Array Value).all (·.oneCell') = true := by simp [Value.oneCell']
theorem RR.range {w : World} {r : Nat} {s : ByteArray} {i : Nat} {c p : Int} (h : RR w r s i c p) : w.rangeAt r 2 [.int .i64 c, .int .i64 p] := by
  intro j v hv
  match j, hv with
  | 0, hv => have e : Value.int .i64 c = v := by simpa using hv
             rw [← e]; exact h.c2
  | 1, hv => have e : Value.int .i64 p = v := by simpa using hv
             rw [← e]; exact h.c3
theorem qJy {ops : Array Oper} {o : Oper} {a : Act} {S : World → Prop} {r : Nat} {s : ByteArray} {i : Nat} {c p : Int} (hw : Region.wanted o (yielded ops a.tmps) = true) (x : Operand) (ho : o.op = .load 59 x) (hx : a.eval x = .pointer (some ⟨r, 2, none⟩)) (hc : ∀ w', S w' → RR w' r s i c p) : YieldsIf Tryz.prog ops S o (.agg #[.int .i64 c, .int .i64 p]) a :=
  yieldsIf_load_mid (P := Tryz.prog) (S := S) hw 59 x ho r 2 hx [.int .i64 c, .int .i64 p] _ (fun w' hS => (hc w' hS).range) Tryz.underlying59 rfl qBx
def qFE (s : ByteArray) (w : World) (e : Ending) (w' : World) : Prop := Below w.heap.size w w' ∧
  (if 65536 < s.size then e = .returned (.tuple #[.agg JV.zero.cells, .agg #[.int .i64 2, .int .i64 (-1)]]) else match qBZ s with
    | .ok t _ => ∃ j, e = .returned (.tuple #[.agg j.cells, .agg #[.int .i64 0, .int .i64 0]]) ∧ qAi w' j ∧ er j = t
    | .bad c p => e = .returned (.tuple #[.agg JV.zero.cells, .agg #[.int .i64 c, .int .i64 p]]))
theorem qFE.big {s : ByteArray} {w w' : World} (hs : 65536 < s.size) (hb : Below w.heap.size w w') : qFE s w (.returned (.tuple #[.agg JV.zero.cells, .agg #[.int .i64 2, .int .i64 (-1)]])) w' := ⟨hb, by rw [if_pos hs]⟩
theorem qFE.ok {s : ByteArray} {w w' : World} (hs : s.size ≤ 65536) (hb : Below w.heap.size w w') {t : JT} {k : Nat} (hp : qBZ s = .ok t k) {j : JV} (hj : qAi w' j) (he : er j = t) : qFE s w (.returned (.tuple #[.agg j.cells, .agg #[.int .i64 0, .int .i64 0]])) w' := ⟨hb, by rw [if_neg (by omega), hp]; exact ⟨j, rfl, hj, he⟩⟩
theorem qFE.bad {s : ByteArray} {w w' : World} (hs : s.size ≤ 65536) (hb : Below w.heap.size w w') {c : Int} {p : Nat} (hp : qBZ s = .bad c p) : qFE s w (.returned (.tuple #[.agg JV.zero.cells, .agg #[.int .i64 c, .int .i64 p]])) w' := ⟨hb, by rw [if_neg (by omega), hp]⟩
theorem Below.put {B : Nat} {w a w' : World} {g : Nat} {arr : Array Value} (h : Below B w a) (hw : Hid (w' = a.setRow g arr)) (hg : B ≤ g) : Below B w w' := (qAN hw hg h).1
theorem qDa {w : World} {s : ByteArray} (hsr : s.size ≤ qAy) : Calls Tryz.prog 31 #[.string s] w (qFE s w) := by
 have HB := Below.refl w.heap.size w; have h64 : s.size ≤ 9223372036854775807 := Nat.le_trans hsr (by decide)
 by_cases hs : 65536 < s.size
 ·have HK := Lib.hid hs; go_enter Tryz.func31, Tryz.ntmps31
  go_wp2_with (first
   | ((with_reducible refine qAG ?_); refine qAE rfl 25 rfl _ qAY ?_; intro wa hw; have hb := qAD hw; have BV := qAI hw; have hsa := Lib.hid (qAZ hw); clear hw; replace HB := zT HB hb; clear hb)
   | ((with_reducible refine qAG ?_); refine qAE rfl 59 rfl _ qDS ?_; intro wb hw; have hb := qAD hw; have BE := qAI hw; have hsb := Lib.hid (qAZ hw); clear hw; replace BV := zI BV hb; replace HB := zT HB hb; clear hb; have n0 : ¬ wa.heap.size = w.heap.size := (by have := hsa.out; omega); have hwa : w.heap.size ≤ wa.heap.size := (by have := hsa.out; omega))
   | ((with_reducible refine qAT ?_); refine qAK (vals := _) (qCj) rfl _ rfl rfl ?_)
   | ((with_reducible refine qAT ?_); refine qAK (vals := _) (qLL 2 (-1)) rfl _ rfl rfl ?_)
   | ((with_reducible refine qAF ?_); refine qAH rfl 25 (.tmp 2) (.tmp 9) rfl w.heap.size JV.zero.cells rfl rfl _ _ BV qAA rfl (qAP _) ?_; intro w5 hw; have hbe := Bes.row (X := fun q => q = w.heap.size) hw rfl; replace HB := Below.put HB hw (Nat.le_refl _); replace BE := Bes.box hbe BE n0; replace BV := qAQ hw BV; clear hw hbe)
   | ((with_reducible refine qAF ?_); refine qAH rfl 59 (.tmp 3) (.tmp 10) rfl wa.heap.size #[.int .i64 2, .int .i64 (-1)] rfl rfl _ _ BE qBx rfl (qDN _ _) ?_; intro w6 hw; have hbe := Bes.row (X := fun q => q = wa.heap.size) hw rfl; replace HB := Below.put HB hw hwa; replace BV := Bes.box hbe BV (fun e => n0 (Eq.symm e)); replace BE := qAQ hw BE; clear hw hbe))
  refine bodyPost_ret (qBt rfl _ _ w.heap.size _ JV.zero.cells _ rfl BV Tryz.underlying25 rfl qAA wa.heap.size _ rfl (run_loadVar_row _ _ _ _ #[.int .i64 2, .int .i64 (-1)] (0, 0) _ BE Tryz.underlying59 rfl qBx)) rfl ?_; exact qFE.big HK.out HB
 ·have HSZ : Hid (s.size ≤ 65536) := Lib.hid (by omega); obtain ⟨k0, hk0⟩ : ∃ k0, k0 = qAd s 0 := ⟨_, rfl⟩; (have hk0s : k0 ≤ s.size := by rw [hk0]; exact qBg (Nat.zero_le _)); have HK0 := Lib.hid hk0; clear hk0
  cases ho : qAJ s 32 k0 with
  | bad c p =>
   have HO := Lib.hid ho; have HK := Lib.hid (qG5 (by rw [← HK0.out]; exact ho)); clear ho; go_enter Tryz.func31, Tryz.ntmps31
   go_wp2_with (first
    | (refine qAO 5 rfl rfl 25 rfl rfl (.tmp 17) rfl _ qAY j.cells rfl rfl qAA rfl (qAP _) ?_; intro w7 hw; have hb := qAD hw; clear hw; replace HR := HR.below hb; replace BV := zI BV hb; replace BE := zI BE hb; replace HB := zT HB hb; clear hb; clear c0 c1 f1 c2; have c0 := HR.c0; have c1 := HR.c1; have f1 := HR.f1; have c2 := HR.c2)
    | ((with_reducible refine qAG ?_); refine qAE rfl 25 rfl _ qAY ?_; intro wa hw; have hb := qAD hw; have BV := qAI hw; have hsa := Lib.hid (qAZ hw); clear hw; replace HB := zT HB hb; clear hb)
    | ((with_reducible refine qAG ?_); refine qAE rfl 59 rfl _ qDS ?_; intro wb hw; have hb := qAD hw; have BE := qAI hw; have hsb := Lib.hid (qAZ hw); clear hw; replace BV := zI BV hb; replace HB := zT HB hb; clear hb; have n0 : ¬ wa.heap.size = w.heap.size := (by have := hsa.out; omega); have hwa : w.heap.size ≤ wa.heap.size := (by have := hsa.out; omega))
    | ((with_reducible refine qAT ?_); refine qAK (vals := _) (qFn s) rfl _ rfl rfl ?_)
    | ((with_reducible refine qLt ?_); refine qAM rfl 85 (.tmp 12) rfl _ rfl ?_; intro wc hw; have hb := qAD hw; have HR : RR wc wb.heap.size s 0 0 0 := (qAC hw).1; have hsc := Lib.hid (qAZ hw); clear hw; replace BV := zI BV hb; replace BE := zI BE hb; replace HB := zT HB hb; clear hb; have n1 : ¬ w.heap.size = wb.heap.size := (by have := hsa.out; have := hsb.out; omega); have n2 : ¬ wa.heap.size = wb.heap.size := (by have := hsb.out; omega); have hlw : w.heap.size ≤ wb.heap.size := (by have := hsa.out; have := hsb.out; omega); have c0 := HR.c0; have c1 := HR.c1; have f1 := HR.f1; have c2 := HR.c2)
    | (go_at_call 50; (with_reducible refine (qAa HR (Nat.zero_le _) HSZ.out).mono ?_); rintro e w3 ⟨rfl, hr, hm⟩; rw [← HK0.out] at hr; replace BV := Bes.box hm BV n1; replace BE := Bes.box hm BE n2; replace HR := hr; replace HB := Below.of_mv HB hm hlw (Below.leB HB (Nat.le_refl _)); clear hr hm c0 c1 f1 c2; have c0 := HR.c0; have c1 := HR.c1; have f1 := HR.f1; have c2 := HR.c2)
    | (go_at_call 51; (refine (qIU HR hk0s HSZ.out).mono ?_); rw [HO.out]; rintro e w4 ⟨hm, ⟨j, rfl⟩, hc, i3, hr⟩; have hc2 : (c == 0) = false := (by simpa using hc); have hc3 : (c != 0) = true := (by simpa using hc); clear hc; replace BV := Bes.box hm BV n1; replace BE := Bes.box hm BE n2; replace HR := hr; replace HB := Below.of_mv HB hm hlw (Below.leB HB (Nat.le_refl _)); clear hr hm c0 c1 f1 c2; have c0 := HR.c0; have c1 := HR.c1; have f1 := HR.f1; have c2 := HR.c2))
   refine qBV (S := fun w' => RR w' wb.heap.size s _ _ _) (by kernel_rfl) (fun w2 hh => qCC hh HR) (fun w8 hh hbb hS => ?_); have hb := hbb _ (Nat.le_refl _); replace BV := zI BV hb; replace BE := zI BE hb; replace HR := HR.below hb; replace HB := zT HB hb; clear hb hbb hh c0 c1 f1 c2; refine wpAnyH_take (i := 0) (oi := ⟨some 24, _, _, _, _, _⟩) (v := _) rfl (by kernel_rfl) (by kernel_rfl) (by kernel_rfl) (fun _ _ _ h => h) (qBR (by kernel_rfl) qCj _ rfl rfl) (by assumption) ?_; (try simp only [Act.put, zA, zB, zC]); refine TKC 1 25 rfl ?_; (try simp only [Act.put, zA, zB, zC]); refine TKC 2 26 rfl ?_; (try simp only [Act.put, zA, zB, zC]); refine TKC 3 27 rfl ?_; (try simp only [Act.put, zA, zB, zC]); refine wpAnyH_take (i := 4) (oi := ⟨some 28, _, _, _, _, _⟩) (v := _) rfl (by kernel_rfl) (by kernel_rfl) (by kernel_rfl) (fun _ _ _ h => h) (qJy (by kernel_rfl) _ rfl rfl (fun _ h => h)) (by assumption) ?_; (try simp only [Act.put, zA, zB, zC]); refine wpAnyH_ready (rs := [5]) (by kernel_rfl) (by simp) ?_; refine AllReadyH.cons (o := ⟨none, _, _, _, _, _⟩) rfl (fun K hK => ?_) AllReadyH.nil; simp only [Region.wanted, if_true]; refine qCH 25 _ _ rfl w.heap.size JV.zero.cells rfl rfl _ _ BV qAA rfl (qAP _) ?_; intro w9 hw; have hbe := Bes.row (X := fun q => q = w.heap.size) hw rfl; replace HB := Below.put HB hw (Nat.le_refl _); replace BE := Bes.box hbe BE n0; replace HR := HR.bes hbe (fun e => n1 (Eq.symm e)); replace BV := qAQ hw BV; clear hw hbe; refine hK.out _ _ HR (fun hS2 => ?_); clear hK K; (try simp only [Act.put, zA, zB, zC]); refine wpAnyH_ready (rs := [6]) (by kernel_rfl) (by simp) ?_; refine AllReadyH.cons (o := ⟨none, _, _, _, _, _⟩) rfl (fun K hK => ?_) AllReadyH.nil; simp only [Region.wanted, if_true]; refine qCH 59 _ _ rfl wa.heap.size #[.int .i64 c, .int .i64 p] rfl rfl _ _ BE qBx rfl (qDN _ _) ?_; intro w9 hw; have hbe := Bes.row (X := fun q => q = wa.heap.size) hw rfl; replace HB := Below.put HB hw hwa; replace BV := Bes.box hbe BV (fun e => n0 (Eq.symm e)); replace HR := HR.bes hbe (fun e => n2 (Eq.symm e)); replace BE := qAQ hw BE; clear hw hbe; refine hK.out _ _ HR (fun hS2 => ?_); clear hK K; (try simp only [Act.put, zA, zB, zC]); refine wpAnyH_done (by kernel_rfl) ?_ _; go_wp2; refine bodyPost_ret (qBt rfl _ _ w.heap.size _ JV.zero.cells _ rfl BV Tryz.underlying25 rfl qAA wa.heap.size _ rfl (run_loadVar_row _ _ _ _ #[.int .i64 c, .int .i64 p] (0, 0) _ BE Tryz.underlying59 rfl qBx)) rfl ?_; exact qFE.bad HSZ.out HB HK.out
  | ok t k =>
   have HO := Lib.hid ho; (have ho2 : qAJ s 32 (qAd s 0) = .ok t k := by rw [← HK0.out]; exact ho); have hks : k ≤ s.size := (qA8 32 k0 t k ho).2; obtain ⟨k3, hk3⟩ : ∃ k3, k3 = qAd s k := ⟨_, rfl⟩; have HK3 := Lib.hid hk3
   by_cases h2 : k3 < s.size
   ·have HK : Hid (qBZ s = .bad 3 k3) := Lib.hid (by rw [hk3] at h2 ⊢; exact qF8 ho2 h2); clear ho ho2 hk3; go_enter Tryz.func31, Tryz.ntmps31
    go_wp2_with (first
     | (refine qAO 5 rfl rfl 25 rfl rfl (.tmp 17) rfl _ qAY j.cells rfl rfl qAA rfl (qAP _) ?_; intro w7 hw; have hb := qAD hw; have B5 := (qAC hw).1; have hn5 := Lib.hid (Nat.ne_of_gt (qAW.lt HR)); clear hw; replace HR := HR.below hb; replace hj := qAi.below hb hj; replace BV := zI BV hb; replace BE := zI BE hb; replace HB := zT HB hb; clear hb; clear c0 c1 f1 c2; have c0 := HR.c0; have c1 := HR.c1; have f1 := HR.f1; have c2 := HR.c2)
     | ((with_reducible refine qAG ?_); refine qAE rfl 25 rfl _ qAY ?_; intro wa hw; have hb := qAD hw; have BV := qAI hw; have hsa := Lib.hid (qAZ hw); clear hw; replace HB := zT HB hb; clear hb)
     | ((with_reducible refine qAG ?_); refine qAE rfl 59 rfl _ qDS ?_; intro wb hw; have hb := qAD hw; have BE := qAI hw; have hsb := Lib.hid (qAZ hw); clear hw; replace BV := zI BV hb; replace HB := zT HB hb; clear hb; have n0 : ¬ wa.heap.size = w.heap.size := (by have := hsa.out; omega); have hwa : w.heap.size ≤ wa.heap.size := (by have := hsa.out; omega))
     | ((with_reducible refine qAT ?_); refine qAK (vals := _) (qFn s) rfl _ rfl rfl ?_)
     | ((with_reducible refine qLt ?_); refine qAM rfl 85 (.tmp 12) rfl _ rfl ?_; intro wc hw; have hb := qAD hw; have HR : RR wc wb.heap.size s 0 0 0 := (qAC hw).1; have hsc := Lib.hid (qAZ hw); clear hw; replace BV := zI BV hb; replace BE := zI BE hb; replace HB := zT HB hb; clear hb; have n1 : ¬ w.heap.size = wb.heap.size := (by have := hsa.out; have := hsb.out; omega); have n2 : ¬ wa.heap.size = wb.heap.size := (by have := hsb.out; omega); have hlw : w.heap.size ≤ wb.heap.size := (by have := hsa.out; have := hsb.out; omega); have c0 := HR.c0; have c1 := HR.c1; have f1 := HR.f1; have c2 := HR.c2)
     | (go_at_call 50; (with_reducible refine (qAa HR (Nat.zero_le _) HSZ.out).mono ?_); rintro e w3 ⟨rfl, hr, hm⟩; rw [← HK0.out] at hr; replace BV := Bes.box hm BV n1; replace BE := Bes.box hm BE n2; replace HR := hr; replace HB := Below.of_mv HB hm hlw (Below.leB HB (Nat.le_refl _)); clear hr hm c0 c1 f1 c2; have c0 := HR.c0; have c1 := HR.c1; have f1 := HR.f1; have c2 := HR.c2)
     | (go_at_call 51; (have hrl := HR.lt; refine (qIU HR hk0s HSZ.out).mono ?_); rw [HO.out]; rintro e w4 ⟨hm, ⟨j, rfl, hj, hje, hjo⟩, hr⟩; have HJE := Lib.hid hje; have HJO : Hid (Off (fun q => q ≤ wb.heap.size) j) := Lib.hid (Off.mono (fun q e => Nat.lt_of_le_of_lt e hrl) hjo); clear hje hjo hrl; replace BV := Bes.box hm BV n1; replace BE := Bes.box hm BE n2; replace HR := hr; replace HB := Below.of_mv HB hm hlw (Below.leB HB (Nat.le_refl _)); clear hr hm c0 c1 f1 c2; have c0 := HR.c0; have c1 := HR.c1; have f1 := HR.f1; have c2 := HR.c2)
     | (go_at_call 50; (with_reducible refine (qAa HR hks HSZ.out).mono ?_); rintro e w3 ⟨rfl, hr, hm⟩; rw [← HK3.out] at hr; replace B5 := Bes.box hm B5 (fun e => hn5.out e); replace hj := qAi.bes hm hj (Off.mono (fun q e => by have e2 : q = wb.heap.size := e; omega) HJO.out); replace BV := Bes.box hm BV n1; replace BE := Bes.box hm BE n2; replace HR := hr; replace HB := Below.of_mv HB hm hlw (Below.leB HB (Nat.le_refl _)); clear hr hm c0 c1 f1 c2; have c0 := HR.c0; have c1 := HR.c1; have f1 := HR.f1; have c2 := HR.c2))
    refine qBV (S := fun w' => RR w' wb.heap.size s _ _ _) (by kernel_rfl) (fun w2 hh => qCC hh HR) (fun w8 hh hbb hS => ?_); have hb := hbb _ (Nat.le_refl _); replace BV := zI BV hb; replace BE := zI BE hb; replace HR := HR.below hb; replace HB := zT HB hb; clear hb hbb hh c0 c1 f1 c2; refine wpAnyH_take (i := 0) (oi := ⟨some 38, _, _, _, _, _⟩) (v := _) rfl (by kernel_rfl) (by kernel_rfl) (by kernel_rfl) (fun _ _ _ h => h) (qBR (by kernel_rfl) qCj _ rfl rfl) (by assumption) ?_; (try simp only [Act.put, zA, zB, zC]); refine TKC 1 39 rfl ?_; (try simp only [Act.put, zA, zB, zC]); refine TKC 2 40 rfl ?_; (try simp only [Act.put, zA, zB, zC]); refine TKC 3 41 rfl ?_; (try simp only [Act.put, zA, zB, zC]); refine TKB 4 42 ?_ rfl ?_ ?_; rotate_left
    ·(intro w hSw; (try dsimp only at hSw); have := RR.c1 hSw; go_simp; try with_reducible rfl)
    (try simp only [Act.put, zA, zB, zC]); refine wpAnyH_take (i := 5) (oi := ⟨some 43, _, _, _, _, _⟩) (v := _) rfl (by kernel_rfl) (by kernel_rfl) (by kernel_rfl) (fun _ _ _ h => h) (qBR (by kernel_rfl) (qLL 3 _) _ rfl rfl) (by assumption) ?_; (try simp only [Act.put, zA, zB, zC]); refine wpAnyH_ready (rs := [6]) (by kernel_rfl) (by simp) ?_; refine AllReadyH.cons (o := ⟨none, _, _, _, _, _⟩) rfl (fun K hK => ?_) AllReadyH.nil; simp only [Region.wanted, if_true]; refine qCH 25 _ _ rfl w.heap.size JV.zero.cells rfl rfl _ _ BV qAA rfl (qAP _) ?_; intro w9 hw; have hbe := Bes.row (X := fun q => q = w.heap.size) hw rfl; replace HB := Below.put HB hw (Nat.le_refl _); replace BE := Bes.box hbe BE n0; replace HR := HR.bes hbe (fun e => n1 (Eq.symm e)); replace BV := qAQ hw BV; clear hw hbe; refine hK.out _ _ HR (fun hS2 => ?_); clear hK K; (try simp only [Act.put, zA, zB, zC]); refine wpAnyH_ready (rs := [7]) (by kernel_rfl) (by simp) ?_; refine AllReadyH.cons (o := ⟨none, _, _, _, _, _⟩) rfl (fun K hK => ?_) AllReadyH.nil; simp only [Region.wanted, if_true]; refine qCH 59 _ _ rfl wa.heap.size #[.int .i64 3, .int .i64 (k3 : Int)] rfl rfl _ _ BE qBx rfl (qDN _ _) ?_; intro w9 hw; have hbe := Bes.row (X := fun q => q = wa.heap.size) hw rfl; replace HB := Below.put HB hw hwa; replace BV := Bes.box hbe BV (fun e => n0 (Eq.symm e)); replace HR := HR.bes hbe (fun e => n2 (Eq.symm e)); replace BE := qAQ hw BE; clear hw hbe; refine hK.out _ _ HR (fun hS2 => ?_); clear hK K; (try simp only [Act.put, zA, zB, zC]); refine wpAnyH_done (by kernel_rfl) ?_ _; go_wp2; refine bodyPost_ret (qBt rfl _ _ w.heap.size _ JV.zero.cells _ rfl BV Tryz.underlying25 rfl qAA wa.heap.size _ rfl (run_loadVar_row _ _ _ _ #[.int .i64 3, .int .i64 (k3 : Int)] (0, 0) _ BE Tryz.underlying59 rfl qBx)) rfl ?_; exact qFE.bad HSZ.out HB HK.out
   ·have HK : Hid (qBZ s = .ok t k3) := Lib.hid (by rw [hk3] at h2 ⊢; exact qG4 ho2 h2); clear ho ho2 hk3; go_enter Tryz.func31, Tryz.ntmps31
    go_wp2_with (first
     | (refine qAO 5 rfl rfl 25 rfl rfl (.tmp 17) rfl _ qAY j.cells rfl rfl qAA rfl (qAP _) ?_; intro w7 hw; have hb := qAD hw; have B5 := (qAC hw).1; have hn5 := Lib.hid (Nat.ne_of_gt (qAW.lt HR)); clear hw; replace HR := HR.below hb; replace hj := qAi.below hb hj; replace BV := zI BV hb; replace BE := zI BE hb; replace HB := zT HB hb; clear hb; clear c0 c1 f1 c2; have c0 := HR.c0; have c1 := HR.c1; have f1 := HR.f1; have c2 := HR.c2)
     | ((with_reducible refine qAG ?_); refine qAE rfl 25 rfl _ qAY ?_; intro wa hw; have hb := qAD hw; have BV := qAI hw; have hsa := Lib.hid (qAZ hw); clear hw; replace HB := zT HB hb; clear hb)
     | ((with_reducible refine qAG ?_); refine qAE rfl 59 rfl _ qDS ?_; intro wb hw; have hb := qAD hw; have BE := qAI hw; have hsb := Lib.hid (qAZ hw); clear hw; replace BV := zI BV hb; replace HB := zT HB hb; clear hb; have n0 : ¬ wa.heap.size = w.heap.size := (by have := hsa.out; omega); have hwa : w.heap.size ≤ wa.heap.size := (by have := hsa.out; omega))
     | ((with_reducible refine qAT ?_); refine qAK (vals := _) (qFn s) rfl _ rfl rfl ?_)
     | ((with_reducible refine qLt ?_); refine qAM rfl 85 (.tmp 12) rfl _ rfl ?_; intro wc hw; have hb := qAD hw; have HR : RR wc wb.heap.size s 0 0 0 := (qAC hw).1; have hsc := Lib.hid (qAZ hw); clear hw; replace BV := zI BV hb; replace BE := zI BE hb; replace HB := zT HB hb; clear hb; have n1 : ¬ w.heap.size = wb.heap.size := (by have := hsa.out; have := hsb.out; omega); have n2 : ¬ wa.heap.size = wb.heap.size := (by have := hsb.out; omega); have hlw : w.heap.size ≤ wb.heap.size := (by have := hsa.out; have := hsb.out; omega); have c0 := HR.c0; have c1 := HR.c1; have f1 := HR.f1; have c2 := HR.c2)
     | (go_at_call 50; (with_reducible refine (qAa HR (Nat.zero_le _) HSZ.out).mono ?_); rintro e w3 ⟨rfl, hr, hm⟩; rw [← HK0.out] at hr; replace BV := Bes.box hm BV n1; replace BE := Bes.box hm BE n2; replace HR := hr; replace HB := Below.of_mv HB hm hlw (Below.leB HB (Nat.le_refl _)); clear hr hm c0 c1 f1 c2; have c0 := HR.c0; have c1 := HR.c1; have f1 := HR.f1; have c2 := HR.c2)
     | (go_at_call 51; (have hrl := HR.lt; refine (qIU HR hk0s HSZ.out).mono ?_); rw [HO.out]; rintro e w4 ⟨hm, ⟨j, rfl, hj, hje, hjo⟩, hr⟩; have HJE := Lib.hid hje; have HJO : Hid (Off (fun q => q ≤ wb.heap.size) j) := Lib.hid (Off.mono (fun q e => Nat.lt_of_le_of_lt e hrl) hjo); clear hje hjo hrl; replace BV := Bes.box hm BV n1; replace BE := Bes.box hm BE n2; replace HR := hr; replace HB := Below.of_mv HB hm hlw (Below.leB HB (Nat.le_refl _)); clear hr hm c0 c1 f1 c2; have c0 := HR.c0; have c1 := HR.c1; have f1 := HR.f1; have c2 := HR.c2)
     | (go_at_call 50; (with_reducible refine (qAa HR hks HSZ.out).mono ?_); rintro e w3 ⟨rfl, hr, hm⟩; rw [← HK3.out] at hr; replace B5 := Bes.box hm B5 (fun e => hn5.out e); replace hj := qAi.bes hm hj (Off.mono (fun q e => by have e2 : q = wb.heap.size := e; omega) HJO.out); replace BV := Bes.box hm BV n1; replace BE := Bes.box hm BE n2; replace HR := hr; replace HB := Below.of_mv HB hm hlw (Below.leB HB (Nat.le_refl _)); clear hr hm c0 c1 f1 c2; have c0 := HR.c0; have c1 := HR.c1; have f1 := HR.f1; have c2 := HR.c2)
     | ((with_reducible refine qAR ?_); refine qAL rfl 25 (.tmp 5) rfl _ rfl _ _ _ B5 Tryz.underlying25 rfl qAA ?_)
     | ((with_reducible refine qAT ?_); refine qAK (vals := _) (qOT) rfl _ rfl rfl ?_)
     | ((with_reducible refine qAF ?_); refine qAH rfl 25 (.tmp 2) (.tmp 44) rfl w.heap.size j.cells rfl rfl _ _ BV qAA rfl (qAP _) ?_; intro w5 hw; have hbe := Bes.row (X := fun q => q = w.heap.size) hw rfl; replace HB := Below.put HB hw (Nat.le_refl _); replace BE := Bes.box hbe BE n0; replace hj := qAi.bes hbe hj (Off.mono (fun q e => by have e2 : q = w.heap.size := e; omega) HJO.out); replace BV := qAQ hw BV; clear hw hbe)
     | ((with_reducible refine qAF ?_); refine qAH rfl 59 (.tmp 3) (.tmp 45) rfl wa.heap.size #[.int .i64 0, .int .i64 0] rfl rfl _ _ BE qBx rfl (qDN _ _) ?_; intro w6 hw; have hbe := Bes.row (X := fun q => q = wa.heap.size) hw rfl; replace HB := Below.put HB hw hwa; replace BV := Bes.box hbe BV (fun e => n0 (Eq.symm e)); replace hj := qAi.bes hbe hj (Off.mono (fun q e => by have e2 : q = wa.heap.size := e; have := hsb.out; omega) HJO.out); replace BE := qAQ hw BE; clear hw hbe))
    refine bodyPost_ret (qBt rfl _ _ w.heap.size _ j.cells _ rfl BV Tryz.underlying25 rfl qAA wa.heap.size _ rfl (run_loadVar_row _ _ _ _ #[.int .i64 0, .int .i64 0] (0, 0) _ BE Tryz.underlying59 rfl qBx)) rfl ?_; exact qFE.ok HSZ.out HB HK.out hj HJE.out
end
end Go.Proofs.YtnjhmnolngdfaaaGreatDoor
namespace Go.Proofs.YtnjhmnolngdfaaaGreatDoor
section
open Go.RowKit Go.PlainAid
def Cd {α : Type} (o : Out α) : Prop := ∀ c p, o = .bad c p → 3 ≤ c ∧ c ≤ 7
theorem Cd.okk {α : Type} {x : α} {k : Nat} : Cd (.ok x k) := fun _ _ h => by cases h
theorem Cd.badd {α : Type} {c : Int} {p : Nat} (h : 3 ≤ c ∧ c ≤ 7) : Cd (.bad c p : Out α) := fun _ _ e => by injection e with e1 _; rw [← e1]; exact h
theorem Cd.map {α β : Type} {o : Out α} {f : α → β} (h : Cd o) : Cd (o.map f) := by
  cases o with
  | ok x k => exact Cd.okk
  | bad c p => exact Cd.badd (h c p rfl)
theorem qFq {s v : ByteArray} : ∀ (n i : Nat), Cd (qBF s v n i)
  | 0, i => by unfold qBF; exact Cd.okk
  | n + 1, i => by
    unfold qBF
    split
    · exact qFq n _
    · exact Cd.badd (by omega)
theorem qO7 {s : ByteArray} {i : Nat} : Cd (qBo s i) := by
 have key : ∀ {neg : Bool} {j : Nat}, Cd (qCm s neg i j) := fun {neg j} => by
  unfold qCm
  split
  ·exact Cd.badd (by omega)
  ·split
   ·exact Cd.badd (by omega)
   ·exact Cd.okk
 unfold qBo
 split
 ·exact key
 ·exact key
theorem qNG {s : ByteArray} : ∀ (n i : Nat) (v : Int), Cd (qAv s n i v)
  | 0, i, v => by unfold qAv; exact Cd.okk
  | n + 1, i, v => by
    unfold qAv
    split
    · exact Cd.badd (by omega)
    · exact qNG n _ _
theorem qOH {s : ByteArray} {i : Nat} : Cd (qA0 s i) := by
 unfold qA0
 split
 ·exact Cd.okk
 ·split
  ·exact Cd.badd (by omega)
  ·split
   ·rename_i c p hh; exact Cd.badd (qNG 4 _ _ c p hh)
   ·split
    ·exact Cd.okk
    ·split
     ·split
      ·exact Cd.badd (by omega)
      ·split
       ·exact Cd.okk
       ·exact Cd.badd (by omega)
     ·exact Cd.badd (by omega)
theorem qGf {s : ByteArray} : ∀ (n i : Nat) (acc : List UInt8), i ≤ s.size → s.size < i + n → Cd (qBM s n i acc)
 | 0, i, acc, h1, h2 => by omega
 | n + 1, i, acc, h1, h2 => by
  unfold qBM
  split
  ·exact Cd.badd (by omega)
  ·rename_i h3; have hi : i < s.size := qHf (by omega)
   split
   ·exact Cd.okk
   ·split
    ·split
     ·rename_i c p hh; exact Cd.badd (qOH c p hh)
     ·rename_i x k hk; have hg := qCT x k hk; exact qGf n k _ hg.2 (by omega)
    ·split
     ·exact Cd.badd (by omega)
     ·have hd := qB8 s i hi; exact qGf n _ _ hd.2 (by omega)
theorem qKU {s : ByteArray} {i : Nat} (hi : i < s.size) : Cd (qBK s i) := qGf _ _ _ (by omega) (by omega)
theorem qIZ {σ : Type} {s : ByteArray} {endc : Int} {step : Nat → σ → Out σ} (hg : ∀ i x, qB0 s i (step i x)) (hc : ∀ i x, i ≤ s.size → Cd (step i x)) : ∀ (n i : Nat) (x : σ), i ≤ s.size → s.size < i + n → Cd (qBU s endc step n i x)
 | 0, i, x, h1, h2 => by omega
 | n + 1, i, x, h1, h2 => by
  unfold qBU
  split
  ·rename_i c p hh; exact Cd.badd (hc i x h1 c p hh)
  ·rename_i y k hk; have h3 := hg i x y k hk; have h4 := qBJ (s := s) (i := k)
   split
   ·exact Cd.okk
   ·split
    ·rename_i h5; have h6 := qC1 h5 (by omega); have h7 := qBJ (s := s) (i := qAd s k + 1); exact qIZ hg hc n _ y (qBg (by omega)) (by omega)
    ·exact Cd.badd (by omega)
theorem qLb {σ : Type} {s : ByteArray} {endc : Int} {step : Nat → σ → Out σ} (hg : ∀ i x, qB0 s i (step i x)) (hc : ∀ i x, i ≤ s.size → Cd (step i x)) {i : Nat} (hi : i < s.size) (x : σ) : Cd (qAx s endc step i x) := by
  unfold qAx
  split
  · exact Cd.okk
  · exact qIZ hg hc _ _ x (qBg (by omega)) (by omega)
theorem qO0 {s : ByteArray} {f : Nat → Out JT} (hf : ∀ i, i ≤ s.size → Cd (f i)) (i : Nat) (x : List ByteArray × List JT) : Cd (qAg s f i x) := by
 unfold qAg
 split
 ·rename_i h0; have hi := qC1 h0 (by omega)
  split
  ·rename_i c p hh; exact Cd.badd (qKU hi c p hh)
  ·rename_i nm k hk; have hgt := qCt hi nm k hk
   split
   ·exact Cd.badd (by omega)
   ·split
    ·rename_i c p hh; exact Cd.badd (qFq _ _ c p hh)
    ·rename_i k2 hk2; have hg2 := qB2 1 (qAd s k) (by omega) qDe _ _ hk2; exact (hf _ (qBg hg2.2)).map
 ·exact Cd.badd (by omega)
theorem qGv {s : ByteArray} : ∀ (d i : Nat), i ≤ s.size → Cd (qAJ s d i)
 | d, i, hi => by
  unfold qAJ
  split
  ·exact (qFq _ _).map
  ·split
   ·exact (qFq _ _).map
   ·split
    ·exact (qFq _ _).map
    ·split
     ·exact qO7.map
     ·split
      ·rename_i h0; exact (qKU (qC1 h0 (by omega))).map
      ·split
       ·exact Cd.badd (by omega)
       ·rename_i h0
        have hlt : i < s.size := by
         rcases Nat.lt_or_ge i s.size with h | h
         ·exact h
         ·rw [qBb h] at h0; exact absurd ⟨by decide, by decide⟩ h0
        cases d with
        | zero => exact Cd.badd (by omega)
        | succ d =>
         simp only
         split
         ·exact (qLb (qDV (qA8 d)) (fun i x h => (qGv d i h).map) hlt _).map
         ·exact (qLb (qD5 (qA8 d)) (fun i x h => qO0 (qGv d) i x) hlt _).map
theorem qL6 {s : ByteArray} : Cd (qBZ s) := by
  unfold qBZ
  split
  · rename_i c p hh; exact Cd.badd (qGv 32 _ (qBg (Nat.zero_le _)) c p hh)
  · split
    · exact Cd.badd (by omega)
    · exact Cd.okk
end
end Go.Proofs.YtnjhmnolngdfaaaGreatDoor
