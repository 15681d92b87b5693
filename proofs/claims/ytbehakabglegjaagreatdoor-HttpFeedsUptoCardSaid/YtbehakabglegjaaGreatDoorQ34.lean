/- Layer 9: the document's reader: a header. -/
import Derived.Test.YtbehakabglegjaaGreatDoorQ32
import Derived.Test.YtbehakabglegjaaGreatDoorQ33
import Derived.Test.YtbehakabglegjaaGreatDoorQ28
import Derived.Test.YtbehakabglegjaaGreatDoorQ29
import Derived.Test.YtbehakabglegjaaGreatDoorQ12
import Derived.Test.YtbehakabglegjaaGreatDoorQZip
namespace Go.Proofs.YtbehakabglegjaaGreatDoor
open Go.RowKit Go.PlainAid
set_option linter.unusedVariables false
set_option linter.unusedSimpArgs false
section
variable {n g : Nat} {R : Rd} {b : List UInt8} {A : Option Addr} {cp : Nat} {hs bd : Value} {w w' w8 w9 : World} {c : UInt8} {ans : Bool} {a k : Nat}
theorem hd_build2 (x y : ByteArray) (w : World) : (Instr.build 51 [(0, .string x), (1, .string y)].toArray).run Tryz.prog w = .ok (.agg (hdA x y)) w := by kernel_rfl
theorem name_13 : isNameB 13 = false := by decide +kernel
theorem name_58 : isNameB 58 = false := by decide +kernel
set_option maxRecDepth 100000 in
set_option maxHeartbeats 16000000 in
theorem rheader_any {c0 : UInt8} (M : RdM n g R b A cp hs bd w) (h1 : R.bad = 0) (h2 : R.more = false) (hA : Atk b ans a R.at_ (hF ans a R.at_ 6 [] R.m 1)) (hc0 : b[R.at_]? = some c0) (hc13 : c0 ≠ 13) (hk0 : R.at_ < 8192) (h64 : R.m.heads.length ≤ 64) (hh : R.head = true) (hl : b.length ≤ 1099511627776) :
    Calls Tryz.prog 83 #[.pointer (some ⟨g, 0, none⟩)] w (PhV n g b A cp ans a (fun k m => Atk b ans a k (hF ans a k 6 [] m 1) ∧ m.heads.length ≤ 64 ∧ R.at_ < k) true w) := by
  obtain ⟨ie, i1, i2, i3, i4⟩ := info_hd
  obtain ⟨hA0, hcp, rfl, _⟩ := own_slice M.rh
  obtain ⟨f, hf⟩ : ∃ f, R.at_ = f := ⟨_, rfl⟩
  have HB := Below.refl n w
  have HLB := Lib.hid hl
  have c9 : w.cell? ⟨g, 9, none⟩ = some (.slice hA0 R.m.heads.length hcp) := M.box.cell 9
  have hc13n : c0.toNat ≠ 13 := fun e => hc13 (UInt8.toNat_inj.1 e)
  by_cases hfull : R.m.heads.length = 64
  · have b1 : (R.m.heads.length : Int) = 64 := by omega
    have HN : Hid (Stp b ans a R.at_ 2 false) := Lib.hid (Stp.bad hA rfl rfl hc0 (name_full hk0 hc13n hfull) (by omega))
    have HP := Lib.hid h2
    have HH0 := Lib.hid hh
    clear hA hc0 hc13 hk0 h64 hh hl hf hfull h1 h2 hc13n
    go_enter Tryz.func83, Tryz.ntmps83
    go_wp2_with (first
      | ((with_reducible refine is_store ?_); refine wpl_store_cell rfl 31 (.tmp 20) _ rfl g 2 rfl (.int .i64 2) rfl _ _ M.box (show 2 < 11 by decide) one_c rfl ?_; intro w6 hw; replace HB := HB.trans (M.low hw); replace M := M.s2 2 hw; clear hw))
    first | go_end0 | (refine bodyPost_ret (results_none rfl _ _ _) rfl ?_)
    exact ⟨rfl, HB, { R with bad := 2 }, _, _, M, .inr (by show Stp b ans a R.at_ 2 R.more; rw [HP.out]; exact HN.out), HH0.out⟩
  have b1 : ((R.m.heads.length : Int) == 64) = false := by rw [beq_eq_false_iff_ne]; omega
  have H64 : Hid (R.m.heads.length < 64) := Lib.hid (by omega)
  have HC0 : Hid (b[f]? = some c0 ∧ c0.toNat ≠ 13) := Lib.hid ⟨by rw [← hf]; exact hc0, hc13n⟩
  have HR0 : Hid (f ≤ R.at_ ∧ ((R.bad = 0 ∧ R.more = false ∧ Atk b ans a R.at_ (hF ans a R.at_ 6 (sl b f R.at_) R.m 1)) ∨ Stp b ans a R.at_ R.bad R.more)) := Lib.hid ⟨by omega, .inl ⟨h1, h2, by rw [hf, sl_nil]; rw [← hf]; exact hA⟩⟩
  have c1 : w.cell? ⟨g, 1, none⟩ = some (.int .i64 (f : Int)) := by rw [← hf]; exact M.box.cell 1
  have HH0 := Lib.hid hh
  have HF0 := Lib.hid hf
  clear hA hc0 hc13 hk0 h64 hh hl hf hfull h1 h2 hc13n
  go_enter Tryz.func83, Tryz.ntmps83
  go_wp2
  clear c1 c9
  go_loopw [] (fun wr => ∃ R1 : Rd, RdM n g R1 b A cp (.slice hA0 R.m.heads.length hcp) bd wr ∧ Below n w wr ∧ R1.head = true ∧ R1.m = R.m ∧ Hid (f ≤ R1.at_ ∧ ((R1.bad = 0 ∧ R1.more = false ∧ Atk b ans a R1.at_ (hF ans a R1.at_ 6 (sl b f R1.at_) R.m 1)) ∨ Stp b ans a R1.at_ R1.bad R1.more))) (fun wr => b.length - rdPos wr g)
  case atStart => exact ⟨R, M, HB, HH0.out, rfl, HR0⟩
  case round =>
    clear HB M HR0 HH0
    obtain ⟨R1, M, HB, hh, hm, HR1⟩ := hrel
    have HHH1 := Lib.hid hh
    have HMM1 := Lib.hid hm
    have hln := HLB.out
    have HMX1 := Lib.hid M
    clear hh hm
    have HLA1 : Hid (R1.at_ ≤ 1099511627776) := Lib.hid (by
      rcases HR1.out.2 with h | h
      · have := h.2.2.1; omega
      · have := h.le; omega)
    cases hp : pkB b R1
    · have HPB := Lib.hid hp
      have HST : Hid (Stp b ans a (pkN b R1).at_ (pkN b R1).bad (pkN b R1).more) := Lib.hid (Rn.none_ (ok := fun k m => Atk b ans a k (hF ans a k 6 (sl b f k) R.m 1)) HR1.out.2 (fun h => ⟨_, h, rfl, rfl, fun _ => rfl⟩) hp)
      clear hp
      go_wp2_with (first
        | (go_at_call 82; (with_reducible refine (peek_none M HPB.out HLB.out HLA1.out).mono ?_); rintro e w5 ⟨rfl, hm, hb⟩; replace M := hm; replace HB := HB.trans hb; clear hm hb))
      first | go_end0 | (refine bodyPost_ret (results_none rfl _ _ _) rfl ?_)
      exact ⟨rfl, HB, pkN b R1, _, _, M, .inr HST.out, pkN_head.trans HHH1.out⟩
    · rename_i c
      have HPB := Lib.hid hp
      obtain ⟨p1, p2, h, p3, p4⟩ := Rn.some_ (ok := fun k m => Atk b ans a k (hF ans a k 6 (sl b f k) R.m 1)) HR1.out.2 hp
      have hk := p4 HHH1.out
      have HFK1 := Lib.hid HR1.out.1
      have hlt : R1.at_ < b.length := (List.getElem?_eq_some_iff.1 p3).1
      have HLT1 : Hid (R1.at_ < b.length) := Lib.hid hlt
      have HC1 := Lib.hid p3
      have HSN : Hid (sl b f (R1.at_ + 1) = sl b f R1.at_ ++ [c]) := Lib.hid (sl_snoc p3 HR1.out.1)
      have hsl : (sl b f R1.at_).length = R1.at_ - f := sl_len (Nat.le_of_lt HLT1.out)
      have HSL := Lib.hid hsl
      have c1 : wr.cell? ⟨g, 1, none⟩ = some (.int .i64 (R1.at_ : Int)) := M.box.cell 1
      have HP1 := Lib.hid (show R1.bad = 0 ∧ R1.more = false from ⟨p1, p2⟩)
      have hal : (R1.at_ : Int) ≤ 1099511627776 := by have := HLA1.out; omega
      clear hp p1 p2 p4 hsl
      by_cases a1 : c.toNat = 58
      · obtain rfl : c = 58 := UInt8.toNat_inj.1 a1
        have HNB := Lib.hid name_58
        have b4 : ((58 : UInt8).toNat : Int) = 58 := rfl
        by_cases a2 : f < R1.at_
        · have b3 : (f : Int) < (R1.at_ : Int) := by omega
          have HN : Hid (Atk b ans a (R1.at_ + 1) _) := Lib.hid (h.step p3 (name_end hk rfl (by rw [HSL.out]; omega) H64.out))
          have HFL : Hid (f < R1.at_) := Lib.hid a2
          clear h p3 hk hlt
          go_wp2_with (first
            | (go_at_call 82; (with_reducible refine (peek_some M HPB.out HLB.out).mono ?_); rintro e w5 ⟨rfl, hm, hb⟩; replace M := hm; replace HB := HB.trans hb; clear hm hb; clear c1; have c1 : w5.cell? ⟨g, 1, none⟩ = some (.int .i64 (R1.at_ : Int)) := M.box.cell 1)
            | (go_at_call 99; (refine (rname_any 58 _).mono ?_); rintro e w9 ⟨rfl, rfl⟩; rw [HNB.out]))
          obtain ⟨bb, off, hA, _⟩ := M.row R1.at_ _ HC1.out
          subst hA
          refine wp_region_S (S := fun w' => w'.cell? ⟨g, 0, none⟩ = some (.slice (some ⟨bb, off, none⟩) b.length cp) ∧ w'.cell? ⟨g, 1, none⟩ = some (.int .i64 (R1.at_ : Int)) ∧ RowB w' (some ⟨bb, off, none⟩) b) (by kernel_rfl) (fun w6 hh => ⟨(box_heap hh M.box).cell 0, (box_heap hh M.box).cell 1, M.row.heap hh⟩) (fun w6 hh hbb HS0 => ?_)
          have hb := hbb _ (Nat.le_refl _)
          replace HB := HB.trans (hb.mono M.nw)
          replace M := M.below hb
          clear hh hbb hb c1
          refine TKC 0 56 rfl ?_
          try simp only [Act.put, zA, zB, zC]
          refine TKC 1 57 rfl ?_
          try simp only [Act.put, zA, zB, zC]
          refine TKC 2 58 rfl ?_
          try simp only [Act.put, zA, zB, zC]
          refine TKC 3 59 rfl ?_ (by (intro w hSw; (try dsimp only at hSw); have q1 := hSw.1; go_simp; try with_reducible rfl))
          try simp only [Act.put, zA, zB, zC]
          refine TKC 4 60 rfl ?_
          try simp only [Act.put, zA, zB, zC]
          refine TKC 5 61 rfl ?_
          try simp only [Act.put, zA, zB, zC]
          refine TKC 6 62 rfl ?_
          try simp only [Act.put, zA, zB, zC]
          refine TKC 7 63 rfl ?_
          try simp only [Act.put, zA, zB, zC]
          refine TKC 8 64 rfl ?_ (by (intro w hSw; (try dsimp only at hSw); have q1 := hSw.2.1; go_simp; try with_reducible rfl))
          try simp only [Act.put, zA, zB, zC]
          refine TKC 9 65 (v := .slice (some ⟨bb, off + f, none⟩) (R1.at_ - f) (cp - f)) rfl ?_ (by (intro w hSw; (try dsimp only at hSw); have q1 : (f : Int) ≤ (R1.at_ : Int) := (by have := HFK1.out; omega); have q2 : (R1.at_ : Int) ≤ (cp : Int) := (by have := HLT1.out; have := M.cap; omega); have q3 : 0 ≤ (f : Int) := (by omega); have q4 : ((R1.at_ : Int)).toNat = R1.at_ := (by omega); have q5 : ((f : Int)).toNat = f := (by omega); have q6 : 0 ≤ (R1.at_ : Int) := (by omega); have q7 : ¬ cp = f := (by have := HLT1.out; have := M.cap; have := HFK1.out; omega); go_simp; try with_reducible rfl))
          try simp only [Act.put, zA, zB, zC]
          refine TKY 10 66 rfl (yields_text (by kernel_rfl) (.tmp 65) rfl rfl (fun w hSw => hSw.2.2.sub HFK1.out (Nat.le_of_lt HLT1.out) _)) ?_
          try simp only [Act.put, zA, zB, zC]
          refine TKC 11 6 rfl ?_
          try simp only [Act.put, zA, zB, zC]
          refine wpAnyH_done (by kernel_rfl) ?_ _
          clear HS0
          have c1 : w6.cell? ⟨g, 1, none⟩ = some (.int .i64 (R1.at_ : Int)) := M.box.cell 1
          obtain ⟨f2, hf2⟩ : ∃ f2, R1.at_ + 1 = f2 := ⟨_, rfl⟩
          have HF2 := Lib.hid hf2
          obtain ⟨nm, hnm⟩ : ∃ nm, txt (sl b f R1.at_) = nm := ⟨_, rfl⟩
          rw [hnm] at HN ⊢
          rw [hf2] at HN
          have HLF : Hid (f < f2) := Lib.hid (by have := HFL.out; omega)
          have HF2L : Hid (f2 ≤ b.length) := Lib.hid (by have := HLT1.out; omega)
          clear hf2 hnm
          go_wp2_with (first
            | ((with_reducible refine is_store ?_); refine wpl_store_cell rfl 3 (.tmp 73) _ rfl g 1 rfl (.int .i64 ((R1.at_ : Int) + 1)) rfl _ _ M.box (show 1 < 11 by decide) one_i rfl ?_; intro w7 hw; replace HB := HB.trans (M.low hw); replace M := M.s1 (R1.at_ + 1) hw; clear hw c1; have c1 : w7.cell? ⟨g, 1, none⟩ = some (.int .i64 (f2 : Int)) := (by rw [← HF2.out]; exact M.box.cell 1)))
          clear c1
          go_loopw [] (fun wr => ∃ R2 : Rd, RdM n g R2 b (some ⟨bb, off, none⟩) cp (.slice hA0 R.m.heads.length hcp) bd wr ∧ Below n w wr ∧ R2.head = true ∧ R2.m = R.m ∧ Hid (f2 ≤ R2.at_ ∧ ((R2.bad = 0 ∧ R2.more = false ∧ Atk b ans a R2.at_ (hF ans a R2.at_ 7 (sl b f2 R2.at_) { R.m with heads := R.m.heads ++ [(nm, ⟨#[]⟩)] } 1)) ∨ Stp b ans a R2.at_ R2.bad R2.more))) (fun wr => b.length - rdPos wr g)
          case atStart => exact ⟨{ R1 with at_ := R1.at_ + 1 }, M, HB, HHH1.out, HMM1.out, Lib.hid ⟨Nat.le_of_eq HF2.out.symm, .inl ⟨HP1.out.1, HP1.out.2, (by show Atk b ans a (R1.at_ + 1) (hF ans a (R1.at_ + 1) 7 (sl b f2 (R1.at_ + 1)) _ 1); rw [HF2.out, sl_nil]; exact HN.out)⟩⟩⟩
          case round =>
            clear HB M HN HMX1
            obtain ⟨R2, M, HB, hh, hm, HR2⟩ := hrel
            have HHH2 := Lib.hid hh
            have HMM2 := Lib.hid hm
            have hln := HLB.out
            have HMX2 := Lib.hid M
            clear hh hm
            have HLA2 : Hid (R2.at_ ≤ 1099511627776) := Lib.hid (by
              rcases HR2.out.2 with h | h
              · have := h.2.2.1; omega
              · have := h.le; omega)
            cases hp : pkB b R2
            · have HPB := Lib.hid hp
              have HST : Hid (Stp b ans a (pkN b R2).at_ (pkN b R2).bad (pkN b R2).more) := Lib.hid (Rn.none_ (ok := fun k m => Atk b ans a k (hF ans a k 7 (sl b f2 k) { R.m with heads := R.m.heads ++ [(nm, ⟨#[]⟩)] } 1)) HR2.out.2 (fun h => ⟨_, h, rfl, rfl, fun _ => rfl⟩) hp)
              clear hp
              go_wp2_with (first
                | (go_at_call 82; (with_reducible refine (peek_none M HPB.out HLB.out HLA2.out).mono ?_); rintro e w5 ⟨rfl, hm, hb⟩; replace M := hm; replace HB := HB.trans hb; clear hm hb))
              first | go_end0 | (refine bodyPost_ret (results_none rfl _ _ _) rfl ?_)
              exact ⟨rfl, HB, pkN b R2, _, _, M, .inr HST.out, pkN_head.trans HHH2.out⟩
            · rename_i c
              have HPB := Lib.hid hp
              obtain ⟨p1, p2, h, p3, p4⟩ := Rn.some_ (ok := fun k m => Atk b ans a k (hF ans a k 7 (sl b f2 k) { R.m with heads := R.m.heads ++ [(nm, ⟨#[]⟩)] } 1)) HR2.out.2 hp
              have hk := p4 HHH2.out
              have HFK2 := Lib.hid HR2.out.1
              have hlt : R2.at_ < b.length := (List.getElem?_eq_some_iff.1 p3).1
              have HLT2 : Hid (R2.at_ < b.length) := Lib.hid hlt
              have HC2 := Lib.hid p3
              have HSN : Hid (sl b f2 (R2.at_ + 1) = sl b f2 R2.at_ ++ [c]) := Lib.hid (sl_snoc p3 HR2.out.1)
              have hsl : (sl b f2 R2.at_).length = R2.at_ - f2 := sl_len (Nat.le_of_lt HLT2.out)
              have HSL := Lib.hid hsl
              have c1 : wr.cell? ⟨g, 1, none⟩ = some (.int .i64 (R2.at_ : Int)) := M.box.cell 1
              have HP2 := Lib.hid (show R2.bad = 0 ∧ R2.more = false from ⟨p1, p2⟩)
              have hal : (R2.at_ : Int) ≤ 1099511627776 := by have := HLA2.out; omega
              clear hp p1 p2 p4 hsl
              by_cases a3 : c.toNat = 13
              · obtain rfl : c = 13 := UInt8.toNat_inj.1 a3
                have b5 : ((13 : UInt8).toNat : Int) = 13 := rfl
                have HVL : Hid (R2.at_ < 8192 → oneS (hF ans a R2.at_ 7 (sl b f2 R2.at_) { R.m with heads := R.m.heads ++ [(nm, ⟨#[]⟩)] } 1) 13 = .ok (hF ans a (R2.at_ + 1) 5 [] { R.m with heads := R.m.heads ++ [(nm, txt (trimL (sl b f2 R2.at_)))] } 1)) := Lib.hid (fun hk => val_end hk rfl)
                have HAT := Lib.hid h
                have HP3 := Lib.hid p3
                have HSL2 := HSL
                have HTR : Hid (∀ wx, RowB wx (some ⟨bb, off, none⟩) b → Calls Tryz.prog 69 #[.slice (some ⟨bb, off + f2, none⟩) (R2.at_ - f2) (cp - f2)] wx fun e w' => e = .returned (.string (txt (trimL (sl b f2 R2.at_)))) ∧ wx = w') := Lib.hid fun wx hrow => by
                  have hcp := M.cap
                  have h2 := hrow.sub HFK2.out (Nat.le_of_lt HLT2.out) (cp - f2)
                  have h3 := HSL2.out
                  rw [← h3] at h2 ⊢
                  exact trimmed_any h2 (by have := HLT2.out; omega) (by have := HLT2.out; omega)
                obtain ⟨vl, hvl⟩ : ∃ vl, txt (trimL (sl b f2 R2.at_)) = vl := ⟨_, rfl⟩
                rw [hvl] at HVL HTR
                clear h p3 hk hlt hvl
                go_wp2_with (first
                  | (go_at_call 82; (with_reducible refine (peek_some M HPB.out HLB.out).mono ?_); rintro e w5 ⟨rfl, hm, hb⟩; replace M := hm; replace HB := HB.trans hb; clear hm hb; clear c1; have c1 : w5.cell? ⟨g, 1, none⟩ = some (.int .i64 (R2.at_ : Int)) := M.box.cell 1))
                refine wp_region_S (S := fun w' => w'.cell? ⟨g, 0, none⟩ = some (.slice (some ⟨bb, off, none⟩) b.length cp) ∧ w'.cell? ⟨g, 1, none⟩ = some (.int .i64 (R2.at_ : Int)) ∧ RowB w' (some ⟨bb, off, none⟩) b) (by kernel_rfl) (fun w6 hh => ⟨(box_heap hh M.box).cell 0, (box_heap hh M.box).cell 1, M.row.heap hh⟩) (fun w6 hh hbb HS0 => ?_)
                have hb := hbb _ (Nat.le_refl _)
                replace HB := HB.trans (hb.mono M.nw)
                replace M := M.below hb
                clear hh hbb hb c1
                refine TKC 0 101 rfl ?_
                try simp only [Act.put, zA, zB, zC]
                refine TKC 1 102 rfl ?_
                try simp only [Act.put, zA, zB, zC]
                refine TKC 2 103 rfl ?_
                try simp only [Act.put, zA, zB, zC]
                refine TKC 3 104 rfl ?_ (by (intro w hSw; (try dsimp only at hSw); have q1 := hSw.1; go_simp; try with_reducible rfl))
                try simp only [Act.put, zA, zB, zC]
                refine TKC 4 105 rfl ?_
                try simp only [Act.put, zA, zB, zC]
                refine TKC 5 106 rfl ?_
                try simp only [Act.put, zA, zB, zC]
                refine TKC 6 107 rfl ?_
                try simp only [Act.put, zA, zB, zC]
                refine TKC 7 108 rfl ?_
                try simp only [Act.put, zA, zB, zC]
                refine TKC 8 109 rfl ?_ (by (intro w hSw; (try dsimp only at hSw); have q1 := hSw.2.1; go_simp; try with_reducible rfl))
                try simp only [Act.put, zA, zB, zC]
                refine TKC 9 110 (v := .slice (some ⟨bb, off + f2, none⟩) (R2.at_ - f2) (cp - f2)) rfl ?_ (by (intro w hSw; (try dsimp only at hSw); have q1 : (f2 : Int) ≤ (R2.at_ : Int) := (by have := HFK2.out; omega); have q2 : (R2.at_ : Int) ≤ (cp : Int) := (by have := HLT2.out; have := M.cap; omega); have q3 : 0 ≤ (f2 : Int) := (by omega); have q4 : ((R2.at_ : Int)).toNat = R2.at_ := (by omega); have q5 : ((f2 : Int)).toNat = f2 := (by omega); have q6 : 0 ≤ (R2.at_ : Int) := (by omega); have q7 : ¬ cp = f2 := (by have := HLT2.out; have := M.cap; have := HFK2.out; omega); go_simp; try with_reducible rfl))
                try simp only [Act.put, zA, zB, zC]
                refine wpAnyH_ready (rs := [10]) (by kernel_rfl) (by simp) ?_
                refine AllReadyH.cons (o := ⟨some 111, _, _, _, _, _⟩) rfl (fun K hK => ?_) AllReadyH.nil
                go_simp
                (go_at_call 69; (with_reducible refine (HTR.out _ HS0.2.2).mono ?_); rintro e w10 ⟨rfl, rfl⟩)
                refine hK.out _ _ HS0 (fun hS2 => ?_)
                clear hK K hS2
                try simp only [Act.put, zA, zB, zC]
                refine TKC 11 10 rfl ?_
                try simp only [Act.put, zA, zB, zC]
                refine wpAnyH_done (by kernel_rfl) ?_ _
                clear HS0
                have HRN : Hid (RnF b ans a R2.at_ (stL ans a R2.at_ (hF ans a R2.at_ 7 (sl b f2 R2.at_) { R.m with heads := R.m.heads ++ [(nm, ⟨#[]⟩)] } 1) { R.m with heads := R.m.heads ++ [(nm, vl)] } 1 0) R2) := Lib.hid (.inl ⟨HP2.out.1, HP2.out.2, rfl, HAT.out⟩)
                have HWT : Hid (R2.bad = 0 → R2.more = false → Wt b ans a R2.at_ ⟨#[13, 10]⟩ 3 R2.head (stL ans a R2.at_ (hF ans a R2.at_ 7 (sl b f2 R2.at_) { R.m with heads := R.m.heads ++ [(nm, ⟨#[]⟩)] } 1) { R.m with heads := R.m.heads ++ [(nm, vl)] } 1)) := Lib.hid fun _ _ => by
                  rw [HHH2.out]
                  exact wt_line HP3.out rfl rfl rfl (by omega) HVL.out
                go_wp2_with (first
                  | (go_at_call 77; (with_reducible refine (rwant_any M HRN.out HWT.out HLB.out (by decide)).mono ?_); rintro e w9 ⟨rfl, hb, R9, hm9, hr9, e9, e10, e11⟩; replace M := hm9; replace HB := HB.trans hb; have HR9 := Lib.hid hr9; have HM9 := Lib.hid e9; have HH9 := Lib.hid e10; clear hm9 hr9 e9 e10 e11 hb HRN HWT))
                rcases HR9.out with h | h
                · have HQ1 := Lib.hid h.1
                  have HQ2 := Lib.hid h.2.1
                  have HQ3 := Lib.hid h.2.2
                  clear h
                  have c9 : w9.cell? ⟨g, 9, none⟩ = some (.slice hA0 R.m.heads.length hcp) := M.box.cell 9
                  go_wp2_with (first
                    | (go_at_call 84; (refine (rstop_no M HQ1.out HQ2.out).mono ?_); rintro e w11 ⟨rfl, rfl⟩)
                    | ((with_reducible refine is_build2 _ ?_); refine wpl_build_at (vals := [(0, .string nm), (1, .string vl)]) (hd_build2 nm vl) rfl _ rfl rfl ?_)
                    | ((with_reducible refine is_slice ?_); refine wpl_slice_at 1 [(0, .agg (hdA nm vl))] (hdA nm vl) ie _ (by rw [i3]; exact hd_fill _ _) rfl 22 51 _ rfl rfl Tryz.underlying22 i1 i2 (by rw [i3]; decide) (by rw [i3]; decide) ?_; intro w12 hw; have hb := hid_grow hw; have B9 := (hid_alloc hw).1; replace HB := HB.trans (hb.mono M.nw); replace M := M.below hb; clear hw hb c9)
                    | ((with_reducible refine is_app (.tmp 122) (.tmp 126) ?_); have hrh := M.rh; rw [HM9.out, HMM2.out] at hrh; refine wpl_grow rfl (.tmp 122) (.tmp 126) 22 rfl n 51 ie _ 2 32 Tryz.underlying22 i1 i2 i3 i4 rfl (by decide) _ R.m.heads.length _ rfl hrh _ _ (hdA nm vl) _ B9 rfl rfl (hd_one _ _) (by have := H64.out; unfold maxLen; omega) (by have := H64.out; omega) M.nw ?_; intro v13 w13 h13 hg13 hb13; rw [hds_more] at h13; have HO13 := Lib.hid h13; have HG13 := Lib.hid hg13; have B13 := M.boxH hg13; replace HB := HB.trans hb13; clear h13 hg13 hb13 B9 hrh)
                    | ((with_reducible refine is_store ?_); refine wpl_store_cell rfl 22 (.tmp 130) (.tmp 127) rfl g 9 rfl v13 rfl _ _ B13 (show 9 < 11 by decide) one_sh (by obtain ⟨x1, x2, x3, _⟩ := own_slice HO13.out; rw [x3]; rfl) ?_; intro w14 hw; have hwb := (Bes.row (X := fun q => q = g) hw rfl).below (fun q e => by rw [show q = g from e]; exact M.gn) (Nat.le_trans M.nw HG13.out.size); replace HB := HB.trans hwb; have hM := M.s9 (l := R.m.heads ++ [(nm, vl)]) HG13.out (by rw [List.length_append]; exact HO13.out) hw; clear hw hwb B13))
                  first | go_end0 | (refine bodyPost_ret (results_none rfl _ _ _) rfl ?_)
                  refine ⟨rfl, HB, _, _, _, hM, .inl ⟨HQ1.out, HQ2.out, ?_, ?_, ?_⟩, HH9.out.trans HHH2.out⟩
                  · have h4 := HQ3.out.2
                    have h3 : R9.at_ = R2.at_ + 2 := HQ3.out.1
                    show Atk b ans a R9.at_ (hF ans a R9.at_ 6 [] { R9.m with heads := R.m.heads ++ [(nm, vl)] } 1)
                    rw [h3, HM9.out, HMM2.out]
                    exact h4
                  · show (R.m.heads ++ [(nm, vl)]).length ≤ 64
                    rw [List.length_append]
                    have := H64.out
                    show _ + 1 ≤ 64
                    omega
                  · show R.at_ < R9.at_
                    have h3 : R9.at_ = R2.at_ + 2 := HQ3.out.1
                    have := HF0.out
                    have := HLF.out
                    have := HFK2.out
                    omega
                · have HQ1 : Hid (¬ (R9.bad = 0 ∧ R9.more = false)) := Lib.hid fun x => h.no x.1 x.2
                  have HQ2 := Lib.hid h
                  clear h
                  go_wp2_with (first
                    | (go_at_call 84; (refine (rstop_yes M HQ1.out).mono ?_); rintro e w11 ⟨rfl, rfl⟩))
                  first | go_end0 | (refine bodyPost_ret (results_none rfl _ _ _) rfl ?_)
                  exact ⟨rfl, HB, R9, _, _, M, .inr HQ2.out, HH9.out.trans HHH2.out⟩
              · have b5 : ((c.toNat : Int) == 13) = false := by rw [beq_eq_false_iff_ne]; omega
                cases hvb : isValueB c
                · have HVB := Lib.hid hvb
                  have HN : Hid (Stp b ans a R2.at_ 3 false) := Lib.hid (Stp.bad h rfl rfl p3 (val_bad hk hvb a3) (by omega))
                  clear h p3 hk hlt
                  go_wp2_with (first
                    | (go_at_call 82; (with_reducible refine (peek_some M HPB.out HLB.out).mono ?_); rintro e w5 ⟨rfl, hm, hb⟩; replace M := hm; replace HB := HB.trans hb; clear hm hb; clear c1; have c1 : w5.cell? ⟨g, 1, none⟩ = some (.int .i64 (R2.at_ : Int)) := M.box.cell 1)
                    | (go_at_call 100; (with_reducible refine (rvalue_any _ _).mono ?_); rintro e w9 ⟨rfl, rfl⟩; rw [HVB.out])
                    | ((with_reducible refine is_store ?_); refine wpl_store_cell rfl 31 (.tmp 93) _ rfl g 2 rfl (.int .i64 3) rfl _ _ M.box (show 2 < 11 by decide) one_c rfl ?_; intro w6 hw; replace HB := HB.trans (M.low hw); replace M := M.s2 3 hw; clear hw))
                  first | go_end0 | (refine bodyPost_ret (results_none rfl _ _ _) rfl ?_)
                  exact ⟨rfl, HB, { R2 with bad := 3 }, _, _, M, .inr (by show Stp b ans a R2.at_ 3 R2.more; rw [HP2.out.2]; exact HN.out), HHH2.out⟩
                · have HVB := Lib.hid hvb
                  have HN : Hid (Atk b ans a (R2.at_ + 1) _) := Lib.hid (h.step p3 (val_put hk hvb a3))
                  rw [← HSN.out] at HN
                  have HL1 := Lib.hid hlt
                  clear h p3 hk hlt
                  go_wp2_with (first
                    | (go_at_call 82; (with_reducible refine (peek_some M HPB.out HLB.out).mono ?_); rintro e w5 ⟨rfl, hm, hb⟩; replace M := hm; replace HB := HB.trans hb; clear hm hb; clear c1; have c1 : w5.cell? ⟨g, 1, none⟩ = some (.int .i64 (R2.at_ : Int)) := M.box.cell 1)
                    | (go_at_call 100; (with_reducible refine (rvalue_any _ _).mono ?_); rintro e w9 ⟨rfl, rfl⟩; rw [HVB.out])
                    | ((with_reducible refine is_store ?_); refine wpl_store_cell rfl 3 (.tmp 100) _ rfl g 1 rfl (.int .i64 ((R2.at_ : Int) + 1)) rfl _ _ M.box (show 1 < 11 by decide) one_i rfl ?_; intro w6 hw; replace HB := HB.trans (M.low hw); replace M := M.s1 (R2.at_ + 1) hw; clear hw c1))
                  go_roundw
                  case rel => ((repeat apply Exists.intro); exact ⟨⟨{ R2 with at_ := R2.at_ + 1 }, M, HB, HHH2.out, HMM2.out, Lib.hid ⟨(by show f2 ≤ R2.at_ + 1; have := HFK2.out; omega), .inl ⟨HP2.out.1, HP2.out.2, HN.out⟩⟩⟩, rfl⟩)
                  case measure => (rw [rdPos_of HMX2.out, rdPos_of M]; show b.length - (R2.at_ + 1) < _; have := HL1.out; omega)
        · have b3 : ¬ (f : Int) < (R1.at_ : Int) := by omega
          have HN : Hid (Stp b ans a R1.at_ 3 false) := Lib.hid (Stp.bad h rfl rfl p3 (name_bad hk name_58 (fun x => absurd x.1 (by decide)) (fun x => by have := HSL.out; omega) H64.out) (by omega))
          clear h p3 hk hlt
          go_wp2_with (first
            | (go_at_call 82; (with_reducible refine (peek_some M HPB.out HLB.out).mono ?_); rintro e w5 ⟨rfl, hm, hb⟩; replace M := hm; replace HB := HB.trans hb; clear hm hb; clear c1; have c1 : w5.cell? ⟨g, 1, none⟩ = some (.int .i64 (R1.at_ : Int)) := M.box.cell 1)
            | (go_at_call 99; (refine (rname_any 58 _).mono ?_); rintro e w9 ⟨rfl, rfl⟩; rw [HNB.out])
            | ((with_reducible refine is_store ?_); refine wpl_store_cell rfl 31 (.tmp 48) _ rfl g 2 rfl (.int .i64 3) rfl _ _ M.box (show 2 < 11 by decide) one_c rfl ?_; intro w6 hw; replace HB := HB.trans (M.low hw); replace M := M.s2 3 hw; clear hw))
          first | go_end0 | (refine bodyPost_ret (results_none rfl _ _ _) rfl ?_)
          exact ⟨rfl, HB, { R1 with bad := 3 }, _, _, M, .inr (by show Stp b ans a R1.at_ 3 R1.more; rw [HP1.out.2]; exact HN.out), HHH1.out⟩
      · have b4 : ((c.toNat : Int) == 58) = false := by rw [beq_eq_false_iff_ne]; omega
        cases hnb : isNameB c
        · have HNB := Lib.hid hnb
          have HN : Hid (Stp b ans a R1.at_ 3 false) := Lib.hid (Stp.bad h rfl rfl p3 (name_bad hk hnb (fun x => by have h5 := HSL.out; have h6 : R1.at_ = f := (by have := HFK1.out; omega); rw [h6, HC0.out.1] at p3; exact HC0.out.2 (by rw [Option.some.inj p3]; exact x.1)) (fun x => a1 x.1) H64.out) (by omega))
          clear h p3 hk hlt
          go_wp2_with (first
            | (go_at_call 82; (with_reducible refine (peek_some M HPB.out HLB.out).mono ?_); rintro e w5 ⟨rfl, hm, hb⟩; replace M := hm; replace HB := HB.trans hb; clear hm hb; clear c1; have c1 : w5.cell? ⟨g, 1, none⟩ = some (.int .i64 (R1.at_ : Int)) := M.box.cell 1)
            | (go_at_call 99; (with_reducible refine (rname_any _ _).mono ?_); rintro e w9 ⟨rfl, rfl⟩; rw [HNB.out])
            | ((with_reducible refine is_store ?_); refine wpl_store_cell rfl 31 (.tmp 48) _ rfl g 2 rfl (.int .i64 3) rfl _ _ M.box (show 2 < 11 by decide) one_c rfl ?_; intro w6 hw; replace HB := HB.trans (M.low hw); replace M := M.s2 3 hw; clear hw))
          first | go_end0 | (refine bodyPost_ret (results_none rfl _ _ _) rfl ?_)
          exact ⟨rfl, HB, { R1 with bad := 3 }, _, _, M, .inr (by show Stp b ans a R1.at_ 3 R1.more; rw [HP1.out.2]; exact HN.out), HHH1.out⟩
        · have HNB := Lib.hid hnb
          have HN : Hid (Atk b ans a (R1.at_ + 1) _) := Lib.hid (h.step p3 (name_put hk hnb (fun x => by rw [UInt8.toNat_inj.1 (show c.toNat = (13 : UInt8).toNat from x), name_13] at hnb; cases hnb) a1 H64.out))
          rw [← HSN.out] at HN
          have HL1 := Lib.hid hlt
          clear h p3 hk hlt
          go_wp2_with (first
            | (go_at_call 82; (with_reducible refine (peek_some M HPB.out HLB.out).mono ?_); rintro e w5 ⟨rfl, hm, hb⟩; replace M := hm; replace HB := HB.trans hb; clear hm hb; clear c1; have c1 : w5.cell? ⟨g, 1, none⟩ = some (.int .i64 (R1.at_ : Int)) := M.box.cell 1)
            | (go_at_call 99; (with_reducible refine (rname_any _ _).mono ?_); rintro e w9 ⟨rfl, rfl⟩; rw [HNB.out])
            | ((with_reducible refine is_store ?_); refine wpl_store_cell rfl 3 (.tmp 55) _ rfl g 1 rfl (.int .i64 ((R1.at_ : Int) + 1)) rfl _ _ M.box (show 1 < 11 by decide) one_i rfl ?_; intro w6 hw; replace HB := HB.trans (M.low hw); replace M := M.s1 (R1.at_ + 1) hw; clear hw c1))
          go_roundw
          case rel => ((repeat apply Exists.intro); exact ⟨⟨{ R1 with at_ := R1.at_ + 1 }, M, HB, HHH1.out, HMM1.out, Lib.hid ⟨(by show f ≤ R1.at_ + 1; have := HFK1.out; omega), .inl ⟨HP1.out.1, HP1.out.2, HN.out⟩⟩⟩, rfl⟩)
          case measure => (rw [rdPos_of HMX1.out, rdPos_of M]; show b.length - (R1.at_ + 1) < _; have := HL1.out; omega)
end
end Go.Proofs.YtbehakabglegjaaGreatDoor
