/- Layer 9: the document's reader: an answer's status and reason. -/
import Derived.Test.YtbehakabglegjaaGreatDoorQ31
import Derived.Test.YtbehakabglegjaaGreatDoorQZip
namespace Go.Proofs.YtbehakabglegjaaGreatDoor
open Go.RowKit Go.PlainAid
set_option linter.unusedVariables false
set_option linter.unusedSimpArgs false
section
variable {n g : Nat} {R : Rd} {b : List UInt8} {A : Option Addr} {cp : Nat} {hs bd : Value} {w w' : World} {c : UInt8} {ans : Bool} {a k : Nat}
/-- A line's end. -/
def stL (ans : Bool) (a k : Nat) (F0 : Fs) (m : Ms) (ab : Int) : Nat → Fs
  | 0 => F0
  | 1 => hF ans a (k + 1) 5 [] m ab
  | _ => hF ans a (k + 2) 6 [] m 1
theorem wt_line {F0 : Fs} {m : Ms} {ab : Int} (h13 : b[k]? = some 13) (h1 : F0.whole = []) (h2 : F0.head = (k : Int)) (h3 : F0.pos = a + k) (hab : ab ≠ 2) (e : k < 8192 → oneS F0 13 = .ok (hF ans a (k + 1) 5 [] m ab)) : Wt b ans a k ⟨#[13, 10]⟩ 3 true (stL ans a k F0 m ab) := by
  have hl : bl (⟨#[13, 10]⟩ : ByteArray) = [13, 10] := rfl
  refine ⟨fun i c hd hc hk => ?_, fun i c d hd hc hk hne => ?_, fun i hi => ?_, fun i hi _ => ?_, fun i hi => ?_, .inr (.inl rfl)⟩
  · rw [hl] at hd
    match i, hd with
    | 0, hd =>
      obtain rfl : c = 13 := by simpa using hd.symm
      exact e (by have := hk rfl; omega)
    | 1, hd =>
      obtain rfl : c = 10 := by simpa using hd.symm
      exact line_put (by have := hk rfl; omega) rfl hab
    | i + 2, hd => simp at hd
  · rw [hl] at hd
    match i, hd with
    | 0, hd =>
      obtain rfl : d = 13 := by simpa using hd.symm
      rw [Nat.add_zero, h13] at hc
      exact absurd (Option.some.inj hc).symm hne
    | 1, hd =>
      obtain rfl : d = 10 := by simpa using hd.symm
      exact line_bad (by have := hk rfl; omega) (fun h => hne (UInt8.toNat_inj.1 h))
    | i + 2, hd => simp at hd
  · have hi2 : i < 2 := hi
    match i, hi2 with
    | 0, _ => exact h1
    | 1, _ => rfl
  · have hi2 : i < 2 := hi
    match i, hi2 with
    | 0, _ => exact h2
    | 1, _ => rfl
  · have hi2 : i < 2 := hi
    match i, hi2 with
    | 0, _ => exact h3
    | 1, _ => rfl
theorem decV_snoc (l : List UInt8) (c : UInt8) : decV (l ++ [c]) = 10 * decV l + (c.toNat - 48) := by unfold decV; rw [List.foldl_append]; rfl
set_option maxRecDepth 100000 in
set_option maxHeartbeats 8000000 in
theorem rreason_any (M : RdM n g R b A cp hs bd w) (hR : Rn b ans a (fun k m => Atk b ans a k (hF ans a k 4 [] m 0)) R) (hh : R.head = true) (hl : b.length ≤ 1099511627776) :
    Calls Tryz.prog 79 #[.pointer (some ⟨g, 0, none⟩)] w (PhV n g b A cp ans a (fun k m => Atk b ans a k (hF ans a k 6 [] m 1)) true w) := by
  obtain ⟨f, hf⟩ : ∃ f, R.at_ = f := ⟨_, rfl⟩
  have HB := Below.refl n w
  have HLB := Lib.hid hl
  have HR0 : Hid ((f ≤ R.at_ ∧ R.at_ ≤ f + b.length) ∧ ((R.bad = 0 ∧ R.more = false ∧ Atk b ans a R.at_ (hF ans a R.at_ 4 (sl b f R.at_) R.m 0)) ∨ Stp b ans a R.at_ R.bad R.more)) := Lib.hid ⟨⟨by omega, by omega⟩, by rw [hf, sl_nil]; rw [← hf]; exact hR⟩
  have c1 : w.cell? ⟨g, 1, none⟩ = some (.int .i64 (f : Int)) := by rw [← hf]; exact M.box.cell 1
  have HH0 := Lib.hid hh
  clear hl hR hf hh
  go_enter Tryz.func79, Tryz.ntmps79
  go_wp2
  clear c1
  go_loopw [] (fun wr => ∃ R1 : Rd, RdM n g R1 b A cp hs bd wr ∧ Below n w wr ∧ R1.head = true ∧ Hid ((f ≤ R1.at_ ∧ R1.at_ ≤ f + b.length) ∧ ((R1.bad = 0 ∧ R1.more = false ∧ Atk b ans a R1.at_ (hF ans a R1.at_ 4 (sl b f R1.at_) R1.m 0)) ∨ Stp b ans a R1.at_ R1.bad R1.more))) (fun wr => b.length - rdPos wr g)
  case atStart => exact ⟨R, M, HB, HH0.out, HR0⟩
  case round =>
    clear HB M HR0 HH0
    obtain ⟨R1, M, HB, hh, HR1⟩ := hrel
    have HHH := Lib.hid hh
    have hln := HLB.out
    have HM0 := Lib.hid M
    clear hh
    have HLA : Hid (R1.at_ ≤ 1099511627776) := Lib.hid (by
      rcases HR1.out.2 with h | h
      · have := h.2.2.1; omega
      · have := h.le; omega)
    cases hp : pkB b R1
    · have HPB := Lib.hid hp
      have HST : Hid (Stp b ans a (pkN b R1).at_ (pkN b R1).bad (pkN b R1).more) := Lib.hid (Rn.none_ (ok := fun k m => Atk b ans a k (hF ans a k 4 (sl b f k) m 0)) HR1.out.2 (fun h => ⟨_, h, rfl, rfl, fun _ => rfl⟩) hp)
      clear hp
      go_wp2_with (first
        | (go_at_call 82; (with_reducible refine (peek_none M HPB.out HLB.out HLA.out).mono ?_); rintro e w5 ⟨rfl, hm, hb⟩; replace M := hm; replace HB := HB.trans hb; clear hm hb))
      first | go_end0 | (refine bodyPost_ret (results_none rfl _ _ _) rfl ?_)
      exact ⟨rfl, HB, pkN b R1, _, _, M, .inr HST.out, pkN_head.trans HHH.out⟩
    · rename_i c
      have HPB := Lib.hid hp
      obtain ⟨p1, p2, h, p3, p4⟩ := Rn.some_ (ok := fun k m => Atk b ans a k (hF ans a k 4 (sl b f k) m 0)) HR1.out.2 hp
      have hk := p4 HHH.out
      have HFK := Lib.hid HR1.out.1.1
      have hbn := HR1.out.1.2
      have hlt : R1.at_ < b.length := (List.getElem?_eq_some_iff.1 p3).1
      have HLT : Hid (R1.at_ < b.length) := Lib.hid hlt
      have HC := Lib.hid p3
      have HSN : Hid (sl b f (R1.at_ + 1) = sl b f R1.at_ ++ [c]) := Lib.hid (sl_snoc p3 HR1.out.1.1)
      have hsl : (sl b f R1.at_).length = R1.at_ - f := sl_len (Nat.le_of_lt HLT.out)
      have c1 : wr.cell? ⟨g, 1, none⟩ = some (.int .i64 (R1.at_ : Int)) := M.box.cell 1
      have HP := Lib.hid (show R1.bad = 0 ∧ R1.more = false from ⟨p1, p2⟩)
      have hsub : (R1.at_ : Int) - (f : Int) = ((R1.at_ - f : Nat) : Int) := by have := HFK.out; omega
      have hal : (R1.at_ : Int) ≤ 1099511627776 := by have := HLA.out; omega
      obtain ⟨t, ht⟩ : ∃ t, R1.at_ - f = t := ⟨_, rfl⟩
      rw [ht] at hsub hsl
      have HSL := Lib.hid hsl
      have HTT := Lib.hid ht
      clear hp p1 p2 p4 ht hsl
      by_cases a1 : c.toNat = 13
      · obtain rfl : c = 13 := UInt8.toNat_inj.1 a1
        have b1 : ((13 : UInt8).toNat : Int) = 13 := rfl
        obtain ⟨c, hcd⟩ : ∃ c : UInt8, c = 13 := ⟨_, rfl⟩
        have HC : Hid (b[R1.at_]? = some c) := Lib.hid (by rw [hcd]; exact p3)
        clear hcd
        have HRN : Hid (RnF b ans a R1.at_ (stL ans a R1.at_ (hF ans a R1.at_ 4 (sl b f R1.at_) R1.m 0) { R1.m with reas := txt (sl b f R1.at_) } 0 0) ({ R1 with m := { R1.m with reas := txt (sl b f R1.at_) } } : Rd)) := Lib.hid (.inl ⟨HP.out.1, HP.out.2, rfl, h⟩)
        have HWT : Hid (({ R1 with m := { R1.m with reas := txt (sl b f R1.at_) } } : Rd).bad = 0 → ({ R1 with m := { R1.m with reas := txt (sl b f R1.at_) } } : Rd).more = false → Wt b ans a R1.at_ ⟨#[13, 10]⟩ 3 ({ R1 with m := { R1.m with reas := txt (sl b f R1.at_) } } : Rd).head (stL ans a R1.at_ (hF ans a R1.at_ 4 (sl b f R1.at_) R1.m 0) { R1.m with reas := txt (sl b f R1.at_) } 0)) := Lib.hid fun _ _ => by
          show Wt b ans a R1.at_ ⟨#[13, 10]⟩ 3 R1.head _
          rw [HHH.out]
          exact wt_line p3 rfl rfl rfl (by omega) (fun hk => reas_end hk rfl)
        clear h p3 hk hlt hbn
        go_wp2_with (first
          | (go_at_call 82; (with_reducible refine (peek_some M HPB.out HLB.out).mono ?_); rintro e w5 ⟨rfl, hm, hb⟩; replace M := hm; replace HB := HB.trans hb; clear hm hb; clear c1; have c1 : w5.cell? ⟨g, 1, none⟩ = some (.int .i64 (R1.at_ : Int)) := M.box.cell 1))
        obtain ⟨bb, off, hA, _⟩ := M.row R1.at_ c HC.out
        subst hA
        refine wp_region_S (S := fun w' => w'.cell? ⟨g, 0, none⟩ = some (.slice (some ⟨bb, off, none⟩) b.length cp) ∧ w'.cell? ⟨g, 1, none⟩ = some (.int .i64 (R1.at_ : Int)) ∧ RowB w' (some ⟨bb, off, none⟩) b) (by kernel_rfl) (fun w6 hh => ⟨(box_heap hh M.box).cell 0, (box_heap hh M.box).cell 1, M.row.heap hh⟩) (fun w6 hh hbb HS0 => ?_)
        have hb := hbb _ (Nat.le_refl _)
        replace HB := HB.trans (hb.mono M.nw)
        replace M := M.below hb
        clear hh hbb hb c1
        refine TKC 0 18 rfl ?_
        try simp only [Act.put, zA, zB, zC]
        refine TKC 1 19 rfl ?_
        try simp only [Act.put, zA, zB, zC]
        refine TKC 2 20 rfl ?_
        try simp only [Act.put, zA, zB, zC]
        refine TKC 3 21 rfl ?_
        try simp only [Act.put, zA, zB, zC]
        refine TKC 4 22 rfl ?_ (by (intro w hSw; (try dsimp only at hSw); have q1 := hSw.1; go_simp; try with_reducible rfl))
        try simp only [Act.put, zA, zB, zC]
        refine TKC 5 23 rfl ?_
        try simp only [Act.put, zA, zB, zC]
        refine TKC 6 24 rfl ?_
        try simp only [Act.put, zA, zB, zC]
        refine TKC 7 25 rfl ?_
        try simp only [Act.put, zA, zB, zC]
        refine TKC 8 26 rfl ?_
        try simp only [Act.put, zA, zB, zC]
        refine TKC 9 27 rfl ?_ (by (intro w hSw; (try dsimp only at hSw); have q1 := hSw.2.1; go_simp; try with_reducible rfl))
        try simp only [Act.put, zA, zB, zC]
        refine TKC 10 28 (v := .slice (some ⟨bb, off + f, none⟩) (R1.at_ - f) (cp - f)) rfl ?_ (by (intro w hSw; (try dsimp only at hSw); have q1 : (f : Int) ≤ (R1.at_ : Int) := (by have := HFK.out; omega); have q2 : (R1.at_ : Int) ≤ (cp : Int) := (by have := HLT.out; have := M.cap; omega); have q3 : 0 ≤ (f : Int) := (by omega); have q4 : ((R1.at_ : Int)).toNat = R1.at_ := (by omega); have q5 : ((f : Int)).toNat = f := (by omega); have q6 : 0 ≤ (R1.at_ : Int) := (by omega); have q7 : ¬ cp = f := (by have := HLT.out; have := M.cap; have := HFK.out; omega); go_simp; try with_reducible rfl))
        try simp only [Act.put, zA, zB, zC]
        refine TKY 11 29 rfl (yields_text (by kernel_rfl) (.tmp 28) rfl rfl (fun w hSw => hSw.2.2.sub HFK.out (Nat.le_of_lt HLT.out) _)) ?_
        try simp only [Act.put, zA, zB, zC]
        refine TKC 12 30 rfl ?_
        try simp only [Act.put, zA, zB, zC]
        refine TKC 13 31 rfl ?_
        try simp only [Act.put, zA, zB, zC]
        refine TKC 14 32 rfl ?_
        try simp only [Act.put, zA, zB, zC]
        refine wpAnyH_ready (rs := [15]) (by kernel_rfl) (by simp) ?_
        refine AllReadyH.cons (o := ⟨none, _, _, _, _, _⟩) rfl (fun K hK => ?_) AllReadyH.nil
        simp only [Region.wanted, if_true]
        refine op_store_cell 9 _ _ rfl g 8 rfl (.string (txt (sl b f R1.at_))) rfl _ _ M.box (show 8 < 11 by decide) one_s rfl ?_
        intro w7 hw
        replace HB := HB.trans (M.low hw)
        replace M := M.s8 (txt (sl b f R1.at_)) hw
        clear hw
        replace HS0 := (show w7.cell? ⟨g, 0, none⟩ = some (.slice (some ⟨bb, off, none⟩) b.length cp) ∧ w7.cell? ⟨g, 1, none⟩ = some (.int .i64 (R1.at_ : Int)) ∧ RowB w7 (some ⟨bb, off, none⟩) b from ⟨M.box.cell 0, M.box.cell 1, M.row⟩)
        refine hK.out _ _ HS0 (fun hS2 => ?_)
        clear hK K hS2
        try simp only [Act.put, zA, zB, zC]
        refine wpAnyH_done (by kernel_rfl) ?_ _
        clear HS0
        clear HM0
        have c1 : w7.cell? ⟨g, 1, none⟩ = some (.int .i64 (R1.at_ : Int)) := M.box.cell 1
        go_wp2_with (first
          | (go_at_call 77; (with_reducible refine (rwant_any M HRN.out HWT.out HLB.out (by decide)).mono ?_); rintro e w9 ⟨rfl, hb, R9, hm9, hr9, e9, e10, e11⟩; have HRU9 := Lib.hid e11; replace M := hm9; replace HB := HB.trans hb; have HR9 := Lib.hid hr9; have HM9 := Lib.hid e9; have HH9 := Lib.hid e10; clear hm9 hr9 e9 e10 e11 hb HRN HWT))
        first | go_end0 | (refine bodyPost_ret (results_none rfl _ _ _) rfl ?_)
        refine ⟨rfl, HB, R9, _, _, M, ?_, HH9.out.trans HHH.out⟩
        rcases HR9.out with h | h
        · refine .inl ⟨h.1, h.2.1, ?_⟩
          have h4 := h.2.2.2
          have h3 : R9.at_ = R1.at_ + 2 := h.2.2.1
          rw [h3, HM9.out]
          exact h4
        · exact .inr h
      · have b1 : ((c.toNat : Int) == 13) = false := by rw [beq_eq_false_iff_ne]; omega
        by_cases a2 : c.toNat < 32
        · have b2 : (c.toNat : Int) < 32 := by omega
          have HN : Hid (Stp b ans a R1.at_ 3 false) := Lib.hid (Stp.bad h rfl rfl p3 (reas_bad hk (by omega) a1) (by omega))
          clear h p3 hk hbn
          go_wp2_with (first
            | (go_at_call 82; (with_reducible refine (peek_some M HPB.out HLB.out).mono ?_); rintro e w5 ⟨rfl, hm, hb⟩; replace M := hm; replace HB := HB.trans hb; clear hm hb; clear c1; have c1 : w5.cell? ⟨g, 1, none⟩ = some (.int .i64 (R1.at_ : Int)) := M.box.cell 1)
            | ((with_reducible refine is_store ?_); refine wpl_store_cell rfl 31 (.tmp 43) _ rfl g 2 rfl (.int .i64 3) rfl _ _ M.box (show 2 < 11 by decide) one_c rfl ?_; intro w6 hw; replace HB := HB.trans (M.low hw); replace M := M.s2 3 hw; clear hw))
          first | go_end0 | (refine bodyPost_ret (results_none rfl _ _ _) rfl ?_)
          exact ⟨rfl, HB, { R1 with bad := 3 }, _, _, M, .inr (by show Stp b ans a R1.at_ 3 R1.more; rw [HP.out.2]; exact HN.out), HHH.out⟩
        · have b2 : ¬ (c.toNat : Int) < 32 := by omega
          by_cases a3 : 126 < c.toNat
          · have b3 : 126 < (c.toNat : Int) := by omega
            have HN : Hid (Stp b ans a R1.at_ 3 false) := Lib.hid (Stp.bad h rfl rfl p3 (reas_bad hk (by omega) a1) (by omega))
            clear h p3 hk hbn
            go_wp2_with (first
              | (go_at_call 82; (with_reducible refine (peek_some M HPB.out HLB.out).mono ?_); rintro e w5 ⟨rfl, hm, hb⟩; replace M := hm; replace HB := HB.trans hb; clear hm hb; clear c1; have c1 : w5.cell? ⟨g, 1, none⟩ = some (.int .i64 (R1.at_ : Int)) := M.box.cell 1)
              | ((with_reducible refine is_store ?_); refine wpl_store_cell rfl 31 (.tmp 43) _ rfl g 2 rfl (.int .i64 3) rfl _ _ M.box (show 2 < 11 by decide) one_c rfl ?_; intro w6 hw; replace HB := HB.trans (M.low hw); replace M := M.s2 3 hw; clear hw))
            first | go_end0 | (refine bodyPost_ret (results_none rfl _ _ _) rfl ?_)
            exact ⟨rfl, HB, { R1 with bad := 3 }, _, _, M, .inr (by show Stp b ans a R1.at_ 3 R1.more; rw [HP.out.2]; exact HN.out), HHH.out⟩
          · have b3 : ¬ 126 < (c.toNat : Int) := by omega
            have HN : Hid (Atk b ans a (R1.at_ + 1) _) := Lib.hid (h.step p3 (reas_put hk (by omega)))
            have HTL : Hid (R1.at_ < f + b.length) := Lib.hid (by have := HTT.out; omega)
            rw [← HSN.out] at HN
            have HL1 := Lib.hid hlt
            clear h p3 hk hlt hbn
            go_wp2_with (first
              | (go_at_call 82; (with_reducible refine (peek_some M HPB.out HLB.out).mono ?_); rintro e w5 ⟨rfl, hm, hb⟩; replace M := hm; replace HB := HB.trans hb; clear hm hb; clear c1; have c1 : w5.cell? ⟨g, 1, none⟩ = some (.int .i64 (R1.at_ : Int)) := M.box.cell 1)
              | ((with_reducible refine is_store ?_); refine wpl_store_cell rfl 3 (.tmp 50) _ rfl g 1 rfl (.int .i64 ((R1.at_ : Int) + 1)) rfl _ _ M.box (show 1 < 11 by decide) one_i rfl ?_; intro w6 hw; replace HB := HB.trans (M.low hw); replace M := M.s1 (R1.at_ + 1) hw; clear hw c1))
            go_roundw
            case rel => ((repeat apply Exists.intro); exact ⟨⟨{ R1 with at_ := R1.at_ + 1 }, M, HB, HHH.out, Lib.hid ⟨⟨(by show f ≤ R1.at_ + 1; have := HFK.out; omega), (by show R1.at_ + 1 ≤ f + b.length; have := HTL.out; omega)⟩, .inl ⟨HP.out.1, HP.out.2, HN.out⟩⟩⟩, rfl⟩)
            case measure => (rw [rdPos_of HM0.out, rdPos_of M]; show b.length - (R1.at_ + 1) < _; have := HL1.out; omega)
theorem wt_blank {tok : List UInt8} {m : Ms} (ht : tok.length = 3) : Wt b ans a k ⟨#[32]⟩ 3 true (fun i => match i with | 0 => hF ans a k 3 tok m 0 | _ => hF ans a (k + 1) 4 [] { m with stat := (decV tok : Int) } 0) := by
  have hl : bl (⟨#[32]⟩ : ByteArray) = [32] := rfl
  refine ⟨fun i c hd hc hk => ?_, fun i c d hd hc hk hne => ?_, fun i hi => ?_, fun i hi _ => ?_, fun i hi => ?_, .inr (.inl rfl)⟩
  · rw [hl] at hd
    match i, hd with
    | 0, hd =>
      obtain rfl : c = 32 := by simpa using hd.symm
      exact stat_end (by have := hk rfl; omega) rfl ht
    | i + 1, hd => simp at hd
  · rw [hl] at hd
    match i, hd with
    | 0, hd =>
      obtain rfl : d = 32 := by simpa using hd.symm
      exact stat_bad (by have := hk rfl; omega) (fun h => hne (UInt8.toNat_inj.1 h.2)) (.inl ht)
    | i + 1, hd => simp at hd
  · have hi2 : i < 1 := hi
    obtain rfl : i = 0 := by omega
    rfl
  · have hi2 : i < 1 := hi
    obtain rfl : i = 0 := by omega
    rfl
  · have hi2 : i < 1 := hi
    obtain rfl : i = 0 := by omega
    rfl
theorem dig_is (c : UInt8) : isDigB c = true ↔ 48 ≤ c.toNat ∧ c.toNat ≤ 57 := by unfold isDigB; simp
set_option maxRecDepth 100000 in
set_option maxHeartbeats 8000000 in
theorem rstatus_any (M : RdM n g R b A cp hs bd w) (hR : Rn b ans a (fun k m => Atk b ans a k (hF ans a k 3 [] m 0) ∧ m.stat = 0) R) (hh : R.head = true) (hl : b.length ≤ 1099511627776) :
    Calls Tryz.prog 78 #[.pointer (some ⟨g, 0, none⟩)] w (PhV n g b A cp ans a (fun k m => Atk b ans a k (hF ans a k 4 [] m 0)) true w) := by
  obtain ⟨f, hf⟩ : ∃ f, R.at_ = f := ⟨_, rfl⟩
  have HB := Below.refl n w
  have HLB := Lib.hid hl
  have HR0 : Hid ((R.bad = 0 ∧ R.more = false ∧ R.at_ = f + 0 ∧ Atk b ans a R.at_ (hF ans a R.at_ 3 (sl b f R.at_) { R.m with stat := 0 } 0) ∧ R.m.stat = (decV (sl b f R.at_) : Int) ∧ decV (sl b f R.at_) + 1 ≤ 10 ^ 0) ∨ Stp b ans a R.at_ R.bad R.more) := Lib.hid (by
    rcases hR with h | h
    · refine .inl ⟨h.1, h.2.1, by omega, ?_, ?_, ?_⟩
      · rw [hf, sl_nil]
        have h3 := h.2.2.1
        rw [hf] at h3
        have e : ({ R.m with stat := 0 } : Ms) = R.m := by rw [← h.2.2.2]
        rw [e]
        exact h3
      · rw [hf, sl_nil]; exact h.2.2.2
      · rw [hf, sl_nil]; exact Nat.le_refl _
    · exact .inr h)
  have HH0 := Lib.hid hh
  clear hl hR hf hh
  go_enter Tryz.func78, Tryz.ntmps78
  go_wp2
  go_loopw [2] (fun iv wr => ∃ (i : Nat) (R1 : Rd), iv = .int .i64 (i : Int) ∧ i ≤ 3 ∧ RdM n g R1 b A cp hs bd wr ∧ Below n w wr ∧ R1.head = true ∧ Hid ((R1.bad = 0 ∧ R1.more = false ∧ R1.at_ = f + i ∧ Atk b ans a R1.at_ (hF ans a R1.at_ 3 (sl b f R1.at_) { R1.m with stat := 0 } 0) ∧ R1.m.stat = (decV (sl b f R1.at_) : Int) ∧ decV (sl b f R1.at_) + 1 ≤ 10 ^ i) ∨ Stp b ans a R1.at_ R1.bad R1.more)) (fun iv _ => match iv with | .int _ i => 3 - i.toNat | _ => 0)
  case atStart => exact ⟨0, R, rfl, by omega, M, HB, HH0.out, HR0⟩
  case round =>
    clear HB M HR0 HH0
    obtain ⟨i, R1, rfl, hi, M, HB, hh, HR1⟩ := hrel
    have HHH := Lib.hid hh
    have hln := HLB.out
    clear hh
    have HLA : Hid (R1.at_ ≤ 1099511627776) := Lib.hid (by
      rcases HR1.out with h | h
      · have := h.2.2.2.1.1; omega
      · have := h.le; omega)
    by_cases hi3 : i < 3
    · cases hp : pkB b R1
      · have HPB := Lib.hid hp
        have HST : Hid (Stp b ans a (pkN b R1).at_ (pkN b R1).bad (pkN b R1).more) := Lib.hid (by
          refine Rn.none_ (ok := fun k m => Atk b ans a k (hF ans a k 3 (sl b f k) { m with stat := 0 } 0)) ?_ (fun h => ⟨_, h, rfl, rfl, fun _ => rfl⟩) hp
          exact HR1.out.imp (fun h => ⟨h.1, h.2.1, h.2.2.2.1⟩) id)
        clear hp
        go_wp2_with (first
          | (go_at_call 82; (with_reducible refine (peek_none M HPB.out HLB.out HLA.out).mono ?_); rintro e w5 ⟨rfl, hm, hb⟩; replace M := hm; replace HB := HB.trans hb; clear hm hb))
        first | go_end0 | (refine bodyPost_ret (results_none rfl _ _ _) rfl ?_)
        exact ⟨rfl, HB, pkN b R1, _, _, M, .inr HST.out, pkN_head.trans HHH.out⟩
      · rename_i c
        have HPB := Lib.hid hp
        obtain ⟨p1, p2, p3, p4⟩ := pk_some hp
        have hk := p4 HHH.out
        have hrun : R1.at_ = f + i ∧ Atk b ans a R1.at_ (hF ans a R1.at_ 3 (sl b f R1.at_) { R1.m with stat := 0 } 0) ∧ R1.m.stat = (decV (sl b f R1.at_) : Int) ∧ decV (sl b f R1.at_) + 1 ≤ 10 ^ i := by
          rcases HR1.out with h | h
          · exact h.2.2
          · rcases h.on with ⟨e, _⟩ | ⟨_, e⟩
            · exact absurd p1 e
            · rw [p2] at e; cases e
        obtain ⟨hat, h, hst, hdv⟩ := hrun
        have hlt : R1.at_ < b.length := (List.getElem?_eq_some_iff.1 p3).1
        have hsl : (sl b f R1.at_).length = i := by rw [sl_len (Nat.le_of_lt hlt)]; omega
        have HSL := Lib.hid hsl
        have HSN : Hid (sl b f (R1.at_ + 1) = sl b f R1.at_ ++ [c]) := Lib.hid (sl_snoc p3 (by omega))
        have c1 : wr.cell? ⟨g, 1, none⟩ = some (.int .i64 (R1.at_ : Int)) := M.box.cell 1
        have c7 : wr.cell? ⟨g, 7, none⟩ = some (.int .i64 R1.m.stat) := M.box.cell 7
        rw [hst] at c7
        have HP := Lib.hid (show R1.bad = 0 ∧ R1.more = false from ⟨p1, p2⟩)
        have hal : (R1.at_ : Int) ≤ 1099511627776 := by have := HLA.out; omega
        have hpw : (10 : Nat) ^ i ≤ 100 := (Nat.pow_le_pow_right (by omega) (show i ≤ 2 by omega) : (10 : Nat) ^ i ≤ 10 ^ 2)
        obtain ⟨D, hD⟩ : ∃ D, decV (sl b f R1.at_) = D := ⟨_, rfl⟩
        rw [hD] at hst hdv c7
        have HDV := Lib.hid hdv
        have HDE := Lib.hid hD
        have HST := Lib.hid hst
        have hd99 : (D : Int) ≤ 99 := by omega
        have HAT := Lib.hid hat
        clear hp p1 p2 p4 hsl hst hdv hD hat hpw
        by_cases a1 : 48 ≤ c.toNat ∧ c.toNat ≤ 57
        · have b1 : ¬ (c.toNat : Int) < 48 := by omega
          have b2 : ¬ 57 < (c.toNat : Int) := by omega
          by_cases a2 : i = 0
          · subst a2
            by_cases a3 : c.toNat = 48
            · have b4 : (c.toNat : Int) = 48 := by omega
              have HN : Hid (Stp b ans a R1.at_ 3 false) := Lib.hid (Stp.bad h rfl rfl p3 (stat_bad hk (fun x => by have := HSL.out; omega) (.inr (.inr ⟨HSL.out, by omega⟩))) (by omega))
              clear h p3 hk
              go_wp2_with (first
                | (go_at_call 82; (with_reducible refine (peek_some M HPB.out HLB.out).mono ?_); rintro e w5 ⟨rfl, hm, hb⟩; replace M := hm; replace HB := HB.trans hb; clear hm hb; clear c1; have c1 : w5.cell? ⟨g, 1, none⟩ = some (.int .i64 (R1.at_ : Int)) := M.box.cell 1)
                | ((with_reducible refine is_store ?_); refine wpl_store_cell rfl 31 (.tmp 36) _ rfl g 2 rfl (.int .i64 3) rfl _ _ M.box (show 2 < 11 by decide) one_c rfl ?_; intro w6 hw; replace HB := HB.trans (M.low hw); replace M := M.s2 3 hw; clear hw))
              first | go_end0 | (refine bodyPost_ret (results_none rfl _ _ _) rfl ?_)
              exact ⟨rfl, HB, { R1 with bad := 3 }, _, _, M, .inr (by show Stp b ans a R1.at_ 3 R1.more; rw [HP.out.2]; exact HN.out), HHH.out⟩
            · have b4 : ((c.toNat : Int) == 48) = false := by rw [beq_eq_false_iff_ne]; omega
              by_cases a4 : 53 < c.toNat
              · have b5 : 53 < (c.toNat : Int) := by omega
                have HN : Hid (Stp b ans a R1.at_ 3 false) := Lib.hid (Stp.bad h rfl rfl p3 (stat_bad hk (fun x => by have := HSL.out; omega) (.inr (.inr ⟨HSL.out, by omega⟩))) (by omega))
                clear h p3 hk
                go_wp2_with (first
                  | (go_at_call 82; (with_reducible refine (peek_some M HPB.out HLB.out).mono ?_); rintro e w5 ⟨rfl, hm, hb⟩; replace M := hm; replace HB := HB.trans hb; clear hm hb; clear c1; have c1 : w5.cell? ⟨g, 1, none⟩ = some (.int .i64 (R1.at_ : Int)) := M.box.cell 1)
                  | ((with_reducible refine is_store ?_); refine wpl_store_cell rfl 31 (.tmp 36) _ rfl g 2 rfl (.int .i64 3) rfl _ _ M.box (show 2 < 11 by decide) one_c rfl ?_; intro w6 hw; replace HB := HB.trans (M.low hw); replace M := M.s2 3 hw; clear hw))
                first | go_end0 | (refine bodyPost_ret (results_none rfl _ _ _) rfl ?_)
                exact ⟨rfl, HB, { R1 with bad := 3 }, _, _, M, .inr (by show Stp b ans a R1.at_ 3 R1.more; rw [HP.out.2]; exact HN.out), HHH.out⟩
              · have b5 : ¬ 53 < (c.toNat : Int) := by omega
                have HN : Hid (Atk b ans a (R1.at_ + 1) _) := Lib.hid (h.step p3 (stat_put hk ((dig_is c).2 a1) (by rw [HSL.out]; exact hi3) (by rw [HSL.out]; omega)))
                rw [← HSN.out] at HN
                have hw1 : IntKind.u8.wrap ((c.toNat : Int) - 48) = ((c.toNat - 48 : Nat) : Int) := by rw [IntKind.wrap_u8]; omega
                obtain ⟨dg, hdg⟩ : ∃ dg, c.toNat - 48 = dg := ⟨_, rfl⟩
                rw [hdg] at hw1
                have hd9 : (dg : Int) ≤ 9 := by omega
                have HDG := Lib.hid hdg
                clear h p3 hk hlt hdg
                go_wp2_with (first
                  | (go_at_call 82; (with_reducible refine (peek_some M HPB.out HLB.out).mono ?_); rintro e w5 ⟨rfl, hm, hb⟩; replace M := hm; replace HB := HB.trans hb; clear hm hb; clear c7; have c7 : w5.cell? ⟨g, 7, none⟩ = some (.int .i64 R1.m.stat) := M.box.cell 7; rw [HST.out] at c7; clear c1; have c1 : w5.cell? ⟨g, 1, none⟩ = some (.int .i64 (R1.at_ : Int)) := M.box.cell 1)
                  | ((with_reducible refine is_store ?_); refine wpl_store_cell rfl 3 (.tmp 50) _ rfl g 7 rfl (.int .i64 (10 * (D : Int) + (dg : Int))) rfl _ _ M.box (show 7 < 11 by decide) one_i rfl ?_; intro w6 hw; replace HB := HB.trans (M.low hw); replace M := M.s7 (10 * (D : Int) + (dg : Int)) hw; clear hw c1 c7; have c1 : w6.cell? ⟨g, 1, none⟩ = some (.int .i64 (R1.at_ : Int)) := M.box.cell 1)
                  | ((with_reducible refine is_store ?_); refine wpl_store_cell rfl 3 (.tmp 57) _ rfl g 1 rfl (.int .i64 ((R1.at_ : Int) + 1)) rfl _ _ M.box (show 1 < 11 by decide) one_i rfl ?_; intro w7 hw; replace HB := HB.trans (M.low hw); replace M := M.s1 (R1.at_ + 1) hw; clear hw c1))
                go_roundw
                case rel =>
                  refine ⟨0 + 1, { R1 with m := { R1.m with stat := 10 * (D : Int) + (dg : Int) }, at_ := R1.at_ + 1 }, rfl, by omega, M, HB, HHH.out, Lib.hid (.inl ⟨HP.out.1, HP.out.2, (by show R1.at_ + 1 = _; have := HAT.out; omega), HN.out, ?_, ?_⟩)⟩
                  · show 10 * (D : Int) + (dg : Int) = (decV (sl b f (R1.at_ + 1)) : Int)
                    rw [HSN.out, decV_snoc, HDE.out, HDG.out]
                    omega
                  · show decV (sl b f (R1.at_ + 1)) + 1 ≤ 10 ^ (0 + 1)
                    rw [HSN.out, decV_snoc, HDE.out, HDG.out, Nat.pow_succ]
                    have := HDV.out
                    omega
                case measure => (simp only; omega)
          · have b3 : ((i : Int) == 0) = false := by rw [beq_eq_false_iff_ne]; omega
            have HN : Hid (Atk b ans a (R1.at_ + 1) _) := Lib.hid (h.step p3 (stat_put hk ((dig_is c).2 a1) (by rw [HSL.out]; exact hi3) (by rw [HSL.out]; omega)))
            rw [← HSN.out] at HN
            have hw1 : IntKind.u8.wrap ((c.toNat : Int) - 48) = ((c.toNat - 48 : Nat) : Int) := by rw [IntKind.wrap_u8]; omega
            obtain ⟨dg, hdg⟩ : ∃ dg, c.toNat - 48 = dg := ⟨_, rfl⟩
            rw [hdg] at hw1
            have hd9 : (dg : Int) ≤ 9 := by omega
            have HDG := Lib.hid hdg
            clear h p3 hk hlt hdg
            go_wp2_with (first
              | (go_at_call 82; (with_reducible refine (peek_some M HPB.out HLB.out).mono ?_); rintro e w5 ⟨rfl, hm, hb⟩; replace M := hm; replace HB := HB.trans hb; clear hm hb; clear c7; have c7 : w5.cell? ⟨g, 7, none⟩ = some (.int .i64 R1.m.stat) := M.box.cell 7; rw [HST.out] at c7; clear c1; have c1 : w5.cell? ⟨g, 1, none⟩ = some (.int .i64 (R1.at_ : Int)) := M.box.cell 1)
              | ((with_reducible refine is_store ?_); refine wpl_store_cell rfl 3 (.tmp 50) _ rfl g 7 rfl (.int .i64 (10 * (D : Int) + (dg : Int))) rfl _ _ M.box (show 7 < 11 by decide) one_i rfl ?_; intro w6 hw; replace HB := HB.trans (M.low hw); replace M := M.s7 (10 * (D : Int) + (dg : Int)) hw; clear hw c1 c7; have c1 : w6.cell? ⟨g, 1, none⟩ = some (.int .i64 (R1.at_ : Int)) := M.box.cell 1)
              | ((with_reducible refine is_store ?_); refine wpl_store_cell rfl 3 (.tmp 57) _ rfl g 1 rfl (.int .i64 ((R1.at_ : Int) + 1)) rfl _ _ M.box (show 1 < 11 by decide) one_i rfl ?_; intro w7 hw; replace HB := HB.trans (M.low hw); replace M := M.s1 (R1.at_ + 1) hw; clear hw c1))
            go_roundw
            case rel =>
              refine ⟨i + 1, { R1 with m := { R1.m with stat := 10 * (D : Int) + (dg : Int) }, at_ := R1.at_ + 1 }, rfl, by omega, M, HB, HHH.out, Lib.hid (.inl ⟨HP.out.1, HP.out.2, (by show R1.at_ + 1 = _; have := HAT.out; omega), HN.out, ?_, ?_⟩)⟩
              · show 10 * (D : Int) + (dg : Int) = (decV (sl b f (R1.at_ + 1)) : Int)
                rw [HSN.out, decV_snoc, HDE.out, HDG.out]
                omega
              · show decV (sl b f (R1.at_ + 1)) + 1 ≤ 10 ^ (i + 1)
                rw [HSN.out, decV_snoc, HDE.out, HDG.out, Nat.pow_succ]
                have := HDV.out
                omega
            case measure => (simp only; omega)
        · by_cases a2 : c.toNat < 48
          · have b1 : (c.toNat : Int) < 48 := by omega
            have HN : Hid (Stp b ans a R1.at_ 3 false) := Lib.hid (Stp.bad h rfl rfl p3 (stat_bad hk (fun x => by have := HSL.out; omega) (.inr (.inl (Bool.eq_false_iff.2 (fun hq => a1 ((dig_is c).1 hq)))))) (by omega))
            clear h p3 hk
            go_wp2_with (first
              | (go_at_call 82; (with_reducible refine (peek_some M HPB.out HLB.out).mono ?_); rintro e w5 ⟨rfl, hm, hb⟩; replace M := hm; replace HB := HB.trans hb; clear hm hb; clear c1; have c1 : w5.cell? ⟨g, 1, none⟩ = some (.int .i64 (R1.at_ : Int)) := M.box.cell 1)
              | ((with_reducible refine is_store ?_); refine wpl_store_cell rfl 31 (.tmp 36) _ rfl g 2 rfl (.int .i64 3) rfl _ _ M.box (show 2 < 11 by decide) one_c rfl ?_; intro w6 hw; replace HB := HB.trans (M.low hw); replace M := M.s2 3 hw; clear hw))
            first | go_end0 | (refine bodyPost_ret (results_none rfl _ _ _) rfl ?_)
            exact ⟨rfl, HB, { R1 with bad := 3 }, _, _, M, .inr (by show Stp b ans a R1.at_ 3 R1.more; rw [HP.out.2]; exact HN.out), HHH.out⟩
          · have b1 : ¬ (c.toNat : Int) < 48 := by omega
            have b2 : 57 < (c.toNat : Int) := by omega
            have HN : Hid (Stp b ans a R1.at_ 3 false) := Lib.hid (Stp.bad h rfl rfl p3 (stat_bad hk (fun x => by have := HSL.out; omega) (.inr (.inl (Bool.eq_false_iff.2 (fun hq => a1 ((dig_is c).1 hq)))))) (by omega))
            clear h p3 hk
            go_wp2_with (first
              | (go_at_call 82; (with_reducible refine (peek_some M HPB.out HLB.out).mono ?_); rintro e w5 ⟨rfl, hm, hb⟩; replace M := hm; replace HB := HB.trans hb; clear hm hb; clear c1; have c1 : w5.cell? ⟨g, 1, none⟩ = some (.int .i64 (R1.at_ : Int)) := M.box.cell 1)
              | ((with_reducible refine is_store ?_); refine wpl_store_cell rfl 31 (.tmp 36) _ rfl g 2 rfl (.int .i64 3) rfl _ _ M.box (show 2 < 11 by decide) one_c rfl ?_; intro w6 hw; replace HB := HB.trans (M.low hw); replace M := M.s2 3 hw; clear hw))
            first | go_end0 | (refine bodyPost_ret (results_none rfl _ _ _) rfl ?_)
            exact ⟨rfl, HB, { R1 with bad := 3 }, _, _, M, .inr (by show Stp b ans a R1.at_ 3 R1.more; rw [HP.out.2]; exact HN.out), HHH.out⟩
    · obtain rfl : i = 3 := by omega
      have HRN : Hid (RnF b ans a R1.at_ ((fun i => match i with | 0 => hF ans a R1.at_ 3 (sl b f R1.at_) { R1.m with stat := 0 } 0 | _ => hF ans a (R1.at_ + 1) 4 [] { { R1.m with stat := 0 } with stat := (decV (sl b f R1.at_) : Int) } 0 : Nat → Fs) 0) R1) := Lib.hid (HR1.out.imp (fun h => ⟨h.1, h.2.1, rfl, h.2.2.2.1⟩) id)
      have HWT : Hid (R1.bad = 0 → R1.more = false → Wt b ans a R1.at_ ⟨#[32]⟩ 3 R1.head (fun i => match i with | 0 => hF ans a R1.at_ 3 (sl b f R1.at_) { R1.m with stat := 0 } 0 | _ => hF ans a (R1.at_ + 1) 4 [] { { R1.m with stat := 0 } with stat := (decV (sl b f R1.at_) : Int) } 0)) := Lib.hid fun z1 z2 => by
        rw [HHH.out]
        rcases HR1.out with h | h
        · exact wt_blank (by rw [sl_len h.2.2.2.1.1]; have := h.2.2.1; omega)
        · rcases h.on with ⟨e, _⟩ | ⟨_, e⟩
          · exact absurd z1 e
          · rw [z2] at e; cases e
      go_wp2_with (first
        | (go_at_call 77; (with_reducible refine (rwant_any M HRN.out HWT.out HLB.out (by decide)).mono ?_); rintro e w9 ⟨rfl, hb, R9, hm9, hr9, e9, e10, e11⟩; have HRU9 := Lib.hid e11; replace M := hm9; replace HB := HB.trans hb; have HR9 := Lib.hid hr9; have HM9 := Lib.hid e9; have HH9 := Lib.hid e10; clear hm9 hr9 e9 e10 e11 hb HRN HWT))
      first | go_end0 | (refine bodyPost_ret (results_none rfl _ _ _) rfl ?_)
      refine ⟨rfl, HB, R9, _, _, M, ?_, HH9.out.trans HHH.out⟩
      rcases HR9.out with h | h
      · rcases HR1.out with h2 | h2
        · refine .inl ⟨h.1, h.2.1, ?_⟩
          have h4 := h.2.2.2
          have h3 : R9.at_ = R1.at_ + 1 := h.2.2.1
          rw [h3, HM9.out]
          have e : ({ { R1.m with stat := 0 } with stat := (decV (sl b f R1.at_) : Int) } : Ms) = R1.m := by
            show ({ R1.m with stat := (decV (sl b f R1.at_) : Int) } : Ms) = R1.m
            rw [← h2.2.2.2.2.1]
          have h5 : Atk b ans a (R1.at_ + 1) (hF ans a (R1.at_ + 1) 4 [] { { R1.m with stat := 0 } with stat := (decV (sl b f R1.at_) : Int) } 0) := h4
          rw [e] at h5
          exact h5
        · rcases h2.on with ⟨e, _⟩ | ⟨_, e⟩
          · exact absurd (HRU9.out h.1 h.2.1).1 e
          · have := (HRU9.out h.1 h.2.1).2
            rw [e] at this
            cases this
      · exact .inr h
end
end Go.Proofs.YtbehakabglegjaaGreatDoor
