/- Layer 9: a target is cut into its parts, walked. -/
import Derived.Test.YtbehakabglegjaaGreatDoorQ23
import Derived.Test.YtbehakabglegjaaGreatDoorQ22
import Derived.Test.YtbehakabglegjaaGreatDoorQZip
namespace Go.Proofs.YtbehakabglegjaaGreatDoor
open Go.RowKit Go.PlainAid
set_option linter.unusedVariables false
set_option linter.unusedSimpArgs false
section
variable {ops : Array Oper} {rest : List Oper} {a : Act} {w : World} {Q : Exit → Act → World → Prop}
theorem is_app2 (s x : Operand) {P : Program} {d : Option Tmp} {ts : Array TypeId} {tt : TypeId} {ps : String} {af : Array Edge} {gd : Option (Nat × Bool)} (h : wpList P ops Q (⟨d, .call { callee := .builtin .append, args := #[s, x], argTypes := ts }, tt, ps, af, gd⟩ :: rest) a w) : wpList P ops Q (⟨d, .call { callee := .builtin .append, args := #[s, x], argTypes := ts }, tt, ps, af, gd⟩ :: rest) a w := h
theorem is_build2 (vs : Array (Nat × Operand)) {P : Program} {d : Option Tmp} {t : TypeId} {tt : TypeId} {ps : String} {af : Array Edge} {gd : Option (Nat × Bool)} (h : wpList P ops Q (⟨d, .build t vs, tt, ps, af, gd⟩ :: rest) a w) : wpList P ops Q (⟨d, .build t vs, tt, ps, af, gd⟩ :: rest) a w := h
end
def moreN (v : Value) : Nat := match v with
  | .bool true => 1
  | _ => 0
theorem end_isnt {g : Nat} {s : ByteArray} {k : Nat} {x : UInt8} {w : World} (B : CtM w g s k) (hk : k ≤ s.size) (hc : (bl s)[k]? ≠ some x) (hs : s.size ≤ 1099511627776) :
    Calls Tryz.prog 45 #[.pointer (some ⟨g, 0, none⟩), .int .u8 (x.toNat : Int)] w fun e w' => e = .returned (.bool false) ∧ Bes (· = g) w w' ∧ CtM w' g s k := by
  by_cases hl : k < s.size
  · have hg : (bl s)[k]? = some ((bl s)[k]'hl) := List.getElem?_eq_getElem hl
    exact end_other B hg (fun e => hc (by rw [hg, e])) hs
  · exact end_no B (by omega) (by omega)
set_option maxRecDepth 100000 in
set_option maxHeartbeats 16000000 in
theorem split_any {s : ByteArray} {w : World} (hs : s.size ≤ 1099511627776) (hw : Wh w w.heap.size) :
    Calls Tryz.prog 21 #[.string s] w fun e w' => SpV w' w.heap.size (splitS (bl s)) e ∧ Below w.heap.size w w' := by
  have HS := Lib.hid hs
  have HW := Lib.hid hw
  obtain ⟨ie1, j1, j2, j3, j4⟩ := info_str
  obtain ⟨ie2, y1, y2, y3, y4⟩ := info_pm
  have hpt := PT.start (bl s)
  have hr : splitS (bl s) = (match pathS (bl s) ((bl s).length + 1) 0 [] with
    | .inl e => .inl e
    | .inr ([], _) => .inl (3, 0)
    | .inr (p :: r, k) =>
      if (bl s)[k]? ≠ some 63 ∨ k + 1 = (bl s).length then .inr (p :: r, [])
      else
        match queryS (bl s) ((bl s).length + 1) (k + 1) [] with
        | .inl e => .inl e
        | .inr q => .inr (p :: r, q)) := rfl
  generalize pathS (bl s) ((bl s).length + 1) 0 [] = R at hpt hr
  have HRS := Lib.hid hr
  have HPT := Lib.hid hpt
  clear hr hpt hs hw
  go_enter Tryz.func21, Tryz.ntmps21
  go_wp2_with (first
    | ((with_reducible refine is_build2 _ ?_); refine wpl_build_at (vals := [(0, .string s)]) (ct_build s) rfl _ rfl rfl ?_)
    | (refine wpl_box_at rfl 91 (.tmp 15) rfl (CtA s 0) rfl ?_; intro w1 hw; have B := hid_alloc0 hw; have HB := hid_grow hw; clear hw))
  go_loopw [6] (fun ov wr => ∃ (pv : Value) (k : Nat) (acc : List ByteArray), pv = ov ∧ k ≤ s.size ∧ acc.length ≤ k ∧ (acc = [] → pv = .slice none 0 0) ∧ CtM wr w.heap.size s k ∧ OwnT wr w.heap.size pv acc ∧ Below w.heap.size w wr ∧ Hid (PT (bl s) k acc R)) (fun _ wr => s.size - ctPos wr w.heap.size)
  case atStart => exact ⟨_, 0, [], rfl, Nat.zero_le _, Nat.zero_le _, fun _ => rfl, B, own_nil _ _ _ _, HB, HPT⟩
  case round =>
    clear HB B HPT
    obtain ⟨pv, k, acc, rfl, hks, hac, hnil, B, HO, HB, HPT⟩ := hrel
    have B0 := Lib.hid B
    have HL : Hid (acc.length ≤ 1099511627776) := Lib.hid (by have := HS.out; omega)
    by_cases h47 : (bl s)[k]? = some 47
    · have hl47 := lt_at h47
      have HE47 : Hid (∀ wx, CtM wx w.heap.size s (k) → Calls Tryz.prog 45 #[.pointer (some ⟨w.heap.size, 0, none⟩), .int .u8 47] wx fun e w' => e = .returned (.bool true) ∧ Bes (· = w.heap.size) wx w' ∧ CtM w' w.heap.size s (k + 1)) := Lib.hid (fun wx h => end_yes (c := 47) h h47 HS.out)
      rcases hp : partS [47, 63] (bl s) (k + 1) with ⟨c, p⟩ | ⟨pn, k2⟩
      · have HF := Lib.hid (HPT.out.bad h47 hp)
        have HP63 : Hid (∀ wx, CtM wx w.heap.size s (k + 1) → Below w.heap.size w wx → Calls Tryz.prog 46 #[.pointer (some ⟨w.heap.size, 0, none⟩), .string ⟨#[47, 63]⟩] wx fun e w' => Bes (· = w.heap.size) wx w' ∧ PcV w.heap.size s (.inl (c, p)) e w') := Lib.hid (fun wx h hb => by
          have h2 := cut_any (en := ⟨#[47, 63]⟩) h (by omega) HS.out (HW.out.below hb) hb.size (Nat.le_refl _)
          rw [show partS (bl (⟨#[47, 63]⟩ : ByteArray)) (bl s) (k + 1) = .inl (c, p) from hp] at h2
          exact h2)
        clear hp h47
        go_wp2_with (first
          | (go_at_call 45; (with_reducible refine (HE47.out _ B).mono ?_); rintro e w2 ⟨rfl, hbE, hBE⟩; replace HO : OwnT w2 w.heap.size pv acc := own_by HO B (by decide) hbE; replace HB := HB.trans (Bes.below hbE (fun q e => by rw [e]; exact Nat.le_refl _) HB.size); replace B := hBE; clear hbE hBE)
          | (go_at_call 46; (with_reducible refine (HP63.out _ B HB).mono ?_); rintro e w3 ⟨hbP, hv⟩; obtain ⟨fv, rfl, hflt⟩ := hv; obtain ⟨fN, rfl, hfb⟩ := hflt; have HFL := Lib.hid hfb; replace HB := HB.trans (Bes.below hbP (fun q e => by rw [e]; exact Nat.le_refl _) HB.size); clear hbP hfb B))
        go_ret3
        exact ⟨by rw [HRS.out, HF.out]; exact ⟨_, rfl, _, rfl, HFL.out⟩, HB⟩
      · have HN := Lib.hid (HPT.out.more h47 hp)
        have hbd := partS_bd hp (by show k + 1 ≤ s.size; omega)
        have HP63 : Hid (∀ wx, CtM wx w.heap.size s (k + 1) → Below w.heap.size w wx → Calls Tryz.prog 46 #[.pointer (some ⟨w.heap.size, 0, none⟩), .string ⟨#[47, 63]⟩] wx fun e w' => Bes (· = w.heap.size) wx w' ∧ PcV w.heap.size s (.inr (pn, k2)) e w') := Lib.hid (fun wx h hb => by
          have h2 := cut_any (en := ⟨#[47, 63]⟩) h (by omega) HS.out (HW.out.below hb) hb.size (Nat.le_refl _)
          rw [show partS (bl (⟨#[47, 63]⟩ : ByteArray)) (bl s) (k + 1) = .inr (pn, k2) from hp] at h2
          exact h2)
        clear hp h47
        go_wp2_with (first
          | (go_at_call 45; (with_reducible refine (HE47.out _ B).mono ?_); rintro e w2 ⟨rfl, hbE, hBE⟩; replace HO : OwnT w2 w.heap.size pv acc := own_by HO B (by decide) hbE; replace HB := HB.trans (Bes.below hbE (fun q e => by rw [e]; exact Nat.le_refl _) HB.size); replace B := hBE; clear hbE hBE)
          | (go_at_call 46; (with_reducible refine (HP63.out _ B HB).mono ?_); rintro e w3 ⟨hbP, hv⟩; obtain ⟨rfl, hBP, _⟩ := hv; replace HO : OwnT w3 w.heap.size pv acc := own_by HO B (by decide) hbP; replace HB := HB.trans (Bes.below hbP (fun q e => by rw [e]; exact Nat.le_refl _) HB.size); replace B := hBP; clear hbP hBP)
          | ((with_reducible refine is_slice ?_); refine wpl_slice_at 1 [(0, .string pn)] #[.string pn] ie1 _ (by rw [j3]; exact str_fill _) rfl 48 9 _ rfl rfl Tryz.underlying48 j1 j2 (by rw [j3]; decide) (by rw [j3]; decide) ?_; intro w5 hw; have hb := hid_grow hw; have B9 := (hid_alloc hw).1; replace HO : OwnT w5 w.heap.size pv acc := own_below HO hb; replace B := zI B hb; replace HB := zT HB hb; clear hw hb)
          | ((with_reducible refine is_app2 (.tmp 27) (.tmp 29) ?_); go_loud (refine wpl_grow rfl (.tmp 27) (.tmp 29) 48 rfl w.heap.size 9 ie1 _ 1 16 Tryz.underlying48 j1 j2 j3 j4 rfl (by decide) pv acc.length _ rfl HO _ _ #[.string pn] _ B9 rfl rfl (by simp [Value.oneCell']) (by have := HL.out; unfold maxLen; omega) (by have := HL.out; omega) HB.size ?_); intro v6 w6 h6 hg6 hb6; replace B := box_grown B HO (by decide) hg6; clear HO; have HO : OwnT w6 w.heap.size v6 (acc ++ [pn]) := (by unfold OwnT; rw [List.length_append, ← txL_app]; exact h6); replace HB := HB.trans hb6; clear h6 hg6 hb6 B9))
        go_roundw
        case rel => first | exact ⟨_, k2, _, rfl, hbd.2, (by rw [List.length_append]; simp only [List.length_singleton]; omega), (fun h => by simp at h), B, HO, HB, HN⟩ | ((repeat apply Exists.intro); exact ⟨⟨_, k2, _, rfl, hbd.2, (by rw [List.length_append]; simp only [List.length_singleton]; omega), (fun h => by simp at h), B, HO, HB, HN⟩, rfl⟩)
        case measure => (rw [ctPos_of B0.out, ctPos_of B]; omega)
    · have HF := Lib.hid (HPT.out.end_ h47)
      have HE47 : Hid (∀ wx, CtM wx w.heap.size s (k) → Calls Tryz.prog 45 #[.pointer (some ⟨w.heap.size, 0, none⟩), .int .u8 47] wx fun e w' => e = .returned (.bool false) ∧ Bes (· = w.heap.size) wx w' ∧ CtM w' w.heap.size s (k)) := Lib.hid (fun wx h => end_isnt (x := 47) h hks h47 HS.out)
      clear h47
      by_cases hacn : acc = []
      · subst hacn
        obtain rfl := hnil rfl
        have hsn := fun (wx : World) => Lib.run_eql_slice_nil_nil (P := Tryz.prog) wx 0 0 Tryz.underlying48
        go_wp2_with (first
          | (go_at_call 45; (with_reducible refine (HE47.out _ B).mono ?_); rintro e w2 ⟨rfl, hbE, hBE⟩; replace HO : OwnT w2 w.heap.size (.slice none 0 0) [] := own_by HO B (by decide) hbE; replace HB := HB.trans (Bes.below hbE (fun q e => by rw [e]; exact Nat.le_refl _) HB.size); replace B := hBE; clear hbE hBE)
          | ((with_reducible refine is_build2 _ ?_); refine wpl_build_at (vals := [(1, .iface 31 (.int .i64 3))]) (ft_build 3) rfl _ rfl rfl ?_)
          | (refine wpl_box_at rfl 85 (.tmp 34) rfl (FaultA 0 3) rfl ?_; intro w10 hw; have BF := hid_alloc0 hw; have hb := hid_grow hw; replace HB := zT HB hb; clear hw))
        go_ret3
        exact ⟨by rw [HRS.out, HF.out]; exact ⟨_, rfl, _, rfl, BF⟩, HB⟩
      · obtain ⟨pa, pr, hacc⟩ := List.exists_cons_of_ne_nil hacn
        obtain ⟨ad, pcap, hpv⟩ := own_some HO (by rw [hacc]; simp)
        obtain ⟨nn, hnn⟩ : ∃ nn, acc.length = nn := ⟨_, rfl⟩
        rw [hnn] at hpv
        subst hpv
        have HSP : Hid (splitS (bl s) = if (bl s)[k]? ≠ some 63 ∨ k + 1 = (bl s).length then .inr (acc, []) else qOut acc (queryS (bl s) ((bl s).length + 1) (k + 1) [])) := Lib.hid (by rw [HRS.out, HF.out, hacc]; rfl)
        have hsn := fun (wx : World) => Lib.run_eql_slice_nil (P := Tryz.prog) wx 48 9 (some ad) nn pcap 0 0 Tryz.underlying48
        clear hacc hnil HPT HF hacn hnn
        by_cases h63 : (bl s)[k]? = some 63
        · have hl63 := lt_at h63
          have HE63 : Hid (∀ wx, CtM wx w.heap.size s (k) → Calls Tryz.prog 45 #[.pointer (some ⟨w.heap.size, 0, none⟩), .int .u8 63] wx fun e w' => e = .returned (.bool true) ∧ Bes (· = w.heap.size) wx w' ∧ CtM w' w.heap.size s (k + 1)) := Lib.hid (fun wx h => end_yes (c := 63) h h63 HS.out)
          by_cases hend : k + 1 = s.size
          · have HF2 : Hid (splitS (bl s) = .inr (acc, [])) := Lib.hid (by rw [HSP.out, if_pos (.inr hend)])
            have hei : ((k : Int) + 1 == (s.size : Int)) = true := by rw [beq_iff_eq]; omega
            clear h63 hend
            go_wp2_with (first
              | (go_at_call 45; (with_reducible refine (HE47.out _ B).mono ?_); rintro e w2 ⟨rfl, hbE, hBE⟩; replace HO : OwnT w2 w.heap.size (.slice (some ad) nn pcap) acc := own_by HO B (by decide) hbE; replace HB := HB.trans (Bes.below hbE (fun q e => by rw [e]; exact Nat.le_refl _) HB.size); replace B := hBE; clear hbE hBE)
              | (go_at_call 45; (with_reducible refine (HE63.out _ B).mono ?_); rintro e w3 ⟨rfl, hbE, hBE⟩; replace HO : OwnT w3 w.heap.size (.slice (some ad) nn pcap) acc := own_by HO B (by decide) hbE; replace HB := HB.trans (Bes.below hbE (fun q e => by rw [e]; exact Nat.le_refl _) HB.size); replace B := hBE; clear hbE hBE; have c1 := CtM.c1 B))
            go_ret3
            exact ⟨by rw [HF2.out]; exact ⟨_, _, rfl, HO, own_nil _ _ _ _⟩, HB⟩
          · have hei : ((k : Int) + 1 == (s.size : Int)) = false := by rw [beq_eq_false_iff_ne]; omega
            have hk63 : k + 1 ≤ s.size := hl63
            obtain ⟨R2, hR2⟩ : ∃ R2, queryS (bl s) ((bl s).length + 1) (k + 1) [] = R2 := ⟨_, rfl⟩
            have HRS2 : Hid (splitS (bl s) = qOut acc R2) := Lib.hid (by
              rw [HSP.out, if_neg (by rintro (h | h); exact h h63; exact hend h), hR2])
            have HQS : Hid (if true then QT (bl s) (k + 1) [] R2 else R2 = .inr []) := Lib.hid (by
              have := QT.start (s := bl s) (k := k + 1) hl63
              rw [hR2] at this
              simpa using this)
            clear hR2 h63 hend HSP
            go_wp2_with (first
              | (go_at_call 45; (with_reducible refine (HE47.out _ B).mono ?_); rintro e w2 ⟨rfl, hbE, hBE⟩; replace HO : OwnT w2 w.heap.size (.slice (some ad) nn pcap) acc := own_by HO B (by decide) hbE; replace HB := HB.trans (Bes.below hbE (fun q e => by rw [e]; exact Nat.le_refl _) HB.size); replace B := hBE; clear hbE hBE)
              | (go_at_call 45; (with_reducible refine (HE63.out _ B).mono ?_); rintro e w3 ⟨rfl, hbE, hBE⟩; replace HO : OwnT w3 w.heap.size (.slice (some ad) nn pcap) acc := own_by HO B (by decide) hbE; replace HB := HB.trans (Bes.below hbE (fun q e => by rw [e]; exact Nat.le_refl _) HB.size); replace B := hBE; clear hbE hBE; have c1 := CtM.c1 B))
            clear c1
            go_loopw [9, 10] (fun ov mv wr => ∃ (qv : Value) (k : Nat) (q : List (ByteArray × ByteArray)) (more : Bool), qv = ov ∧ mv = .bool more ∧ k ≤ s.size ∧ q.length + moreN mv ≤ k ∧ CtM wr w.heap.size s k ∧ OwnT wr w.heap.size (.slice (some ad) nn pcap) acc ∧ OwnP wr w.heap.size qv q ∧ Below w.heap.size w wr ∧ Hid (if more then QT (bl s) k q R2 else R2 = .inr q)) (fun _ mv wr => 2 * (s.size - ctPos wr w.heap.size) + moreN mv)
            case atStart => exact ⟨_, _, [], true, rfl, rfl, hk63, (by show 0 + 1 ≤ _; omega), B, HO, own_nil _ _ _ _, HB, HQS⟩
            case round =>
              clear HB HO B HQS hk63
              obtain ⟨qv, k, q, more, rfl, rfl, hks, hql, B, HO, HQ, HB, HQT⟩ := hrel
              have hks' : k ≤ (bl s).length := hks
              have B0 := Lib.hid B
              have HQN : Hid (q.length ≤ 1099511627776) := Lib.hid (by have := HS.out; omega)
              cases more
              · have HF2 : Hid (R2 = .inr q) := Lib.hid (by have h := HQT.out; simpa using h)
                go_wp2
                go_ret3
                exact ⟨by rw [HRS2.out, HF2.out]; exact ⟨_, _, rfl, HO, HQ⟩, HB⟩
              · have hql2 : q.length + 1 ≤ k := hql
                replace HQT : Hid (QT (bl s) k q R2) := Lib.hid (by have h := HQT.out; simpa using h)
                rcases hp : partS [61, 38] (bl s) k with ⟨c, p⟩ | ⟨pn, k1⟩
                · have HF2 := Lib.hid (HQT.out.bad (paramS_bad hp))
                  have HP61 : Hid (∀ wx, CtM wx w.heap.size s (k) → Below w.heap.size w wx → Calls Tryz.prog 46 #[.pointer (some ⟨w.heap.size, 0, none⟩), .string ⟨#[61, 38]⟩] wx fun e w' => Bes (· = w.heap.size) wx w' ∧ PcV w.heap.size s (.inl (c, p)) e w') := Lib.hid (fun wx h hb => by
                    have h2 := cut_any (en := ⟨#[61, 38]⟩) h hks' HS.out (HW.out.below hb) hb.size (Nat.le_refl _)
                    rw [show partS (bl (⟨#[61, 38]⟩ : ByteArray)) (bl s) (k) = .inl (c, p) from hp] at h2
                    exact h2)
                  clear hp
                  go_wp2_with (first
                    | (go_at_call 46; (with_reducible refine (HP61.out _ B HB).mono ?_); rintro e w3 ⟨hbP, hv⟩; obtain ⟨fv, rfl, hflt⟩ := hv; obtain ⟨fN, rfl, hfb⟩ := hflt; have HFL := Lib.hid hfb; replace HB := HB.trans (Bes.below hbP (fun q e => by rw [e]; exact Nat.le_refl _) HB.size); clear hbP hfb B))
                  go_ret3
                  exact ⟨by rw [HRS2.out, HF2.out]; exact ⟨_, rfl, _, rfl, HFL.out⟩, HB⟩
                · have HP61 : Hid (∀ wx, CtM wx w.heap.size s (k) → Below w.heap.size w wx → Calls Tryz.prog 46 #[.pointer (some ⟨w.heap.size, 0, none⟩), .string ⟨#[61, 38]⟩] wx fun e w' => Bes (· = w.heap.size) wx w' ∧ PcV w.heap.size s (.inr (pn, k1)) e w') := Lib.hid (fun wx h hb => by
                    have h2 := cut_any (en := ⟨#[61, 38]⟩) h hks' HS.out (HW.out.below hb) hb.size (Nat.le_refl _)
                    rw [show partS (bl (⟨#[61, 38]⟩ : ByteArray)) (bl s) (k) = .inr (pn, k1) from hp] at h2
                    exact h2)
                  have hb1 := partS_bd hp hks'
                  by_cases h61 : (bl s)[k1]? = some 61
                  · have hl61 := lt_at h61
                    have HE61 : Hid (∀ wx, CtM wx w.heap.size s (k1) → Calls Tryz.prog 45 #[.pointer (some ⟨w.heap.size, 0, none⟩), .int .u8 61] wx fun e w' => e = .returned (.bool true) ∧ Bes (· = w.heap.size) wx w' ∧ CtM w' w.heap.size s (k1 + 1)) := Lib.hid (fun wx h => end_yes (c := 61) h h61 HS.out)
                    rcases hp2 : partS [38] (bl s) (k1 + 1) with ⟨c, p⟩ | ⟨pv2, k2⟩
                    · have HF2 := Lib.hid (HQT.out.bad (paramS_bad2 hp h61 hp2))
                      have HP38 : Hid (∀ wx, CtM wx w.heap.size s (k1 + 1) → Below w.heap.size w wx → Calls Tryz.prog 46 #[.pointer (some ⟨w.heap.size, 0, none⟩), .string ⟨#[38]⟩] wx fun e w' => Bes (· = w.heap.size) wx w' ∧ PcV w.heap.size s (.inl (c, p)) e w') := Lib.hid (fun wx h hb => by
                        have h2 := cut_any (en := ⟨#[38]⟩) h (by omega) HS.out (HW.out.below hb) hb.size (Nat.le_refl _)
                        rw [show partS (bl (⟨#[38]⟩ : ByteArray)) (bl s) (k1 + 1) = .inl (c, p) from hp2] at h2
                        exact h2)
                      clear hp hp2 h61
                      go_wp2_with (first
                        | (go_at_call 46; (with_reducible refine (HP61.out _ B HB).mono ?_); rintro e w3 ⟨hbP, hv⟩; obtain ⟨rfl, hBP, _⟩ := hv; replace HO : OwnT w3 w.heap.size (.slice (some ad) nn pcap) acc := own_by HO B (by decide) hbP; replace HQ : OwnP w3 w.heap.size qv q := own_by HQ B (by decide) hbP; replace HB := HB.trans (Bes.below hbP (fun q e => by rw [e]; exact Nat.le_refl _) HB.size); replace B := hBP; clear hbP hBP; have HB13 := Lib.hid HB.size; have HQL : Hid (∀ k, qv.ownBlock = some k → k < w3.heap.size) := Lib.hid (fun k hk => (own_in HQ hk).2))
                        | ((with_reducible refine is_build2 _ ?_); refine wpl_build_at (vals := [(0, .string pn)]) (pm_build pn) rfl _ rfl rfl ?_)
                        | (refine wpl_newbox 13 rfl rfl 54 rfl rfl (.tmp 62) rfl _ zeroPm (hdA pn ⟨#[]⟩) rfl rfl info_pm2 rfl (hd_one _ _) ?_; intro w5 hw; have hb := hid_grow hw; have B13 := (hid_alloc hw).1; replace HO : OwnT w5 w.heap.size (.slice (some ad) nn pcap) acc := own_below HO hb; replace HQ : OwnP w5 w.heap.size qv q := own_below HQ hb; replace B := zI B hb; replace HB := zT HB hb; clear hw hb)
                        | (go_at_call 45; (with_reducible refine (HE61.out _ B).mono ?_); rintro e w4 ⟨rfl, hbE, hBE⟩; replace HO : OwnT w4 w.heap.size (.slice (some ad) nn pcap) acc := own_by HO B (by decide) hbE; replace HQ : OwnP w4 w.heap.size qv q := own_by HQ B (by decide) hbE; replace B13 : IBox w4 w3.heap.size 54 (hdA pn ⟨#[]⟩) := box_by B13 B (by decide) hbE; replace HB := HB.trans (Bes.below hbE (fun q e => by rw [e]; exact Nat.le_refl _) HB.size); replace B := hBE; clear hbE hBE)
                        | (go_at_call 46; (with_reducible refine (HP38.out _ B HB).mono ?_); rintro e w6 ⟨hbP, hv⟩; obtain ⟨fv, rfl, hflt⟩ := hv; obtain ⟨fN, rfl, hfb⟩ := hflt; have BF := hfb; replace B13 : IBox w6 w3.heap.size 54 (hdA pn ⟨#[]⟩) := box_by B13 B (by decide) hbP; replace HB := HB.trans (Bes.below hbP (fun q e => by rw [e]; exact Nat.le_refl _) HB.size); clear hbP hfb B)
                        | ((with_reducible refine is_store ?_); refine wpl_store_cell rfl 9 (.tmp 70) (.tmp 68) rfl w3.heap.size 1 rfl (.string ⟨#[]⟩) rfl _ _ B13 (show 1 < 2 by decide) one_s1 rfl ?_; intro w7 hw; have hbS : Bes (· = w3.heap.size) _ w7 := Bes.row (X := fun q => q = w3.heap.size) hw rfl; replace BF := box_by BF B13 (by decide) hbS; replace HB := HB.trans (Bes.below hbS (fun q e => by rw [e]; exact HB13.out) HB.size); clear hw hbS B13))
                      go_ret3
                      exact ⟨by rw [HRS2.out, HF2.out]; exact ⟨_, rfl, _, rfl, BF⟩, HB⟩
                    · have HPM := Lib.hid (paramS_both hp h61 hp2)
                      have HP38 : Hid (∀ wx, CtM wx w.heap.size s (k1 + 1) → Below w.heap.size w wx → Calls Tryz.prog 46 #[.pointer (some ⟨w.heap.size, 0, none⟩), .string ⟨#[38]⟩] wx fun e w' => Bes (· = w.heap.size) wx w' ∧ PcV w.heap.size s (.inr (pv2, k2)) e w') := Lib.hid (fun wx h hb => by
                        have h2 := cut_any (en := ⟨#[38]⟩) h (by omega) HS.out (HW.out.below hb) hb.size (Nat.le_refl _)
                        rw [show partS (bl (⟨#[38]⟩ : ByteArray)) (bl s) (k1 + 1) = .inr (pv2, k2) from hp2] at h2
                        exact h2)
                      clear hp hp2 h61
                      have hbd := paramS_bd HPM.out hks'
                      by_cases h38 : (bl s)[k2]? = some 38
                      · have HN := Lib.hid (HQT.out.more hks' HPM.out h38)
                        have hl38 := lt_at h38
                        have HE38 : Hid (∀ wx, CtM wx w.heap.size s (k2) → Calls Tryz.prog 45 #[.pointer (some ⟨w.heap.size, 0, none⟩), .int .u8 38] wx fun e w' => e = .returned (.bool true) ∧ Bes (· = w.heap.size) wx w' ∧ CtM w' w.heap.size s (k2 + 1)) := Lib.hid (fun wx h => end_yes (c := 38) h h38 HS.out)
                        go_wp2_with (first
                          | (go_at_call 46; (with_reducible refine (HP61.out _ B HB).mono ?_); rintro e w3 ⟨hbP, hv⟩; obtain ⟨rfl, hBP, _⟩ := hv; replace HO : OwnT w3 w.heap.size (.slice (some ad) nn pcap) acc := own_by HO B (by decide) hbP; replace HQ : OwnP w3 w.heap.size qv q := own_by HQ B (by decide) hbP; replace HB := HB.trans (Bes.below hbP (fun q e => by rw [e]; exact Nat.le_refl _) HB.size); replace B := hBP; clear hbP hBP; have HB13 := Lib.hid HB.size; have HQL : Hid (∀ k, qv.ownBlock = some k → k < w3.heap.size) := Lib.hid (fun k hk => (own_in HQ hk).2))
                          | ((with_reducible refine is_build2 _ ?_); refine wpl_build_at (vals := [(0, .string pn)]) (pm_build pn) rfl _ rfl rfl ?_)
                          | (refine wpl_newbox 13 rfl rfl 54 rfl rfl (.tmp 62) rfl _ zeroPm (hdA pn ⟨#[]⟩) rfl rfl info_pm2 rfl (hd_one _ _) ?_; intro w5 hw; have hb := hid_grow hw; have B13 := (hid_alloc hw).1; replace HO : OwnT w5 w.heap.size (.slice (some ad) nn pcap) acc := own_below HO hb; replace HQ : OwnP w5 w.heap.size qv q := own_below HQ hb; replace B := zI B hb; replace HB := zT HB hb; clear hw hb)
                          | (go_at_call 45; (with_reducible refine (HE61.out _ B).mono ?_); rintro e w4 ⟨rfl, hbE, hBE⟩; replace HO : OwnT w4 w.heap.size (.slice (some ad) nn pcap) acc := own_by HO B (by decide) hbE; replace HQ : OwnP w4 w.heap.size qv q := own_by HQ B (by decide) hbE; replace B13 : IBox w4 w3.heap.size 54 (hdA pn ⟨#[]⟩) := box_by B13 B (by decide) hbE; replace HB := HB.trans (Bes.below hbE (fun q e => by rw [e]; exact Nat.le_refl _) HB.size); replace B := hBE; clear hbE hBE)
                          | (go_at_call 46; (with_reducible refine (HP38.out _ B HB).mono ?_); rintro e w6 ⟨hbP, hv⟩; obtain ⟨rfl, hBP, _⟩ := hv; replace HO : OwnT w6 w.heap.size (.slice (some ad) nn pcap) acc := own_by HO B (by decide) hbP; replace HQ : OwnP w6 w.heap.size qv q := own_by HQ B (by decide) hbP; replace B13 : IBox w6 w3.heap.size 54 (hdA pn ⟨#[]⟩) := box_by B13 B (by decide) hbP; replace HB := HB.trans (Bes.below hbP (fun q e => by rw [e]; exact Nat.le_refl _) HB.size); replace B := hBP; clear hbP hBP)
                          | ((with_reducible refine is_store ?_); refine wpl_store_cell rfl 9 (.tmp 70) (.tmp 68) rfl w3.heap.size 1 rfl (.string pv2) rfl _ _ B13 (show 1 < 2 by decide) one_s1 rfl ?_; intro w7 hw; have hbS : Bes (· = w3.heap.size) _ w7 := Bes.row (X := fun q => q = w3.heap.size) hw rfl; replace HO : OwnT w7 w.heap.size (.slice (some ad) nn pcap) acc := own_by HO B13 (by decide) hbS; replace HQ : OwnP w7 w.heap.size qv q := hbS.own HQ (fun k hk e2 => absurd (HQL.out k hk) (by rw [e2]; exact Nat.lt_irrefl _)); replace B := box_by B B13 (by decide) hbS; replace B13 : IBox w7 w3.heap.size 54 (hdA pn pv2) := hid_row hw B13; replace HB := HB.trans (Bes.below hbS (fun q e => by rw [e]; exact HB13.out) HB.size); clear hw hbS)
                          | ((with_reducible refine is_load ?_); refine wpl_load_box rfl 54 (.tmp 13) rfl _ rfl _ _ _ B13 Tryz.underlying54 rfl info_pm2 ?_)
                          | ((with_reducible refine is_slice ?_); refine wpl_slice_at 1 [(0, .agg (hdA pn pv2))] (hdA pn pv2) ie2 _ (by rw [y3]; exact hd_fill _ _) rfl 49 54 _ rfl rfl Tryz.underlying49 y1 y2 (by rw [y3]; decide) (by rw [y3]; decide) ?_; intro w7 hw; have hb := hid_grow hw; have B9 := (hid_alloc hw).1; replace HO : OwnT w7 w.heap.size (.slice (some ad) nn pcap) acc := own_below HO hb; replace HQ : OwnP w7 w.heap.size qv q := own_below HQ hb; replace B := zI B hb; replace HB := zT HB hb; clear hw hb)
                          | ((with_reducible refine is_app2 (.tmp 74) (.tmp 76) ?_); refine wpl_grow rfl (.tmp 74) (.tmp 76) 49 rfl w.heap.size 54 ie2 _ 2 32 Tryz.underlying49 y1 y2 y3 y4 rfl (by decide) qv q.length _ rfl HQ _ _ (hdA pn pv2) _ B9 rfl rfl (hd_one _ _) (by have := HQN.out; unfold maxLen; omega) (by have := HQN.out; omega) HB.size ?_; intro v8 w8 h8 hg8 hb8; replace B := box_grown B HQ (by decide) hg8; replace HO : OwnT w8 w.heap.size (.slice (some ad) nn pcap) acc := own_grown HO HQ (by decide) hg8; clear HQ; have HQ : OwnP w8 w.heap.size v8 (q ++ [(pn, pv2)]) := (by unfold OwnP; rw [List.length_append, ← hds_more]; exact h8); replace HB := HB.trans hb8; clear h8 hg8 hb8 B9)
                          | (go_at_call 45; (with_reducible refine (HE38.out _ B).mono ?_); rintro e w9 ⟨rfl, hbE, hBE⟩; replace HO : OwnT w9 w.heap.size (.slice (some ad) nn pcap) acc := own_by HO B (by decide) hbE; replace HQ : OwnP w9 w.heap.size v8 (q ++ [(pn, pv2)]) := own_by HQ B (by decide) hbE; replace HB := HB.trans (Bes.below hbE (fun q e => by rw [e]; exact Nat.le_refl _) HB.size); replace B := hBE; clear hbE hBE))
                        go_roundw
                        case rel => first | exact ⟨_, k2 + 1, _, true, rfl, rfl, by omega, (by rw [List.length_append]; show q.length + 1 + 1 ≤ _; omega), B, HO, HQ, HB, Lib.hid HN.out⟩ | ((repeat apply Exists.intro); exact ⟨⟨_, k2 + 1, _, true, rfl, rfl, by omega, (by rw [List.length_append]; show q.length + 1 + 1 ≤ _; omega), B, HO, HQ, HB, Lib.hid HN.out⟩, rfl⟩)
                        case measure => (rw [ctPos_of B0.out, ctPos_of B]; show 2 * _ + 1 < 2 * _ + 1; omega)
                      · have HN := Lib.hid (HQT.out.last HPM.out h38)
                        have HE38 : Hid (∀ wx, CtM wx w.heap.size s (k2) → Calls Tryz.prog 45 #[.pointer (some ⟨w.heap.size, 0, none⟩), .int .u8 38] wx fun e w' => e = .returned (.bool false) ∧ Bes (· = w.heap.size) wx w' ∧ CtM w' w.heap.size s (k2)) := Lib.hid (fun wx h => end_isnt (x := 38) h (by have := hbd.2; exact this) h38 HS.out)
                        go_wp2_with (first
                          | (go_at_call 46; (with_reducible refine (HP61.out _ B HB).mono ?_); rintro e w3 ⟨hbP, hv⟩; obtain ⟨rfl, hBP, _⟩ := hv; replace HO : OwnT w3 w.heap.size (.slice (some ad) nn pcap) acc := own_by HO B (by decide) hbP; replace HQ : OwnP w3 w.heap.size qv q := own_by HQ B (by decide) hbP; replace HB := HB.trans (Bes.below hbP (fun q e => by rw [e]; exact Nat.le_refl _) HB.size); replace B := hBP; clear hbP hBP; have HB13 := Lib.hid HB.size; have HQL : Hid (∀ k, qv.ownBlock = some k → k < w3.heap.size) := Lib.hid (fun k hk => (own_in HQ hk).2))
                          | ((with_reducible refine is_build2 _ ?_); refine wpl_build_at (vals := [(0, .string pn)]) (pm_build pn) rfl _ rfl rfl ?_)
                          | (refine wpl_newbox 13 rfl rfl 54 rfl rfl (.tmp 62) rfl _ zeroPm (hdA pn ⟨#[]⟩) rfl rfl info_pm2 rfl (hd_one _ _) ?_; intro w5 hw; have hb := hid_grow hw; have B13 := (hid_alloc hw).1; replace HO : OwnT w5 w.heap.size (.slice (some ad) nn pcap) acc := own_below HO hb; replace HQ : OwnP w5 w.heap.size qv q := own_below HQ hb; replace B := zI B hb; replace HB := zT HB hb; clear hw hb)
                          | (go_at_call 45; (with_reducible refine (HE61.out _ B).mono ?_); rintro e w4 ⟨rfl, hbE, hBE⟩; replace HO : OwnT w4 w.heap.size (.slice (some ad) nn pcap) acc := own_by HO B (by decide) hbE; replace HQ : OwnP w4 w.heap.size qv q := own_by HQ B (by decide) hbE; replace B13 : IBox w4 w3.heap.size 54 (hdA pn ⟨#[]⟩) := box_by B13 B (by decide) hbE; replace HB := HB.trans (Bes.below hbE (fun q e => by rw [e]; exact Nat.le_refl _) HB.size); replace B := hBE; clear hbE hBE)
                          | (go_at_call 46; (with_reducible refine (HP38.out _ B HB).mono ?_); rintro e w6 ⟨hbP, hv⟩; obtain ⟨rfl, hBP, _⟩ := hv; replace HO : OwnT w6 w.heap.size (.slice (some ad) nn pcap) acc := own_by HO B (by decide) hbP; replace HQ : OwnP w6 w.heap.size qv q := own_by HQ B (by decide) hbP; replace B13 : IBox w6 w3.heap.size 54 (hdA pn ⟨#[]⟩) := box_by B13 B (by decide) hbP; replace HB := HB.trans (Bes.below hbP (fun q e => by rw [e]; exact Nat.le_refl _) HB.size); replace B := hBP; clear hbP hBP)
                          | ((with_reducible refine is_store ?_); refine wpl_store_cell rfl 9 (.tmp 70) (.tmp 68) rfl w3.heap.size 1 rfl (.string pv2) rfl _ _ B13 (show 1 < 2 by decide) one_s1 rfl ?_; intro w7 hw; have hbS : Bes (· = w3.heap.size) _ w7 := Bes.row (X := fun q => q = w3.heap.size) hw rfl; replace HO : OwnT w7 w.heap.size (.slice (some ad) nn pcap) acc := own_by HO B13 (by decide) hbS; replace HQ : OwnP w7 w.heap.size qv q := hbS.own HQ (fun k hk e2 => absurd (HQL.out k hk) (by rw [e2]; exact Nat.lt_irrefl _)); replace B := box_by B B13 (by decide) hbS; replace B13 : IBox w7 w3.heap.size 54 (hdA pn pv2) := hid_row hw B13; replace HB := HB.trans (Bes.below hbS (fun q e => by rw [e]; exact HB13.out) HB.size); clear hw hbS)
                          | ((with_reducible refine is_load ?_); refine wpl_load_box rfl 54 (.tmp 13) rfl _ rfl _ _ _ B13 Tryz.underlying54 rfl info_pm2 ?_)
                          | ((with_reducible refine is_slice ?_); refine wpl_slice_at 1 [(0, .agg (hdA pn pv2))] (hdA pn pv2) ie2 _ (by rw [y3]; exact hd_fill _ _) rfl 49 54 _ rfl rfl Tryz.underlying49 y1 y2 (by rw [y3]; decide) (by rw [y3]; decide) ?_; intro w7 hw; have hb := hid_grow hw; have B9 := (hid_alloc hw).1; replace HO : OwnT w7 w.heap.size (.slice (some ad) nn pcap) acc := own_below HO hb; replace HQ : OwnP w7 w.heap.size qv q := own_below HQ hb; replace B := zI B hb; replace HB := zT HB hb; clear hw hb)
                          | ((with_reducible refine is_app2 (.tmp 74) (.tmp 76) ?_); refine wpl_grow rfl (.tmp 74) (.tmp 76) 49 rfl w.heap.size 54 ie2 _ 2 32 Tryz.underlying49 y1 y2 y3 y4 rfl (by decide) qv q.length _ rfl HQ _ _ (hdA pn pv2) _ B9 rfl rfl (hd_one _ _) (by have := HQN.out; unfold maxLen; omega) (by have := HQN.out; omega) HB.size ?_; intro v8 w8 h8 hg8 hb8; replace B := box_grown B HQ (by decide) hg8; replace HO : OwnT w8 w.heap.size (.slice (some ad) nn pcap) acc := own_grown HO HQ (by decide) hg8; clear HQ; have HQ : OwnP w8 w.heap.size v8 (q ++ [(pn, pv2)]) := (by unfold OwnP; rw [List.length_append, ← hds_more]; exact h8); replace HB := HB.trans hb8; clear h8 hg8 hb8 B9)
                          | (go_at_call 45; (with_reducible refine (HE38.out _ B).mono ?_); rintro e w9 ⟨rfl, hbE, hBE⟩; replace HO : OwnT w9 w.heap.size (.slice (some ad) nn pcap) acc := own_by HO B (by decide) hbE; replace HQ : OwnP w9 w.heap.size v8 (q ++ [(pn, pv2)]) := own_by HQ B (by decide) hbE; replace HB := HB.trans (Bes.below hbE (fun q e => by rw [e]; exact Nat.le_refl _) HB.size); replace B := hBE; clear hbE hBE))
                        go_roundw
                        case rel => first | exact ⟨_, k2, _, false, rfl, rfl, hbd.2, (by rw [List.length_append]; show q.length + 1 + 0 ≤ _; omega), B, HO, HQ, HB, Lib.hid HN.out⟩ | ((repeat apply Exists.intro); exact ⟨⟨_, k2, _, false, rfl, rfl, hbd.2, (by rw [List.length_append]; show q.length + 1 + 0 ≤ _; omega), B, HO, HQ, HB, Lib.hid HN.out⟩, rfl⟩)
                        case measure => (rw [ctPos_of B0.out, ctPos_of B]; show 2 * _ + 0 < 2 * _ + 1; omega)
                  · have HPM := Lib.hid (paramS_name hp h61)
                    have HE61 : Hid (∀ wx, CtM wx w.heap.size s (k1) → Calls Tryz.prog 45 #[.pointer (some ⟨w.heap.size, 0, none⟩), .int .u8 61] wx fun e w' => e = .returned (.bool false) ∧ Bes (· = w.heap.size) wx w' ∧ CtM w' w.heap.size s (k1)) := Lib.hid (fun wx h => end_isnt (x := 61) h hb1.2 h61 HS.out)
                    clear hp h61
                    have hbd := paramS_bd HPM.out hks'
                    by_cases h38 : (bl s)[k1]? = some 38
                    · have HN := Lib.hid (HQT.out.more hks' HPM.out h38)
                      have hl38 := lt_at h38
                      have HE38 : Hid (∀ wx, CtM wx w.heap.size s (k1) → Calls Tryz.prog 45 #[.pointer (some ⟨w.heap.size, 0, none⟩), .int .u8 38] wx fun e w' => e = .returned (.bool true) ∧ Bes (· = w.heap.size) wx w' ∧ CtM w' w.heap.size s (k1 + 1)) := Lib.hid (fun wx h => end_yes (c := 38) h h38 HS.out)
                      go_wp2_with (first
                        | (go_at_call 46; (with_reducible refine (HP61.out _ B HB).mono ?_); rintro e w3 ⟨hbP, hv⟩; obtain ⟨rfl, hBP, _⟩ := hv; replace HO : OwnT w3 w.heap.size (.slice (some ad) nn pcap) acc := own_by HO B (by decide) hbP; replace HQ : OwnP w3 w.heap.size qv q := own_by HQ B (by decide) hbP; replace HB := HB.trans (Bes.below hbP (fun q e => by rw [e]; exact Nat.le_refl _) HB.size); replace B := hBP; clear hbP hBP; have HB13 := Lib.hid HB.size; have HQL : Hid (∀ k, qv.ownBlock = some k → k < w3.heap.size) := Lib.hid (fun k hk => (own_in HQ hk).2))
                        | ((with_reducible refine is_build2 _ ?_); refine wpl_build_at (vals := [(0, .string pn)]) (pm_build pn) rfl _ rfl rfl ?_)
                        | (refine wpl_newbox 13 rfl rfl 54 rfl rfl (.tmp 62) rfl _ zeroPm (hdA pn ⟨#[]⟩) rfl rfl info_pm2 rfl (hd_one _ _) ?_; intro w5 hw; have hb := hid_grow hw; have B13 := (hid_alloc hw).1; replace HO : OwnT w5 w.heap.size (.slice (some ad) nn pcap) acc := own_below HO hb; replace HQ : OwnP w5 w.heap.size qv q := own_below HQ hb; replace B := zI B hb; replace HB := zT HB hb; clear hw hb)
                        | (go_at_call 45; (with_reducible refine (HE61.out _ B).mono ?_); rintro e w4 ⟨rfl, hbE, hBE⟩; replace HO : OwnT w4 w.heap.size (.slice (some ad) nn pcap) acc := own_by HO B (by decide) hbE; replace HQ : OwnP w4 w.heap.size qv q := own_by HQ B (by decide) hbE; replace B13 : IBox w4 w3.heap.size 54 (hdA pn ⟨#[]⟩) := box_by B13 B (by decide) hbE; replace HB := HB.trans (Bes.below hbE (fun q e => by rw [e]; exact Nat.le_refl _) HB.size); replace B := hBE; clear hbE hBE)
                        | ((with_reducible refine is_load ?_); refine wpl_load_box rfl 54 (.tmp 13) rfl _ rfl _ _ _ B13 Tryz.underlying54 rfl info_pm2 ?_)
                        | ((with_reducible refine is_slice ?_); refine wpl_slice_at 1 [(0, .agg (hdA pn ⟨#[]⟩))] (hdA pn ⟨#[]⟩) ie2 _ (by rw [y3]; exact hd_fill _ _) rfl 49 54 _ rfl rfl Tryz.underlying49 y1 y2 (by rw [y3]; decide) (by rw [y3]; decide) ?_; intro w7 hw; have hb := hid_grow hw; have B9 := (hid_alloc hw).1; replace HO : OwnT w7 w.heap.size (.slice (some ad) nn pcap) acc := own_below HO hb; replace HQ : OwnP w7 w.heap.size qv q := own_below HQ hb; replace B := zI B hb; replace HB := zT HB hb; clear hw hb)
                        | ((with_reducible refine is_app2 (.tmp 74) (.tmp 76) ?_); refine wpl_grow rfl (.tmp 74) (.tmp 76) 49 rfl w.heap.size 54 ie2 _ 2 32 Tryz.underlying49 y1 y2 y3 y4 rfl (by decide) qv q.length _ rfl HQ _ _ (hdA pn ⟨#[]⟩) _ B9 rfl rfl (hd_one _ _) (by have := HQN.out; unfold maxLen; omega) (by have := HQN.out; omega) HB.size ?_; intro v8 w8 h8 hg8 hb8; replace B := box_grown B HQ (by decide) hg8; replace HO : OwnT w8 w.heap.size (.slice (some ad) nn pcap) acc := own_grown HO HQ (by decide) hg8; clear HQ; have HQ : OwnP w8 w.heap.size v8 (q ++ [(pn, ⟨#[]⟩)]) := (by unfold OwnP; rw [List.length_append, ← hds_more]; exact h8); replace HB := HB.trans hb8; clear h8 hg8 hb8 B9)
                        | (go_at_call 45; (with_reducible refine (HE38.out _ B).mono ?_); rintro e w9 ⟨rfl, hbE, hBE⟩; replace HO : OwnT w9 w.heap.size (.slice (some ad) nn pcap) acc := own_by HO B (by decide) hbE; replace HQ : OwnP w9 w.heap.size v8 (q ++ [(pn, ⟨#[]⟩)]) := own_by HQ B (by decide) hbE; replace HB := HB.trans (Bes.below hbE (fun q e => by rw [e]; exact Nat.le_refl _) HB.size); replace B := hBE; clear hbE hBE))
                      go_roundw
                      case rel => first | exact ⟨_, k1 + 1, _, true, rfl, rfl, by omega, (by rw [List.length_append]; show q.length + 1 + 1 ≤ _; omega), B, HO, HQ, HB, Lib.hid HN.out⟩ | ((repeat apply Exists.intro); exact ⟨⟨_, k1 + 1, _, true, rfl, rfl, by omega, (by rw [List.length_append]; show q.length + 1 + 1 ≤ _; omega), B, HO, HQ, HB, Lib.hid HN.out⟩, rfl⟩)
                      case measure => (rw [ctPos_of B0.out, ctPos_of B]; show 2 * _ + 1 < 2 * _ + 1; omega)
                    · have HN := Lib.hid (HQT.out.last HPM.out h38)
                      have HE38 : Hid (∀ wx, CtM wx w.heap.size s (k1) → Calls Tryz.prog 45 #[.pointer (some ⟨w.heap.size, 0, none⟩), .int .u8 38] wx fun e w' => e = .returned (.bool false) ∧ Bes (· = w.heap.size) wx w' ∧ CtM w' w.heap.size s (k1)) := Lib.hid (fun wx h => end_isnt (x := 38) h (by have := hbd.2; exact this) h38 HS.out)
                      go_wp2_with (first
                        | (go_at_call 46; (with_reducible refine (HP61.out _ B HB).mono ?_); rintro e w3 ⟨hbP, hv⟩; obtain ⟨rfl, hBP, _⟩ := hv; replace HO : OwnT w3 w.heap.size (.slice (some ad) nn pcap) acc := own_by HO B (by decide) hbP; replace HQ : OwnP w3 w.heap.size qv q := own_by HQ B (by decide) hbP; replace HB := HB.trans (Bes.below hbP (fun q e => by rw [e]; exact Nat.le_refl _) HB.size); replace B := hBP; clear hbP hBP; have HB13 := Lib.hid HB.size; have HQL : Hid (∀ k, qv.ownBlock = some k → k < w3.heap.size) := Lib.hid (fun k hk => (own_in HQ hk).2))
                        | ((with_reducible refine is_build2 _ ?_); refine wpl_build_at (vals := [(0, .string pn)]) (pm_build pn) rfl _ rfl rfl ?_)
                        | (refine wpl_newbox 13 rfl rfl 54 rfl rfl (.tmp 62) rfl _ zeroPm (hdA pn ⟨#[]⟩) rfl rfl info_pm2 rfl (hd_one _ _) ?_; intro w5 hw; have hb := hid_grow hw; have B13 := (hid_alloc hw).1; replace HO : OwnT w5 w.heap.size (.slice (some ad) nn pcap) acc := own_below HO hb; replace HQ : OwnP w5 w.heap.size qv q := own_below HQ hb; replace B := zI B hb; replace HB := zT HB hb; clear hw hb)
                        | (go_at_call 45; (with_reducible refine (HE61.out _ B).mono ?_); rintro e w4 ⟨rfl, hbE, hBE⟩; replace HO : OwnT w4 w.heap.size (.slice (some ad) nn pcap) acc := own_by HO B (by decide) hbE; replace HQ : OwnP w4 w.heap.size qv q := own_by HQ B (by decide) hbE; replace B13 : IBox w4 w3.heap.size 54 (hdA pn ⟨#[]⟩) := box_by B13 B (by decide) hbE; replace HB := HB.trans (Bes.below hbE (fun q e => by rw [e]; exact Nat.le_refl _) HB.size); replace B := hBE; clear hbE hBE)
                        | ((with_reducible refine is_load ?_); refine wpl_load_box rfl 54 (.tmp 13) rfl _ rfl _ _ _ B13 Tryz.underlying54 rfl info_pm2 ?_)
                        | ((with_reducible refine is_slice ?_); refine wpl_slice_at 1 [(0, .agg (hdA pn ⟨#[]⟩))] (hdA pn ⟨#[]⟩) ie2 _ (by rw [y3]; exact hd_fill _ _) rfl 49 54 _ rfl rfl Tryz.underlying49 y1 y2 (by rw [y3]; decide) (by rw [y3]; decide) ?_; intro w7 hw; have hb := hid_grow hw; have B9 := (hid_alloc hw).1; replace HO : OwnT w7 w.heap.size (.slice (some ad) nn pcap) acc := own_below HO hb; replace HQ : OwnP w7 w.heap.size qv q := own_below HQ hb; replace B := zI B hb; replace HB := zT HB hb; clear hw hb)
                        | ((with_reducible refine is_app2 (.tmp 74) (.tmp 76) ?_); refine wpl_grow rfl (.tmp 74) (.tmp 76) 49 rfl w.heap.size 54 ie2 _ 2 32 Tryz.underlying49 y1 y2 y3 y4 rfl (by decide) qv q.length _ rfl HQ _ _ (hdA pn ⟨#[]⟩) _ B9 rfl rfl (hd_one _ _) (by have := HQN.out; unfold maxLen; omega) (by have := HQN.out; omega) HB.size ?_; intro v8 w8 h8 hg8 hb8; replace B := box_grown B HQ (by decide) hg8; replace HO : OwnT w8 w.heap.size (.slice (some ad) nn pcap) acc := own_grown HO HQ (by decide) hg8; clear HQ; have HQ : OwnP w8 w.heap.size v8 (q ++ [(pn, ⟨#[]⟩)]) := (by unfold OwnP; rw [List.length_append, ← hds_more]; exact h8); replace HB := HB.trans hb8; clear h8 hg8 hb8 B9)
                        | (go_at_call 45; (with_reducible refine (HE38.out _ B).mono ?_); rintro e w9 ⟨rfl, hbE, hBE⟩; replace HO : OwnT w9 w.heap.size (.slice (some ad) nn pcap) acc := own_by HO B (by decide) hbE; replace HQ : OwnP w9 w.heap.size v8 (q ++ [(pn, ⟨#[]⟩)]) := own_by HQ B (by decide) hbE; replace HB := HB.trans (Bes.below hbE (fun q e => by rw [e]; exact Nat.le_refl _) HB.size); replace B := hBE; clear hbE hBE))
                      go_roundw
                      case rel => first | exact ⟨_, k1, _, false, rfl, rfl, hbd.2, (by rw [List.length_append]; show q.length + 1 + 0 ≤ _; omega), B, HO, HQ, HB, Lib.hid HN.out⟩ | ((repeat apply Exists.intro); exact ⟨⟨_, k1, _, false, rfl, rfl, hbd.2, (by rw [List.length_append]; show q.length + 1 + 0 ≤ _; omega), B, HO, HQ, HB, Lib.hid HN.out⟩, rfl⟩)
                      case measure => (rw [ctPos_of B0.out, ctPos_of B]; show 2 * _ + 0 < 2 * _ + 1; omega)
        · have HF2 : Hid (splitS (bl s) = .inr (acc, [])) := Lib.hid (by rw [HSP.out, if_pos (.inl h63)])
          have HE63 : Hid (∀ wx, CtM wx w.heap.size s (k) → Calls Tryz.prog 45 #[.pointer (some ⟨w.heap.size, 0, none⟩), .int .u8 63] wx fun e w' => e = .returned (.bool false) ∧ Bes (· = w.heap.size) wx w' ∧ CtM w' w.heap.size s (k)) := Lib.hid (fun wx h => end_isnt (x := 63) h hks h63 HS.out)
          clear h63
          go_wp2_with (first
            | (go_at_call 45; (with_reducible refine (HE47.out _ B).mono ?_); rintro e w2 ⟨rfl, hbE, hBE⟩; replace HO : OwnT w2 w.heap.size (.slice (some ad) nn pcap) acc := own_by HO B (by decide) hbE; replace HB := HB.trans (Bes.below hbE (fun q e => by rw [e]; exact Nat.le_refl _) HB.size); replace B := hBE; clear hbE hBE)
            | (go_at_call 45; (with_reducible refine (HE63.out _ B).mono ?_); rintro e w3 ⟨rfl, hbE, hBE⟩; replace HO : OwnT w3 w.heap.size (.slice (some ad) nn pcap) acc := own_by HO B (by decide) hbE; replace HB := HB.trans (Bes.below hbE (fun q e => by rw [e]; exact Nat.le_refl _) HB.size); replace B := hBE; clear hbE hBE))
          go_ret3
          exact ⟨by rw [HF2.out]; exact ⟨_, _, rfl, HO, own_nil _ _ _ _⟩, HB⟩
end Go.Proofs.YtbehakabglegjaaGreatDoor
