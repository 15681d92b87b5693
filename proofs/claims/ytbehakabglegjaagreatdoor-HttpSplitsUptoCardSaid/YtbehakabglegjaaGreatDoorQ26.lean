/- Layer 9: a part of a target, by the document. Layer 9: parts that are sound come back from their target (plain). -/
import Derived.Test.YtbehakabglegjaaGreatDoorQ16
import Derived.Test.YtbehakabglegjaaGreatDoorQ20
import Derived.Test.YtbehakabglegjaaGreatDoorQ25
import Derived.Test.YtbehakabglegjaaGreatDoorQ04
namespace Go.Proofs.YtbehakabglegjaaGreatDoor
open Go.RowKit Go.PlainAid
set_option linter.unusedVariables false
set_option linter.unusedSimpArgs false
set_option maxRecDepth 100000 in
set_option maxHeartbeats 4000000 in
theorem rhex_any (c : UInt8) (w : World) : Calls Tryz.prog 90 #[.int .u8 (c.toNat : Int)] w fun e w' => e = .returned (.int .i64 (hexB c)) ∧ w = w' := by
  have HV : Hid (hexB c = if 48 ≤ c.toNat ∧ c.toNat ≤ 57 then (c.toNat : Int) - 48 else if 97 ≤ c.toNat ∧ c.toNat ≤ 102 then (c.toNat : Int) - 87 else if 65 ≤ c.toNat ∧ c.toNat ≤ 70 then (c.toNat : Int) - 55 else -1) := Lib.hid rfl
  have hc := c.toNat_lt
  go_enter Tryz.func90, Tryz.ntmps90
  by_cases a1 : 48 ≤ c.toNat <;> by_cases a2 : c.toNat ≤ 57 <;> by_cases a3 : 97 ≤ c.toNat <;> by_cases a4 : c.toNat ≤ 102 <;> by_cases a5 : 65 ≤ c.toNat <;> by_cases a6 : c.toNat ≤ 70
  all_goals first
    | (exfalso; omega)
    | skip
  all_goals
    go_wp2
    go_ret
    refine ⟨?_, rfl⟩
    rw [HV.out]
    simp only [a1, a2, a3, a4, a5, a6, and_self, and_true, and_false, true_and, false_and, if_true, if_false]
    first | rfl | (refine (show Ending.returned (Value.int IntKind.i64 ((c.toNat : Int) - 97 + 10)) = _ from ?_); congr 2; omega) | (refine (show Ending.returned (Value.int IntKind.i64 ((c.toNat : Int) - 65 + 10)) = _ from ?_); congr 2; omega)
theorem results_tmp4 {fn : Func} {t u v x : Tmp} (h : fn.results = #[.tmp t, .tmp u, .tmp v, .tmp x]) (tmps : Array Value) (P : Program) (w : World) :
    (results fn tmps).run P w = .ok (.tuple #[tmps.getD t undef, tmps.getD u undef, tmps.getD v undef, tmps.getD x undef]) w := by
  simp [results, h]
/-- What piece gives. -/
def RpV (r : (Int × Nat) ⊕ (ByteArray × Nat)) : Value := match r with
  | .inr (t, k) => .tuple #[.string t, .int .i64 (k : Int), .int .i64 0, .int .i64 0]
  | .inl (c, p) => .tuple #[.string ⟨#[]⟩, .int .i64 0, .int .i64 c, .int .i64 (p : Int)]
theorem partS_inl {en s : ByteArray} {k0 : Nat} {e : Int × Nat} (h : partL (bl en) ((bl s).length + 1) ((bl s).drop k0) k0 [] = .inl e) : partS (bl en) (bl s) k0 = .inl e := by
  unfold partS
  rw [h]
theorem partS_inr {en s : ByteArray} {k0 k : Nat} {t : List UInt8} (h : partL (bl en) ((bl s).length + 1) ((bl s).drop k0) k0 [] = .inr (t, k)) : partS (bl en) (bl s) k0 = if badI (txt t) < 0 then .inr (txt t, k) else .inl (7, k0) := by
  unfold partS
  rw [h]
theorem contains_next {l : List UInt8} {j : Nat} {d c : UInt8} (h : l[j]? = some d) : (l.take (j + 1)).contains c = ((l.take j).contains c || d == c) := by
  rw [List.take_add_one, h]
  simp only [Option.toList, List.contains_eq_any_beq, List.any_append, List.any_cons, List.any_nil, Bool.or_false]
  by_cases e : c = d
  · subst e; simp
  · have e1 : (c == d) = false := by simpa using e
    have e2 : (d == c) = false := by simpa using Ne.symm e
    rw [e1, e2]
theorem u8_one (n : Int) : Instr.fill (fun i => some (i * 1, 1)) ((Array.range (1 * 1)).map ((Value.int .u8 0).cells[· % (Value.int .u8 0).cells.size]!)) [(0, .int .u8 n)] = some #[.int .u8 n] := by kernel_rfl
set_option maxRecDepth 100000 in
set_option maxHeartbeats 16000000 in
theorem rpiece_any {s en : ByteArray} {k0 : Nat} {w : World} (hk : k0 ≤ s.size) (hs : s.size ≤ 1099511627776) (hen : en.size ≤ 1099511627776) :
    Calls Tryz.prog 52 #[.string s, .int .i64 (k0 : Int), .string en] w fun e w' => e = .returned (RpV (partS (bl en) (bl s) k0)) ∧ Below w.heap.size w w' := by
  have hbs := get_bt s
  have hbe := get_bt en
  have HS := Lib.hid hs
  have HEN := Lib.hid hen
  have hpl := PL.start en s k0
  generalize hR : partL (bl en) ((bl s).length + 1) ((bl s).drop k0) k0 [] = R at hpl
  have HR := Lib.hid hR
  have HPL := Lib.hid hpl
  have HK := Lib.hid hk
  obtain ⟨ie, hie1, hie2, hie3, hie4⟩ := u8_info
  clear hR hpl hs hen hk
  go_enter Tryz.func52, Tryz.ntmps52
  go_wp2
  go_loopw [1, 11, 12, 13, 14] (fun kv bv _ _ _ wr => ∃ (k : Nat) (acc : List UInt8), kv = .int .i64 (k : Int) ∧ k ≤ s.size ∧ OwnB wr w.heap.size bv acc ∧ acc.length ≤ k ∧ Hid (PL en s k acc R) ∧ Below w.heap.size w wr) (fun kv _ _ _ _ _ => match kv with | .int _ k => s.size - k.toNat | _ => 0)
  case atStart => exact ⟨k0, [], rfl, HK.out, OwnB.nil _ _, Nat.zero_le _, HPL, Below.refl _ _⟩
  case round =>
    clear HPL
    obtain ⟨k, acc, rfl, hk, HO, hacc, HPL, HB⟩ := hrel
    have hs := HS.out
    have hen := HEN.out
    by_cases hlt : k < s.size
    · obtain ⟨c, hc⟩ : ∃ c, (bl s)[k]? = some c := ⟨_, List.getElem?_eq_getElem (show k < (bl s).length from hlt)⟩
      have hcb := bt_at hc
      have HC := Lib.hid hc
      clear hc
      go_wp2
      go_loopw [14, 13] (fun jv ev wx => ∃ j : Nat, jv = .int .i64 (j : Int) ∧ j ≤ en.size ∧ ev = .bool (((bl en).take j).contains c) ∧ wx = wr) (fun jv _ _ => match jv with | .int _ j => en.size - j.toNat | _ => 0)
      case atStart => exact ⟨0, rfl, Nat.zero_le _, by simp, rfl⟩
      case round =>
        obtain ⟨j, rfl, hj, rfl, rfl⟩ := hrel
        generalize hok : ((bl en).take j).contains c = okv
        by_cases hjt : j < en.size
        · obtain ⟨d, hd⟩ : ∃ d, (bl en)[j]? = some d := ⟨_, List.getElem?_eq_getElem (show j < (bl en).length from hjt)⟩
          have hdb := bt_at hd
          have HN : Hid (((bl en).take (j + 1)).contains c = (okv || d == c)) := Lib.hid (by rw [contains_next hd, hok])
          clear hd hok
          cases okv
          · by_cases hdc : d = c
            · subst hdc
              go_wp2
              go_roundw
              case rel => exact ⟨j + 1, rfl, by omega, (by rw [HN.out]; simp), trivial⟩
              case measure => (simp only; omega)
            · have hne := byte_ne hdc
              have HD : Hid ((d == c) = false) := Lib.hid (by simpa using hdc)
              clear hdc
              go_wp2
              go_roundw
              case rel => exact ⟨j + 1, rfl, by omega, (by rw [HN.out, HD.out]; rfl), trivial⟩
              case measure => (simp only; omega)
          · go_wp2
            go_roundw
            case rel => exact ⟨j + 1, rfl, by omega, (by rw [HN.out]; rfl), trivial⟩
            case measure => (simp only; omega)
        · obtain rfl : j = en.size := by omega
          rw [show en.size = (bl en).length from rfl, List.take_length] at hok
          have HOK := Lib.hid hok
          clear hok hjt hj
          cases okv
          · by_cases hbad : (c.toNat < 33 ∨ 126 < c.toNat) ∨ c.toNat = 35
            · have HV : Hid (partS (bl en) (bl s) k0 = .inl (3, k)) := Lib.hid (partS_inl (HR.out.trans (HPL.out.bad HC.out HOK.out hbad)))
              clear HPL
              by_cases a1 : c.toNat < 33 <;> by_cases a2 : 126 < c.toNat <;> by_cases a3 : c.toNat = 35
              all_goals first
                | (exfalso; omega)
                | skip
              all_goals
                clear hbad
                go_wp2
                try simp only [Exit.inBlock, Exit.then]
                refine bodyPost_ret (results_tmp4 rfl _ _ _) rfl ?_
                exact ⟨by rw [HV.out]; rfl, HB⟩
            · have b1 : ¬ c.toNat < 33 := by omega
              have b2 : ¬ 126 < c.toNat := by omega
              have b3 : ¬ c.toNat = 35 := by omega
              by_cases hcp : c.toNat = 37
              · clear hbad
                by_cases h2k : s.size ≤ k + 2
                · have HV : Hid (partS (bl en) (bl s) k0 = .inl (3, k)) := Lib.hid (partS_inl (HR.out.trans (HPL.out.near HC.out HOK.out hcp h2k)))
                  clear HPL
                  have hge : (s.size : Int) ≤ (k : Int) + 2 := by omega
                  clear h2k
                  go_wp2
                  try simp only [Exit.inBlock, Exit.then]
                  refine bodyPost_ret (results_tmp4 rfl _ _ _) rfl ?_
                  exact ⟨by rw [HV.out]; rfl, HB⟩
                · obtain ⟨d1, hd1⟩ : ∃ d, (bl s)[k + 1]? = some d := ⟨_, List.getElem?_eq_getElem (show k + 1 < (bl s).length by show k + 1 < s.size; omega)⟩
                  obtain ⟨d2, hd2⟩ : ∃ d, (bl s)[k + 2]? = some d := ⟨_, List.getElem?_eq_getElem (show k + 2 < (bl s).length by show k + 2 < s.size; omega)⟩
                  have hb1 := bt_at hd1
                  have hb2 := bt_at hd2
                  obtain ⟨p1, p2⟩ := HPL.out.pct HC.out HOK.out hcp hd1 hd2
                  have x1 := hex_in d1
                  have x2 := hex_in d2
                  generalize hh1 : hexB d1 = h1 at p1 p2 x1
                  generalize hh2 : hexB d2 = h2 at p1 p2 x2
                  have HX1 : Hid (∀ wx, Calls Tryz.prog 90 #[.int .u8 (d1.toNat : Int)] wx fun e w' => e = .returned (.int .i64 h1) ∧ wx = w') := Lib.hid fun wx => by have h := rhex_any d1 wx; rw [hh1] at h; exact h
                  have HX2 : Hid (∀ wx, Calls Tryz.prog 90 #[.int .u8 (d2.toNat : Int)] wx fun e w' => e = .returned (.int .i64 h2) ∧ wx = w') := Lib.hid fun wx => by have h := rhex_any d2 wx; rw [hh2] at h; exact h
                  have P1 := Lib.hid p1
                  have P2 := Lib.hid p2
                  have hnk : ¬ (s.size : Int) ≤ (k : Int) + 2 := by omega
                  clear hh1 hh2 hd1 hd2 p1 p2
                  by_cases n1 : h1 < 0
                  · have HV : Hid (partS (bl en) (bl s) k0 = .inl (3, k)) := Lib.hid (partS_inl (HR.out.trans (P1.out (.inl n1))))
                    clear HPL x1 x2 P1 P2
                    go_wp2_with (first
                      | (go_at_call 90; (with_reducible refine (HX1.out _).mono ?_); rintro e w7 ⟨rfl, rfl⟩)
                      | (go_at_call 90; (with_reducible refine (HX2.out _).mono ?_); rintro e w7 ⟨rfl, rfl⟩))
                    try simp only [Exit.inBlock, Exit.then]
                    refine bodyPost_ret (results_tmp4 rfl _ _ _) rfl ?_
                    exact ⟨by rw [HV.out]; rfl, HB⟩
                  · by_cases n2 : h2 < 0
                    · have HV : Hid (partS (bl en) (bl s) k0 = .inl (3, k)) := Lib.hid (partS_inl (HR.out.trans (P1.out (.inr n2))))
                      clear HPL x1 x2 P1 P2
                      go_wp2_with (first
                        | (go_at_call 90; (with_reducible refine (HX1.out _).mono ?_); rintro e w7 ⟨rfl, rfl⟩)
                        | (go_at_call 90; (with_reducible refine (HX2.out _).mono ?_); rintro e w7 ⟨rfl, rfl⟩))
                      try simp only [Exit.inBlock, Exit.then]
                      refine bodyPost_ret (results_tmp4 rfl _ _ _) rfl ?_
                      exact ⟨by rw [HV.out]; rfl, HB⟩
                    · have hpn := P2.out n1 n2
                      obtain ⟨hx, hhx⟩ : ∃ hx, UInt8.ofNat (h1 * 16 + h2).toNat = hx := ⟨_, rfl⟩
                      rw [hhx] at hpn
                      have HWR : Hid ((hx.toNat : Int) = 16 * h1 + h2) := Lib.hid (by rw [← hhx, UInt8.toNat_ofNat']; omega)
                      replace HPL := Lib.hid hpn
                      have h15 : h1 ≤ 15 ∧ h2 ≤ 15 := by omega
                      obtain ⟨h15a, h15b⟩ := h15
                      clear hpn hhx x1 x2 P1 P2
                      go_wp2_with (first
                        | (go_at_call 90; (with_reducible refine (HX1.out _).mono ?_); rintro e w7 ⟨rfl, rfl⟩)
                        | (go_at_call 90; (with_reducible refine (HX2.out _).mono ?_); rintro e w7 ⟨rfl, rfl⟩))
                      refine wp_region_S (S := fun _ => True) (by kernel_rfl) (fun w5 hh => trivial) (fun w5 hh hbb HS0 => ?_)
                      have hb := hbb _ (Nat.le_refl _)
                      replace HO := HO.below hb
                      replace HB := HB.trans (hb.mono HB.size)
                      clear hh hbb hb
                      refine TKC 0 79 rfl ?_
                      try simp only [Act.put, zA, zB, zC]
                      refine TKC 1 80 rfl ?_
                      try simp only [Act.put, zA, zB, zC]
                      refine TKC 2 81 rfl ?_
                      try simp only [Act.put, zA, zB, zC]
                      refine TKC 3 82 rfl ?_ (by (intro w hSw; (try dsimp only at hSw); have q1 : IntKind.i64.wrap ((k : Int) + 1) = (k : Int) + 1 := (by rw [IntKind.wrap_i64]; omega); have q2 : (k : Int) + 1 < (s.size : Int) := (by omega); have q3 : 0 ≤ (k : Int) + 1 := (by omega); have q4 : ((k : Int) + 1).toNat = k + 1 := (by omega); go_simp; try with_reducible rfl))
                      try simp only [Act.put, zA, zB, zC]
                      refine TKC 4 83 rfl ?_ (by (intro w hSw; (try dsimp only at hSw); have q1 : IntKind.i64.wrap ((k : Int) + 1) = (k : Int) + 1 := (by rw [IntKind.wrap_i64]; omega); have q2 : (k : Int) + 1 < (s.size : Int) := (by omega); have q3 : 0 ≤ (k : Int) + 1 := (by omega); have q4 : ((k : Int) + 1).toNat = k + 1 := (by omega); go_simp; try with_reducible rfl))
                      try simp only [Act.put, zA, zB, zC]
                      refine TKC 7 86 rfl ?_
                      try simp only [Act.put, zA, zB, zC]
                      refine TKC 8 87 rfl ?_
                      try simp only [Act.put, zA, zB, zC]
                      refine TKC 9 88 rfl ?_ (by (intro w hSw; (try dsimp only at hSw); have q1 : IntKind.i64.wrap ((k : Int) + 2) = (k : Int) + 2 := (by rw [IntKind.wrap_i64]; omega); have q2 : (k : Int) + 2 < (s.size : Int) := (by omega); have q3 : 0 ≤ (k : Int) + 2 := (by omega); have q4 : ((k : Int) + 2).toNat = k + 2 := (by omega); go_simp; try with_reducible rfl))
                      try simp only [Act.put, zA, zB, zC]
                      refine TKC 10 89 rfl ?_ (by (intro w hSw; (try dsimp only at hSw); have q1 : IntKind.i64.wrap ((k : Int) + 2) = (k : Int) + 2 := (by rw [IntKind.wrap_i64]; omega); have q2 : (k : Int) + 2 < (s.size : Int) := (by omega); have q3 : 0 ≤ (k : Int) + 2 := (by omega); have q4 : ((k : Int) + 2).toNat = k + 2 := (by omega); go_simp; try with_reducible rfl))
                      try simp only [Act.put, zA, zB, zC]
                      refine wpAnyH_ready (rs := [5]) (by kernel_rfl) (by simp) ?_
                      refine AllReadyH.cons (o := ⟨some 84, _, _, _, _, _⟩) rfl (fun K hK => ?_) AllReadyH.nil
                      go_simp
                      (go_at_call 90; (with_reducible refine (HX1.out _).mono ?_); rintro e w6 ⟨rfl, rfl⟩)
                      refine hK.out _ _ HS0 (fun hS2 => ?_)
                      clear hK K hS2
                      try simp only [Act.put, zA, zB, zC]
                      refine TKC 6 85 rfl ?_ (by (intro w hSw; (try dsimp only at hSw); have q1 : IntKind.i64.wrap (16 * h1) = 16 * h1 := (by rw [IntKind.wrap_i64]; omega); go_simp; try with_reducible rfl))
                      try simp only [Act.put, zA, zB, zC]
                      refine wpAnyH_ready (rs := [11]) (by kernel_rfl) (by simp) ?_
                      refine AllReadyH.cons (o := ⟨some 90, _, _, _, _, _⟩) rfl (fun K hK => ?_) AllReadyH.nil
                      go_simp
                      (go_at_call 90; (with_reducible refine (HX2.out _).mono ?_); rintro e w6 ⟨rfl, rfl⟩)
                      refine hK.out _ _ HS0 (fun hS2 => ?_)
                      clear hK K hS2
                      try simp only [Act.put, zA, zB, zC]
                      refine TKC 12 91 rfl ?_ (by (intro w hSw; (try dsimp only at hSw); have q1 : IntKind.i64.wrap (16 * h1 + h2) = 16 * h1 + h2 := (by rw [IntKind.wrap_i64]; omega); go_simp; try with_reducible rfl))
                      try simp only [Act.put, zA, zB, zC]
                      refine TKC 13 92 rfl ?_ (by (intro w hSw; (try dsimp only at hSw); have q1 : IntKind.u8.wrap (16 * h1 + h2) = (hx.toNat : Int) := (by have := HWR.out; rw [IntKind.wrap_u8]; omega); go_simp; try with_reducible rfl))
                      try simp only [Act.put, zA, zB, zC]
                      refine wpAnyH_ready (rs := [14]) (by kernel_rfl) (by simp) ?_
                      refine AllReadyH.cons (o := ⟨some 93, _, _, _, _, _⟩) rfl (fun K hK => ?_) AllReadyH.nil
                      simp only [Region.wanted, if_true]
                      refine op_slice_at 1 _ _ ie _ (by rw [hie3]; exact u8_one (hx.toNat : Int)) 23 5 _ rfl rfl Tryz.underlying23 hie1 hie2 (by rw [hie3]; decide) (by rw [hie3]; decide) ?_
                      intro w10 hw
                      have hb := hid_grow hw
                      have BN := (hid_alloc hw).1
                      replace HO := HO.below hb
                      replace HB := HB.trans (hb.mono HB.size)
                      clear hb hw
                      refine hK.out _ _ HS0 (fun hS2 => ?_)
                      clear hK K hS2
                      try simp only [Act.put, zA, zB, zC]
                      refine wpAnyH_ready (rs := [15]) (by kernel_rfl) (by simp) ?_
                      refine AllReadyH.cons (o := ⟨some 94, _, _, _, _, _⟩) rfl (fun K hK => ?_) AllReadyH.nil
                      simp only [Region.wanted, if_true]
                      obtain ⟨oA, oc, hov⟩ := bt_slice HO
                      subst hov
                      refine op_append_at _ _ 23 rfl w.heap.size 5 ie _ 1 1 Tryz.underlying23 hie1 hie2 hie3 hie4 rfl (by decide) (.slice oA acc.length oc) acc.length (Lib.byteCells acc) rfl HO _ _ _ _ BN (by rfl) rfl (by simp [Value.oneCell']) (by unfold maxLen; omega) (by omega) HB.size ?_
                      intro g7 cap w11 HO2 hgrow hat hlt2
                      have hbe : Below w.heap.size w10 w11 := (Below.refl _ _).grown hgrow HB.size (fun q e => (own_in HO e).1)
                      replace HB := HB.trans hbe
                      have HO3 : OwnB w11 w.heap.size (.slice (some ⟨g7, 0, none⟩) (acc.length + 1) cap) (acc ++ [hx]) := by
                        unfold OwnB
                        rw [List.length_append, Lib.byteCells_append]
                        exact HO2
                      clear hgrow hat hlt2 hbe BN
                      refine hK.out _ _ HS0 (fun hS2 => ?_)
                      clear hK K hS2
                      try simp only [Act.put, zA, zB, zC]
                      refine TKC 16 11 rfl ?_
                      try simp only [Act.put, zA, zB, zC]
                      refine wpAnyH_done (by kernel_rfl) ?_ _
                      clear HS0
                      go_wp2
                      exact ⟨⟨k + 3, acc ++ [hx], rfl, by omega, HO3, (by rw [List.length_append, List.length_singleton]; omega), HPL, HB⟩, by (simp only; omega)⟩
              · replace HPL := Lib.hid (HPL.out.plain HC.out HOK.out hbad hcp)
                clear hbad
                have hq3 : ((c.toNat : Int) == 35) = false := by rw [beq_eq_false_iff_ne]; omega
                go_wp2_with (first
                  | ((with_reducible refine is_slice ?_); refine wpl_u8 rfl (.tmp 52) rfl c rfl ?_; intro w1 hb B9; replace HO := HO.below hb; replace HB := HB.trans (hb.mono HB.size); clear hb)
                  | ((with_reducible refine is_app (.tmp 51) (.tmp 53) ?_); refine wpl_own1 rfl (.tmp 51) (.tmp 53) rfl HO (by omega) HB.size B9 rfl rfl ?_; intro v3 w3 ho hb; replace HO := ho; replace HB := HB.trans hb; clear ho hb B9))
                exact ⟨⟨k + 1, acc ++ [c], rfl, by omega, HO, (by rw [List.length_append, List.length_singleton]; omega), HPL, HB⟩, by (simp only; omega)⟩
          · have HF : Hid (R = .inr (acc, k)) := Lib.hid (HPL.out.stop HC.out HOK.out)
            have HPS : Hid (partS (bl en) (bl s) k0 = if badI (txt acc) < 0 then .inr (txt acc, k) else .inl (7, k0)) := Lib.hid (partS_inr (HR.out.trans HF.out))
            have HBD : Hid (∀ wx, Calls Tryz.prog 20 #[.string (txt acc)] wx fun e w' => e = .returned (.int .i64 (badI (txt acc))) ∧ Below wx.heap.size wx w') := Lib.hid fun wx => badu_any (by rw [txt_size]; omega) wx
            clear HF HPL
            by_cases hbd : badI (txt acc) < 0
            · have HV : Hid (partS (bl en) (bl s) k0 = .inr (txt acc, k)) := Lib.hid (by rw [HPS.out, if_pos hbd])
              generalize badI (txt acc) = bi at HBD hbd
              go_wp2_with (first
                | ((with_reducible refine is_convert ?_); refine wpl_bt_text rfl (.tmp 97) rfl (bt_own HO) rfl ?_)
                | ((with_reducible refine is_convert ?_); refine wpl_bt_text rfl (.tmp 102) rfl (bt_own HO) rfl ?_)
                | (go_at_call 20; (with_reducible refine (HBD.out _).mono ?_); rintro e w9 ⟨rfl, hb⟩; replace HO := HO.below hb; replace HB := HB.trans (hb.mono HB.size); clear hb))
              try simp only [Exit.inBlock, Exit.then]
              refine bodyPost_ret (results_tmp4 rfl _ _ _) rfl ?_
              exact ⟨by rw [HV.out]; rfl, HB⟩
            · have HV : Hid (partS (bl en) (bl s) k0 = .inl (7, k0)) := Lib.hid (by rw [HPS.out, if_neg hbd])
              generalize badI (txt acc) = bi at HBD hbd
              go_wp2_with (first
                | ((with_reducible refine is_convert ?_); refine wpl_bt_text rfl (.tmp 97) rfl (bt_own HO) rfl ?_)
                | ((with_reducible refine is_convert ?_); refine wpl_bt_text rfl (.tmp 102) rfl (bt_own HO) rfl ?_)
                | (go_at_call 20; (with_reducible refine (HBD.out _).mono ?_); rintro e w9 ⟨rfl, hb⟩; replace HO := HO.below hb; replace HB := HB.trans (hb.mono HB.size); clear hb))
              try simp only [Exit.inBlock, Exit.then]
              refine bodyPost_ret (results_tmp4 rfl _ _ _) rfl ?_
              exact ⟨by rw [HV.out]; rfl, HB⟩
    · have HF : Hid (R = .inr (acc, k)) := Lib.hid (HPL.out.fin hlt)
      have HPS : Hid (partS (bl en) (bl s) k0 = if badI (txt acc) < 0 then .inr (txt acc, k) else .inl (7, k0)) := Lib.hid (partS_inr (HR.out.trans HF.out))
      have HBD : Hid (∀ wx, Calls Tryz.prog 20 #[.string (txt acc)] wx fun e w' => e = .returned (.int .i64 (badI (txt acc))) ∧ Below wx.heap.size wx w') := Lib.hid fun wx => badu_any (by rw [txt_size]; omega) wx
      clear HF HPL
      by_cases hbd : badI (txt acc) < 0
      · have HV : Hid (partS (bl en) (bl s) k0 = .inr (txt acc, k)) := Lib.hid (by rw [HPS.out, if_pos hbd])
        generalize badI (txt acc) = bi at HBD hbd
        go_wp2_with (first
          | ((with_reducible refine is_convert ?_); refine wpl_bt_text rfl (.tmp 97) rfl (bt_own HO) rfl ?_)
          | ((with_reducible refine is_convert ?_); refine wpl_bt_text rfl (.tmp 102) rfl (bt_own HO) rfl ?_)
          | (go_at_call 20; (with_reducible refine (HBD.out _).mono ?_); rintro e w9 ⟨rfl, hb⟩; replace HO := HO.below hb; replace HB := HB.trans (hb.mono HB.size); clear hb))
        try simp only [Exit.inBlock, Exit.then]
        refine bodyPost_ret (results_tmp4 rfl _ _ _) rfl ?_
        exact ⟨by rw [HV.out]; rfl, HB⟩
      · have HV : Hid (partS (bl en) (bl s) k0 = .inl (7, k0)) := Lib.hid (by rw [HPS.out, if_neg hbd])
        generalize badI (txt acc) = bi at HBD hbd
        go_wp2_with (first
          | ((with_reducible refine is_convert ?_); refine wpl_bt_text rfl (.tmp 97) rfl (bt_own HO) rfl ?_)
          | ((with_reducible refine is_convert ?_); refine wpl_bt_text rfl (.tmp 102) rfl (bt_own HO) rfl ?_)
          | (go_at_call 20; (with_reducible refine (HBD.out _).mono ?_); rintro e w9 ⟨rfl, hb⟩; replace HO := HO.below hb; replace HB := HB.trans (hb.mono HB.size); clear hb))
        try simp only [Exit.inBlock, Exit.then]
        refine bodyPost_ret (results_tmp4 rfl _ _ _) rfl ?_
        exact ⟨by rw [HV.out]; rfl, HB⟩
end Go.Proofs.YtbehakabglegjaaGreatDoor
namespace Go.Proofs.YtbehakabglegjaaGreatDoor
set_option linter.unusedVariables false
set_option linter.unusedSimpArgs false
theorem esc_tab : ∀ n : Fin 256, let c := UInt8.ofNat n.val
    ((isWordB c || plainMarks.contains c) = true → (([47, 63, 61, 38] : List UInt8).contains c = false ∧ 33 ≤ c.toNat ∧ c.toNat ≤ 126 ∧ c.toNat ≠ 35 ∧ c.toNat ≠ 37)) ∧
    (0 ≤ hexB (digU (c.toNat / 16)) ∧ 0 ≤ hexB (digU (c.toNat % 16)) ∧ UInt8.ofNat (hexB (digU (c.toNat / 16)) * 16 + hexB (digU (c.toNat % 16))).toNat = c) := by decide +kernel
theorem esc_one (c : UInt8) : ((isWordB c || plainMarks.contains c) = true → (([47, 63, 61, 38] : List UInt8).contains c = false ∧ 33 ≤ c.toNat ∧ c.toNat ≤ 126 ∧ c.toNat ≠ 35 ∧ c.toNat ≠ 37)) ∧
    (0 ≤ hexB (digU (c.toNat / 16)) ∧ 0 ≤ hexB (digU (c.toNat % 16)) ∧ UInt8.ofNat (hexB (digU (c.toNat / 16)) * 16 + hexB (digU (c.toNat % 16))).toNat = c) := by
  have h := esc_tab ⟨c.toNat, c.toNat_lt⟩
  simp only [UInt8.ofNat_toNat] at h
  exact h
/-- What may end a part. -/
def Ends (ends : List UInt8) : Prop := ∀ c, ends.contains c = true → ([47, 63, 61, 38] : List UInt8).contains c = true
def Stops (ends rest : List UInt8) : Prop := rest = [] ∨ ∃ c r, rest = c :: r ∧ ends.contains c = true
theorem ends_not {ends : List UInt8} (h : Ends ends) {c : UInt8} (hc : ([47, 63, 61, 38] : List UInt8).contains c = false) : ends.contains c = false := by
  cases he : ends.contains c with
  | false => rfl
  | true => rw [h c he] at hc; cases hc
theorem partL_esc {ends rest : List UInt8} (hE : Ends ends) (hS : Stops ends rest) : ∀ (l : List UInt8) (n i : Nat) (acc : List UInt8), (l.flatMap escB).length < n → partL ends n (l.flatMap escB ++ rest) i acc = .inr (acc ++ l, i + (l.flatMap escB).length)
  | [], n, i, acc, hn => by
    cases n with
    | zero => cases hn
    | succ n =>
      rcases hS with rfl | ⟨c, r, rfl, hc⟩
      · simp [partL]
      · simp only [List.flatMap_nil, List.nil_append, List.append_nil, List.length_nil, Nat.add_zero]
        unfold partL
        rw [if_pos hc]
  | c :: l, n, i, acc, hn => by
    obtain ⟨h1, h2, h3, h4⟩ := esc_one c
    rw [List.flatMap_cons] at hn ⊢
    cases n with
    | zero => cases hn
    | succ n =>
      by_cases hp : (isWordB c || plainMarks.contains c) = true
      · obtain ⟨p1, p2, p3, p4, p5⟩ := h1 hp
        have e : escB c = [c] := by unfold escB; rw [if_pos hp]
        rw [e] at hn ⊢
        rw [List.append_assoc, List.singleton_append]
        unfold partL
        rw [if_neg (by rw [ends_not hE p1]; decide), if_neg (by omega), if_neg p5, partL_esc hE hS l n (i + 1) (acc ++ [c]) (by simp only [List.length_append, List.length_singleton] at hn; omega)]
        simp only [List.append_assoc, List.singleton_append, List.length_cons]
        rw [show i + 1 + (l.flatMap escB).length = i + ((l.flatMap escB).length + 1) by omega]
      · have e : escB c = [37, digU (c.toNat / 16), digU (c.toNat % 16)] := by unfold escB; rw [if_neg hp]
        rw [e] at hn ⊢
        show partL ends (n + 1) (37 :: digU (c.toNat / 16) :: digU (c.toNat % 16) :: (l.flatMap escB ++ rest)) i acc = _
        unfold partL
        rw [if_neg (by rw [ends_not hE (by decide)]; decide), if_neg (by decide), if_pos (by decide)]
        simp only
        rw [if_neg (by omega), h4, partL_esc hE hS l n (i + 3) (acc ++ [c]) (by simp only [List.length_append, List.length_cons, List.length_nil] at hn; omega)]
        simp only [List.append_assoc, List.singleton_append, List.length_append, List.length_cons, List.length_nil]
        rw [show i + 3 + (l.flatMap escB).length = i + (0 + 1 + 1 + 1 + (l.flatMap escB).length) by omega]
theorem txt_bl' (s : ByteArray) : txt (bl s) = s := by cases s; rfl
/-- A sound text. -/
def SoundT (t : ByteArray) : Prop := badI t < 0
theorem partS_esc {ends rest s : List UInt8} {t : ByteArray} {i : Nat} (hE : Ends ends) (hS : Stops ends rest) (hs : s.drop i = escL t ++ rest) (ht : SoundT t) : partS ends s i = .inr (t, i + (escL t).length) := by
  unfold partS
  have hl : (escL t).length < s.length + 1 := by
    have := congrArg List.length hs
    rw [List.length_drop, List.length_append] at this
    omega
  rw [hs]
  have h := partL_esc hE hS (bl t) (s.length + 1) i [] hl
  unfold escL
  rw [h, List.nil_append]
  show (if badI (txt (bl t)) < 0 then Sum.inr (txt (bl t), i + ((bl t).flatMap escB).length) else Sum.inl (7, i)) = _
  rw [txt_bl']
  exact if_pos ht
theorem ends_a : Ends [47, 63] := fun c h => by simp only [List.contains_cons, List.contains_nil, Bool.or_false, Bool.or_eq_true, beq_iff_eq] at h ⊢; (try simp only [h, true_or, or_true]); try (rcases h with h | h <;> simp [h])
theorem ends_b : Ends [61, 38] := fun c h => by simp only [List.contains_cons, List.contains_nil, Bool.or_false, Bool.or_eq_true, beq_iff_eq] at h ⊢; (try simp only [h, true_or, or_true]); try (rcases h with h | h <;> simp [h])
theorem ends_c : Ends [38] := fun c h => by simp only [List.contains_cons, List.contains_nil, Bool.or_false, Bool.or_eq_true, beq_iff_eq] at h ⊢; (try simp only [h, true_or, or_true]); try (rcases h with h | h <;> simp [h])
theorem drop_head {s r : List UInt8} {i : Nat} {c : UInt8} (h : s.drop i = c :: r) : s[i]? = some c ∧ s.drop (i + 1) = r ∧ i < s.length := by
  have h1 : s[i]? = some c := by
    have : (s.drop i)[0]? = some c := by rw [h]; rfl
    rw [List.getElem?_drop] at this
    simpa using this
  refine ⟨h1, ?_, ?_⟩
  · rw [← List.drop_drop, h]; rfl
  · rw [List.getElem?_eq_some_iff] at h1
    exact h1.1
theorem drop_more {s a r : List UInt8} {i : Nat} (h : s.drop i = a ++ r) : s.drop (i + a.length) = r := by
  rw [← List.drop_drop, h, List.drop_left']
  rfl
def slashL (l : List ByteArray) : List UInt8 := l.flatMap fun q => 47 :: escL q
theorem pathS_esc {s Q : List UInt8} (hQ : Q = [] ∨ ∃ r, Q = 63 :: r) : ∀ (l : List ByteArray) (n i : Nat) (acc : List ByteArray), (∀ t ∈ l, SoundT t) → s.drop i = slashL l ++ Q → (slashL l).length < n → ∃ k, pathS s n i acc = .inr (acc ++ l, k) ∧ s.drop k = Q
  | [], n, i, acc, _, hs, hn => by
    cases n with
    | zero => cases hn
    | succ n =>
      refine ⟨i, ?_, hs⟩
      unfold pathS
      have : s[i]? ≠ some 47 := by
        rcases hQ with e | ⟨r, e⟩
        · rw [e] at hs
          have hl : s.length ≤ i := List.drop_eq_nil_iff.1 hs
          rw [List.getElem?_eq_none hl]
          simp
        · rw [e] at hs
          rw [(drop_head (c := 63) (r := r) hs).1]
          decide
      rw [if_neg this, List.append_nil]
  | t :: l, n, i, acc, ht, hs, hn => by
    cases n with
    | zero => cases hn
    | succ n =>
      have e : slashL (t :: l) = 47 :: (escL t ++ slashL l) := rfl
      rw [e] at hs hn
      rw [List.cons_append, List.append_assoc] at hs
      obtain ⟨h1, h2, _⟩ := drop_head hs
      unfold pathS
      have hst : Stops [47, 63] (slashL l ++ Q) := by
        cases l with
        | nil =>
          rcases hQ with e | ⟨r, e⟩
          · exact .inl (by rw [e]; rfl)
          · exact .inr ⟨63, r, by rw [e]; rfl, by decide⟩
        | cons u l => exact .inr ⟨47, escL u ++ slashL l ++ Q, rfl, by decide⟩
      rw [if_pos h1, partS_esc ends_a hst h2 (ht t (by simp))]
      simp only
      simp only [List.length_cons, List.length_append] at hn
      obtain ⟨k, hk, hd⟩ := pathS_esc hQ l n (i + 1 + (escL t).length) (acc ++ [t]) (fun u hu => ht u (by simp [hu])) (drop_more h2) (by omega)
      exact ⟨k, by rw [hk]; simp, hd⟩
theorem paramS_esc {s rest : List UInt8} {p : ByteArray × ByteArray} {i : Nat} (h1 : SoundT p.1) (h2 : SoundT p.2) (hR : rest = [] ∨ ∃ r, rest = 38 :: r) (hs : s.drop i = parmL p ++ rest) : paramS s i = .inr (p, i + (parmL p).length) := by
  unfold parmL at hs ⊢
  rw [List.append_assoc, List.cons_append] at hs
  unfold paramS
  rw [partS_esc ends_b (.inr ⟨61, escL p.2 ++ rest, rfl, by decide⟩) hs h1]
  simp only
  obtain ⟨e1, e2, _⟩ := drop_head (drop_more hs)
  have hst : Stops [38] rest := by
    rcases hR with e | ⟨r, e⟩
    · exact .inl e
    · exact .inr ⟨38, r, e, by decide⟩
  rw [if_pos e1, partS_esc ends_c hst e2 h2]
  simp only [List.length_append, List.length_cons]
  rw [show i + (escL p.1).length + 1 + (escL p.2).length = i + ((escL p.1).length + ((escL p.2).length + 1)) by omega]
def ampL (l : List (ByteArray × ByteArray)) : List UInt8 := l.flatMap fun q => 38 :: parmL q
theorem queryS_esc {s : List UInt8} : ∀ (l : List (ByteArray × ByteArray)) (p : ByteArray × ByteArray) (n i : Nat) (acc : List (ByteArray × ByteArray)), SoundT p.1 → SoundT p.2 → (∀ t ∈ l, SoundT t.1 ∧ SoundT t.2) → s.drop i = parmL p ++ ampL l → (parmL p ++ ampL l).length < n → queryS s n i acc = .inr (acc ++ p :: l)
  | [], p, n, i, acc, h1, h2, _, hs, hn => by
    cases n with
    | zero => cases hn
    | succ n =>
      unfold queryS
      rw [paramS_esc h1 h2 (.inl rfl) hs]
      simp only
      have hd : s.drop (i + (parmL p).length) = [] := drop_more hs
      rw [if_neg (by rw [List.getElem?_eq_none (List.drop_eq_nil_iff.1 hd)]; simp)]
  | q :: l, p, n, i, acc, h1, h2, h3, hs, hn => by
    cases n with
    | zero => cases hn
    | succ n =>
      unfold queryS
      rw [paramS_esc h1 h2 (.inr ⟨_, rfl⟩) hs]
      simp only
      have hd : s.drop (i + (parmL p).length) = 38 :: (parmL q ++ ampL l) := drop_more hs
      obtain ⟨e1, e2, _⟩ := drop_head hd
      rw [if_pos e1, queryS_esc l q n _ (acc ++ [p]) (h3 q (by simp)).1 (h3 q (by simp)).2 (fun t ht => h3 t (by simp [ht])) e2 (by
        have e : ampL (q :: l) = 38 :: (parmL q ++ ampL l) := rfl
        rw [e] at hn
        simp only [List.length_append, List.length_cons] at hn ⊢
        omega)]
      simp
/-- Parts come back from their target. -/
theorem split_join {path : List ByteArray} {query : List (ByteArray × ByteArray)} (h0 : path ≠ []) (h1 : ∀ t ∈ path, SoundT t) (h2 : ∀ t ∈ query, SoundT t.1 ∧ SoundT t.2) : splitS (joinS path query) = .inr (path, query) := by
  have hj : joinS path query = slashL path ++ queryL query := by
    cases path with
    | nil => exact absurd rfl h0
    | cons p r => unfold joinS pathL slashL; simp
  have hQ : queryL query = [] ∨ ∃ r, queryL query = 63 :: r := by
    cases query with
    | nil => exact .inl rfl
    | cons p r => exact .inr ⟨_, rfl⟩
  generalize hs : joinS path query = s at hj
  unfold splitS
  obtain ⟨k, hk, hd⟩ := pathS_esc (s := s) hQ path (s.length + 1) 0 [] h1 hj (by rw [hj, List.length_append]; omega)
  rw [hk, List.nil_append]
  cases path with
  | nil => exact absurd rfl h0
  | cons p r =>
    simp only
    cases query with
    | nil =>
      have : s[k]? = none := List.getElem?_eq_none (List.drop_eq_nil_iff.1 hd)
      rw [if_pos (.inl (by rw [this]; simp))]
    | cons q l =>
      have hd2 : s.drop k = 63 :: (parmL q ++ ampL l) := hd
      obtain ⟨e1, e2, e3⟩ := drop_head hd2
      have hlen := congrArg List.length e2
      have hpos : 0 < (parmL q).length := by unfold parmL; rw [List.length_append, List.length_cons]; omega
      rw [List.length_drop, List.length_append] at hlen
      rw [if_neg (by
        rintro (h | h)
        · exact h e1
        · omega), queryS_esc l q (s.length + 1) (k + 1) [] (h2 q (by simp)).1 (h2 q (by simp)).2 (fun t ht => h2 t (by simp [ht])) e2 (by rw [List.length_append]; omega)]
      simp
end Go.Proofs.YtbehakabglegjaaGreatDoor
