/- Layer 9: a text as it stands in a target, by the document. -/
import Derived.Test.YtbehakabglegjaaGreatDoorQ27
import Derived.Test.YtbehakabglegjaaGreatDoorQ28
import Derived.Test.YtbehakabglegjaaGreatDoorQ21
namespace Go.Proofs.YtbehakabglegjaaGreatDoor
open Go.RowKit Go.PlainAid
set_option linter.unusedVariables false
set_option linter.unusedSimpArgs false
theorem op_app_rowM {o : Oper} {a : Act} {w : World} {Q : Exit → Act → World → Prop} {K : Act → World → Prop} (s x : Operand) (t : TypeId) (ho : o.op = .call { callee := .builtin .append, args := #[s, x], argTypes := #[t, t] }) (ht : Tryz.prog.underlying t = some (.slice 5)) {base : Nat} {v : Value} {l : List UInt8} (hs : a.eval s = v) (h : OwnM w base v l) {x0 : Value} {m : List UInt8} (hx : a.eval x = x0) (hb : BtAt w x0 m) (hl : l.length + m.length ≤ 140737488355328) (hbase : base ≤ w.heap.size)
    (hQ : ∀ v' w', OwnM w' base v' (l ++ m) → KB base w w' → K (a.put o.dst v') w') : o.wp Tryz.prog a w K Q := by
  obtain ⟨v', w', hr, h2, h3⟩ := run_app_rowM base t o.type ht v l h x0 m hb hl hbase
  generalize hP : Tryz.prog = P at *
  unfold Oper.wp execOp
  simp only [ho, resolve, invoke, builtin, Sem.run_bind, Sem.run_pure, Result.andThen_ok, List.map_toArray, List.map_cons, List.map_nil, hs, hx, hr]
  exact hQ v' w' h2 h3
theorem bt_ibox {w : World} {g c : Nat} {l : List UInt8} (h : IBox w g 5 (bytesA l)) : BtAt w (.slice (some ⟨g, 0, none⟩) l.length c) l := bt_box ⟨(0, 0), h⟩
theorem u8_three (a b c : Int) : Instr.fill (fun i => some (i * 1, 1)) ((Array.range (3 * 1)).map ((Value.int .u8 0).cells[· % (Value.int .u8 0).cells.size]!)) [(0, .int .u8 a), (1, .int .u8 b), (2, .int .u8 c)] = some #[.int .u8 a, .int .u8 b, .int .u8 c] := by kernel_rfl
def marks8 : ByteArray := ⟨#[45, 46, 95, 126, 33, 36, 58, 64]⟩
def digs16 : ByteArray := ⟨#[48, 49, 50, 51, 52, 53, 54, 55, 56, 57, 65, 66, 67, 68, 69, 70]⟩
theorem digs_tab : ∀ n : Fin 16, digs16.data.toList[n.val]? = some (digU n.val) := by decide +kernel
theorem esc_tab2 : ∀ n : Fin 256, let c := UInt8.ofNat n.val
    escB c = if (isLetB c || isDgB c) || marks8.data.toList.contains c then [c] else [37, digU (c.toNat / 16), digU (c.toNat % 16)] := by decide +kernel
theorem esc_is (c : UInt8) : escB c = if (isLetB c || isDgB c) || marks8.data.toList.contains c then [c] else [37, digU (c.toNat / 16), digU (c.toNat % 16)] := by
  have h := esc_tab2 ⟨c.toNat, c.toNat_lt⟩
  simp only [UInt8.ofNat_toNat] at h
  exact h
set_option maxRecDepth 100000 in
set_option maxHeartbeats 16000000 in
theorem rescaped_any {s : ByteArray} {w : World} (hs : s.size ≤ 1099511627776) : Calls Tryz.prog 53 #[.string s] w fun e w' => e = .returned (.string (txt (escL s))) ∧ Below w.heap.size w w' := by
  have hbs := get_bt s
  have HS := Lib.hid hs
  have HBL := Lib.hid (bl_len s)
  obtain ⟨ie, hie1, hie2, hie3, hie4⟩ := u8_info
  obtain ⟨ms, hms⟩ : ∃ ms, ms = marks8 := ⟨_, rfl⟩
  obtain ⟨dg, hdg⟩ : ∃ dg, dg = digs16 := ⟨_, rfl⟩
  have hm1 : (⟨#[45, 46, 95, 126, 33, 36, 58, 64]⟩ : ByteArray) = ms := hms.symm
  have hm2 : (⟨#[48, 49, 50, 51, 52, 53, 54, 55, 56, 57, 65, 66, 67, 68, 69, 70]⟩ : ByteArray) = dg := hdg.symm
  have HMS : Hid (ms.size = 8) := Lib.hid (by rw [hms]; rfl)
  have HDG : Hid (dg.size = 16) := Lib.hid (by rw [hdg]; rfl)
  have HDT : Hid (∀ n, n < 16 → dg.data.toList[n]? = some (digU n)) := Lib.hid (fun n hn => by rw [hdg]; exact digs_tab ⟨n, hn⟩)
  have HESC : Hid (∀ c, escB c = if (isLetB c || isDgB c) || ms.data.toList.contains c then [c] else [37, digU (c.toNat / 16), digU (c.toNat % 16)]) := Lib.hid (fun c => by rw [hms]; exact esc_is c)
  have hbm := get_bt ms
  have hbd := get_bt dg
  clear hs hms hdg
  go_enter Tryz.func53, Tryz.ntmps53
  rw [hm1, hm2]
  clear hm1 hm2
  go_wp2
  go_loopw [4, 3, 5, 6, 7, 8, 9, 10] (fun iv bv _ _ _ _ _ _ wr => ∃ i : Nat, iv = .int .i64 (i : Int) ∧ i ≤ s.size ∧ OwnM wr w.heap.size bv (((bl s).take i).flatMap escB) ∧ Below w.heap.size w wr) (fun iv _ _ _ _ _ _ _ _ => match iv with | .int _ i => s.size - i.toNat | _ => 0)
  case atStart => exact ⟨0, rfl, Nat.zero_le _, .inl (OwnB.nil _ _), Below.refl _ _⟩
  case round =>
    obtain ⟨i, rfl, hi, HO, HB⟩ := hrel
    have hs := HS.out
    by_cases hlt : i < s.size
    · obtain ⟨c, hc⟩ : ∃ c, (bl s)[i]? = some c := ⟨_, List.getElem?_eq_getElem (show i < (bl s).length by have := HBL.out; omega)⟩
      have hcb := bt_at hc
      have HN := Lib.hid (esc_take hc)
      have hal : (((bl s).take i).flatMap escB).length ≤ 3 * i := by
        have h := esc_len ((bl s).take i)
        rw [List.length_take] at h
        omega
      generalize ((bl s).take i).flatMap escB = acc at HO HN hal
      have HE := Lib.hid (HESC.out c)
      have HLE : Hid (∀ wx, Calls Tryz.prog 91 #[.int .u8 (c.toNat : Int)] wx fun e w' => e = .returned (.bool (isLetB c)) ∧ wx = w') := Lib.hid (fun wx => rlet_any c wx)
      have HDI : Hid (∀ wx, Calls Tryz.prog 92 #[.int .u8 (c.toNat : Int)] wx fun e w' => e = .returned (.bool (isDgB c)) ∧ wx = w') := Lib.hid (fun wx => rdig_any c wx)
      generalize isLetB c = lt at HE HLE
      generalize isDgB c = dgt at HE HDI
      clear hc
      obtain ⟨e0, he0⟩ : ∃ e0, e0 = (lt || dgt) := ⟨_, rfl⟩
      rw [← he0] at HE
      have HE0 := Lib.hid he0
      clear he0
      cases lt <;> cases dgt
      · have he : e0 = false := HE0.out
        subst he
        clear HE0
        go_wp2_with (first
          | (go_at_call 91; (with_reducible refine (HLE.out _).mono ?_); rintro e w3 ⟨rfl, rfl⟩)
          | (go_at_call 92; (with_reducible refine (HDI.out _).mono ?_); rintro e w4 ⟨rfl, rfl⟩))
        go_loopw [10, 9] (fun jv ev wx => ∃ j : Nat, jv = .int .i64 (j : Int) ∧ j ≤ ms.size ∧ ev = .bool (false || (ms.data.toList.take j).contains c) ∧ wx = wr) (fun jv _ _ => match jv with | .int _ j => ms.size - j.toNat | _ => 0)
        case atStart => exact ⟨0, rfl, Nat.zero_le _, by simp, rfl⟩
        case round =>
          obtain ⟨j, rfl, hj, rfl, rfl⟩ := hrel
          have hsz := HMS.out
          generalize hok : (false || (ms.data.toList.take j).contains c) = okv
          by_cases hjt : j < ms.size
          · obtain ⟨d, hd⟩ : ∃ d, ms.data.toList[j]? = some d := ⟨_, List.getElem?_eq_getElem (show j < ms.data.toList.length from hjt)⟩
            have hdb := bt_at hd
            have HN2 : Hid ((false || (ms.data.toList.take (j + 1)).contains c) = (okv || d == c)) := Lib.hid (by rw [contains_next hd, ← Bool.or_assoc, hok])
            clear hd hok
            cases okv
            · by_cases hdc : d = c
              · subst hdc
                go_wp2
                go_roundw
                case rel => exact ⟨j + 1, rfl, by omega, (by rw [HN2.out]; simp), trivial⟩
                case measure => (simp only; omega)
              · have hne := byte_ne hdc
                have HD : Hid ((d == c) = false) := Lib.hid (by simpa using hdc)
                clear hdc
                go_wp2
                go_roundw
                case rel => exact ⟨j + 1, rfl, by omega, (by rw [HN2.out, HD.out]; rfl), trivial⟩
                case measure => (simp only; omega)
            · go_wp2
              go_roundw
              case rel => exact ⟨j + 1, rfl, by omega, (by rw [HN2.out]; rfl), trivial⟩
              case measure => (simp only; omega)
          · obtain rfl : j = ms.size := by omega
            rw [show ms.size = ms.data.toList.length from rfl, List.take_length] at hok
            have HOK := Lib.hid hok
            clear hok hjt hj
            cases okv
            · have HEV : Hid (escB c = [37, digU (c.toNat / 16), digU (c.toNat % 16)]) := Lib.hid (by rw [HE.out, HOK.out]; rfl)
              have hc8 := c.toNat_lt
              obtain ⟨hi, hhi⟩ : ∃ hi, hi = c.toNat / 16 := ⟨_, rfl⟩
              obtain ⟨lo, hlo⟩ : ∃ lo, lo = c.toNat % 16 := ⟨_, rfl⟩
              have hi16 : hi < 16 := by omega
              have lo16 : lo < 16 := by omega
              rw [← hhi, ← hlo] at HEV
              have q0 : (0 : Int) ≤ (c.toNat : Int) := by omega
              have QD : Hid (IntKind.u8.wrap (hi : Int) = (hi : Int)) := Lib.hid (by rw [IntKind.wrap_u8]; omega)
              have QD2 : Hid ((c.toNat : Int).tdiv 16 = (hi : Int)) := Lib.hid (by rw [Int.tdiv_eq_ediv_of_nonneg q0]; omega)
              have QM : Hid (IntKind.u8.wrap (lo : Int) = (lo : Int)) := Lib.hid (by rw [IntKind.wrap_u8]; omega)
              have QM2 : Hid ((c.toNat : Int).tmod 16 = (lo : Int)) := Lib.hid (by rw [Int.tmod_eq_emod_of_nonneg q0]; omega)
              have Q4 : Hid (bt dg hi = ((digU hi).toNat : Int)) := Lib.hid (bt_at (HDT.out hi hi16))
              have Q5 : Hid (hi < dg.size) := Lib.hid (by have := HDG.out; omega)
              have Q6 : Hid ((hi : Int) < (dg.size : Int)) := Lib.hid (by have := HDG.out; omega)
              have Q7 : Hid (bt dg lo = ((digU lo).toNat : Int)) := Lib.hid (bt_at (HDT.out lo lo16))
              have Q8 : Hid (lo < dg.size) := Lib.hid (by have := HDG.out; omega)
              have Q9 : Hid ((lo : Int) < (dg.size : Int)) := Lib.hid (by have := HDG.out; omega)
              clear hhi hlo q0
              go_wp2
              refine wp_region_S (S := fun _ => True) (by kernel_rfl) (fun w5 hh => trivial) (fun w5 hh hbb HS0 => ?_)
              have hb := hbb _ (Nat.le_refl _)
              replace HO := HO.below hb
              replace HB := HB.trans (hb.mono HB.size)
              clear hh hbb hb
              refine TKC 0 47 rfl ?_
              try simp only [Act.put, zA, zB, zC]
              refine TKC 1 48 rfl ?_
              try simp only [Act.put, zA, zB, zC]
              refine TKC 2 49 rfl ?_ (by (intro w hSw; (try dsimp only at hSw); have q1 := QD.out; have q2 := QD2.out; go_simp; try with_reducible rfl))
              try simp only [Act.put, zA, zB, zC]
              refine TKC 3 50 rfl ?_ (by (intro w hSw; (try dsimp only at hSw); have q1 : IntKind.i64.wrap ((hi : Nat) : Int) = ((hi : Nat) : Int) := (by rw [IntKind.wrap_i64]; omega); go_simp; try with_reducible rfl))
              try simp only [Act.put, zA, zB, zC]
              refine TKC 4 51 rfl ?_ (by (intro w hSw; (try dsimp only at hSw); have q1 := Q4.out; have q2 := Q5.out; have q3 := Q6.out; go_simp; try with_reducible rfl))
              try simp only [Act.put, zA, zB, zC]
              refine TKC 5 52 rfl ?_
              try simp only [Act.put, zA, zB, zC]
              refine TKC 6 53 rfl ?_ (by (intro w hSw; (try dsimp only at hSw); have q1 := QM.out; have q2 := QM2.out; go_simp; try with_reducible rfl))
              try simp only [Act.put, zA, zB, zC]
              refine TKC 7 54 rfl ?_ (by (intro w hSw; (try dsimp only at hSw); have q1 : IntKind.i64.wrap ((lo : Nat) : Int) = ((lo : Nat) : Int) := (by rw [IntKind.wrap_i64]; omega); go_simp; try with_reducible rfl))
              try simp only [Act.put, zA, zB, zC]
              refine TKC 8 55 rfl ?_ (by (intro w hSw; (try dsimp only at hSw); have q1 := Q7.out; have q2 := Q8.out; have q3 := Q9.out; go_simp; try with_reducible rfl))
              try simp only [Act.put, zA, zB, zC]
              refine wpAnyH_ready (rs := [9]) (by kernel_rfl) (by simp) ?_
              refine AllReadyH.cons (o := ⟨some 56, _, _, _, _, _⟩) rfl (fun K hK => ?_) AllReadyH.nil
              simp only [Region.wanted, if_true]
              refine op_slice_at 3 _ _ ie _ (by rw [hie3]; exact u8_three 37 ((digU hi).toNat : Int) ((digU lo).toNat : Int)) 23 5 _ rfl rfl Tryz.underlying23 hie1 hie2 (by rw [hie3]; decide) (by rw [hie3]; decide) ?_
              intro w10 hw
              have hb := hid_grow hw
              have BN : IBox w10 w5.heap.size 5 (bytesA [37, digU hi, digU lo]) := (hid_alloc hw).1
              replace HO := HO.below hb
              replace HB := HB.trans (hb.mono HB.size)
              clear hb hw
              refine hK.out _ _ HS0 (fun hS2 => ?_)
              clear hK K hS2
              try simp only [Act.put, zA, zB, zC]
              refine wpAnyH_ready (rs := [10]) (by kernel_rfl) (by simp) ?_
              refine AllReadyH.cons (o := ⟨some 57, _, _, _, _, _⟩) rfl (fun K hK => ?_) AllReadyH.nil
              simp only [Region.wanted, if_true]
              refine op_app_rowM _ _ 23 rfl Tryz.underlying23 rfl HO rfl (bt_ibox BN) (by show acc.length + 3 ≤ _; omega) HB.size ?_
              intro v11 w11 ho hk
              replace HO := ho
              replace HB := HB.trans hk.1
              clear ho hk BN
              refine hK.out _ _ HS0 (fun hS2 => ?_)
              clear hK K hS2
              try simp only [Act.put, zA, zB, zC]
              refine TKC 11 3 rfl ?_
              try simp only [Act.put, zA, zB, zC]
              refine wpAnyH_done (by kernel_rfl) ?_ _
              clear HS0
              go_wp2
              exact ⟨⟨i + 1, rfl, by omega, (by rw [HN.out, HEV.out]; exact HO), HB⟩, by (simp only; omega)⟩
            · have HEV : Hid (escB c = [c]) := Lib.hid (by rw [HE.out, HOK.out]; rfl)
              go_wp2_with (first
                | ((with_reducible refine is_slice ?_); refine wpl_u8 rfl (.tmp 44) rfl c rfl ?_; intro w1 hb B9; replace HO := HO.below hb; replace HB := HB.trans (hb.mono HB.size); clear hb)
                | ((with_reducible refine is_app (.tmp 43) (.tmp 45) ?_); refine wpl_app_rowM rfl (.tmp 43) (.tmp 45) 23 rfl Tryz.underlying23 rfl HO rfl (bt_ibox (l := [c]) B9) (by show acc.length + 1 ≤ _; omega) HB.size ?_; intro v3 w3 ho hk; replace HO := ho; replace HB := HB.trans hk.1; clear ho hk B9))
              exact ⟨⟨i + 1, rfl, by omega, (by rw [HN.out, HEV.out]; exact HO), HB⟩, by (simp only; omega)⟩
      · have he : e0 = true := HE0.out
        subst he
        clear HE0
        go_wp2_with (first
          | (go_at_call 91; (with_reducible refine (HLE.out _).mono ?_); rintro e w3 ⟨rfl, rfl⟩)
          | (go_at_call 92; (with_reducible refine (HDI.out _).mono ?_); rintro e w4 ⟨rfl, rfl⟩))
        go_loopw [10, 9] (fun jv ev wx => ∃ j : Nat, jv = .int .i64 (j : Int) ∧ j ≤ ms.size ∧ ev = .bool (true || (ms.data.toList.take j).contains c) ∧ wx = wr) (fun jv _ _ => match jv with | .int _ j => ms.size - j.toNat | _ => 0)
        case atStart => exact ⟨0, rfl, Nat.zero_le _, by simp, rfl⟩
        case round =>
          obtain ⟨j, rfl, hj, rfl, rfl⟩ := hrel
          have hsz := HMS.out
          generalize hok : (true || (ms.data.toList.take j).contains c) = okv
          by_cases hjt : j < ms.size
          · obtain ⟨d, hd⟩ : ∃ d, ms.data.toList[j]? = some d := ⟨_, List.getElem?_eq_getElem (show j < ms.data.toList.length from hjt)⟩
            have hdb := bt_at hd
            have HN2 : Hid ((true || (ms.data.toList.take (j + 1)).contains c) = (okv || d == c)) := Lib.hid (by rw [contains_next hd, ← Bool.or_assoc, hok])
            clear hd hok
            cases okv
            · by_cases hdc : d = c
              · subst hdc
                go_wp2
                go_roundw
                case rel => exact ⟨j + 1, rfl, by omega, (by rw [HN2.out]; simp), trivial⟩
                case measure => (simp only; omega)
              · have hne := byte_ne hdc
                have HD : Hid ((d == c) = false) := Lib.hid (by simpa using hdc)
                clear hdc
                go_wp2
                go_roundw
                case rel => exact ⟨j + 1, rfl, by omega, (by rw [HN2.out, HD.out]; rfl), trivial⟩
                case measure => (simp only; omega)
            · go_wp2
              go_roundw
              case rel => exact ⟨j + 1, rfl, by omega, (by rw [HN2.out]; rfl), trivial⟩
              case measure => (simp only; omega)
          · obtain rfl : j = ms.size := by omega
            rw [show ms.size = ms.data.toList.length from rfl, List.take_length] at hok
            have HOK := Lib.hid hok
            clear hok hjt hj
            cases okv
            · have HEV : Hid (escB c = [37, digU (c.toNat / 16), digU (c.toNat % 16)]) := Lib.hid (by rw [HE.out, HOK.out]; rfl)
              have hc8 := c.toNat_lt
              obtain ⟨hi, hhi⟩ : ∃ hi, hi = c.toNat / 16 := ⟨_, rfl⟩
              obtain ⟨lo, hlo⟩ : ∃ lo, lo = c.toNat % 16 := ⟨_, rfl⟩
              have hi16 : hi < 16 := by omega
              have lo16 : lo < 16 := by omega
              rw [← hhi, ← hlo] at HEV
              have q0 : (0 : Int) ≤ (c.toNat : Int) := by omega
              have QD : Hid (IntKind.u8.wrap (hi : Int) = (hi : Int)) := Lib.hid (by rw [IntKind.wrap_u8]; omega)
              have QD2 : Hid ((c.toNat : Int).tdiv 16 = (hi : Int)) := Lib.hid (by rw [Int.tdiv_eq_ediv_of_nonneg q0]; omega)
              have QM : Hid (IntKind.u8.wrap (lo : Int) = (lo : Int)) := Lib.hid (by rw [IntKind.wrap_u8]; omega)
              have QM2 : Hid ((c.toNat : Int).tmod 16 = (lo : Int)) := Lib.hid (by rw [Int.tmod_eq_emod_of_nonneg q0]; omega)
              have Q4 : Hid (bt dg hi = ((digU hi).toNat : Int)) := Lib.hid (bt_at (HDT.out hi hi16))
              have Q5 : Hid (hi < dg.size) := Lib.hid (by have := HDG.out; omega)
              have Q6 : Hid ((hi : Int) < (dg.size : Int)) := Lib.hid (by have := HDG.out; omega)
              have Q7 : Hid (bt dg lo = ((digU lo).toNat : Int)) := Lib.hid (bt_at (HDT.out lo lo16))
              have Q8 : Hid (lo < dg.size) := Lib.hid (by have := HDG.out; omega)
              have Q9 : Hid ((lo : Int) < (dg.size : Int)) := Lib.hid (by have := HDG.out; omega)
              clear hhi hlo q0
              go_wp2
              refine wp_region_S (S := fun _ => True) (by kernel_rfl) (fun w5 hh => trivial) (fun w5 hh hbb HS0 => ?_)
              have hb := hbb _ (Nat.le_refl _)
              replace HO := HO.below hb
              replace HB := HB.trans (hb.mono HB.size)
              clear hh hbb hb
              refine TKC 0 47 rfl ?_
              try simp only [Act.put, zA, zB, zC]
              refine TKC 1 48 rfl ?_
              try simp only [Act.put, zA, zB, zC]
              refine TKC 2 49 rfl ?_ (by (intro w hSw; (try dsimp only at hSw); have q1 := QD.out; have q2 := QD2.out; go_simp; try with_reducible rfl))
              try simp only [Act.put, zA, zB, zC]
              refine TKC 3 50 rfl ?_ (by (intro w hSw; (try dsimp only at hSw); have q1 : IntKind.i64.wrap ((hi : Nat) : Int) = ((hi : Nat) : Int) := (by rw [IntKind.wrap_i64]; omega); go_simp; try with_reducible rfl))
              try simp only [Act.put, zA, zB, zC]
              refine TKC 4 51 rfl ?_ (by (intro w hSw; (try dsimp only at hSw); have q1 := Q4.out; have q2 := Q5.out; have q3 := Q6.out; go_simp; try with_reducible rfl))
              try simp only [Act.put, zA, zB, zC]
              refine TKC 5 52 rfl ?_
              try simp only [Act.put, zA, zB, zC]
              refine TKC 6 53 rfl ?_ (by (intro w hSw; (try dsimp only at hSw); have q1 := QM.out; have q2 := QM2.out; go_simp; try with_reducible rfl))
              try simp only [Act.put, zA, zB, zC]
              refine TKC 7 54 rfl ?_ (by (intro w hSw; (try dsimp only at hSw); have q1 : IntKind.i64.wrap ((lo : Nat) : Int) = ((lo : Nat) : Int) := (by rw [IntKind.wrap_i64]; omega); go_simp; try with_reducible rfl))
              try simp only [Act.put, zA, zB, zC]
              refine TKC 8 55 rfl ?_ (by (intro w hSw; (try dsimp only at hSw); have q1 := Q7.out; have q2 := Q8.out; have q3 := Q9.out; go_simp; try with_reducible rfl))
              try simp only [Act.put, zA, zB, zC]
              refine wpAnyH_ready (rs := [9]) (by kernel_rfl) (by simp) ?_
              refine AllReadyH.cons (o := ⟨some 56, _, _, _, _, _⟩) rfl (fun K hK => ?_) AllReadyH.nil
              simp only [Region.wanted, if_true]
              refine op_slice_at 3 _ _ ie _ (by rw [hie3]; exact u8_three 37 ((digU hi).toNat : Int) ((digU lo).toNat : Int)) 23 5 _ rfl rfl Tryz.underlying23 hie1 hie2 (by rw [hie3]; decide) (by rw [hie3]; decide) ?_
              intro w10 hw
              have hb := hid_grow hw
              have BN : IBox w10 w5.heap.size 5 (bytesA [37, digU hi, digU lo]) := (hid_alloc hw).1
              replace HO := HO.below hb
              replace HB := HB.trans (hb.mono HB.size)
              clear hb hw
              refine hK.out _ _ HS0 (fun hS2 => ?_)
              clear hK K hS2
              try simp only [Act.put, zA, zB, zC]
              refine wpAnyH_ready (rs := [10]) (by kernel_rfl) (by simp) ?_
              refine AllReadyH.cons (o := ⟨some 57, _, _, _, _, _⟩) rfl (fun K hK => ?_) AllReadyH.nil
              simp only [Region.wanted, if_true]
              refine op_app_rowM _ _ 23 rfl Tryz.underlying23 rfl HO rfl (bt_ibox BN) (by show acc.length + 3 ≤ _; omega) HB.size ?_
              intro v11 w11 ho hk
              replace HO := ho
              replace HB := HB.trans hk.1
              clear ho hk BN
              refine hK.out _ _ HS0 (fun hS2 => ?_)
              clear hK K hS2
              try simp only [Act.put, zA, zB, zC]
              refine TKC 11 3 rfl ?_
              try simp only [Act.put, zA, zB, zC]
              refine wpAnyH_done (by kernel_rfl) ?_ _
              clear HS0
              go_wp2
              exact ⟨⟨i + 1, rfl, by omega, (by rw [HN.out, HEV.out]; exact HO), HB⟩, by (simp only; omega)⟩
            · have HEV : Hid (escB c = [c]) := Lib.hid (by rw [HE.out, HOK.out]; rfl)
              go_wp2_with (first
                | ((with_reducible refine is_slice ?_); refine wpl_u8 rfl (.tmp 44) rfl c rfl ?_; intro w1 hb B9; replace HO := HO.below hb; replace HB := HB.trans (hb.mono HB.size); clear hb)
                | ((with_reducible refine is_app (.tmp 43) (.tmp 45) ?_); refine wpl_app_rowM rfl (.tmp 43) (.tmp 45) 23 rfl Tryz.underlying23 rfl HO rfl (bt_ibox (l := [c]) B9) (by show acc.length + 1 ≤ _; omega) HB.size ?_; intro v3 w3 ho hk; replace HO := ho; replace HB := HB.trans hk.1; clear ho hk B9))
              exact ⟨⟨i + 1, rfl, by omega, (by rw [HN.out, HEV.out]; exact HO), HB⟩, by (simp only; omega)⟩
      · have he : e0 = true := HE0.out
        subst he
        clear HE0
        go_wp2_with (first
          | (go_at_call 91; (with_reducible refine (HLE.out _).mono ?_); rintro e w3 ⟨rfl, rfl⟩)
          | (go_at_call 92; (with_reducible refine (HDI.out _).mono ?_); rintro e w4 ⟨rfl, rfl⟩))
        go_loopw [10, 9] (fun jv ev wx => ∃ j : Nat, jv = .int .i64 (j : Int) ∧ j ≤ ms.size ∧ ev = .bool (true || (ms.data.toList.take j).contains c) ∧ wx = wr) (fun jv _ _ => match jv with | .int _ j => ms.size - j.toNat | _ => 0)
        case atStart => exact ⟨0, rfl, Nat.zero_le _, by simp, rfl⟩
        case round =>
          obtain ⟨j, rfl, hj, rfl, rfl⟩ := hrel
          have hsz := HMS.out
          generalize hok : (true || (ms.data.toList.take j).contains c) = okv
          by_cases hjt : j < ms.size
          · obtain ⟨d, hd⟩ : ∃ d, ms.data.toList[j]? = some d := ⟨_, List.getElem?_eq_getElem (show j < ms.data.toList.length from hjt)⟩
            have hdb := bt_at hd
            have HN2 : Hid ((true || (ms.data.toList.take (j + 1)).contains c) = (okv || d == c)) := Lib.hid (by rw [contains_next hd, ← Bool.or_assoc, hok])
            clear hd hok
            cases okv
            · by_cases hdc : d = c
              · subst hdc
                go_wp2
                go_roundw
                case rel => exact ⟨j + 1, rfl, by omega, (by rw [HN2.out]; simp), trivial⟩
                case measure => (simp only; omega)
              · have hne := byte_ne hdc
                have HD : Hid ((d == c) = false) := Lib.hid (by simpa using hdc)
                clear hdc
                go_wp2
                go_roundw
                case rel => exact ⟨j + 1, rfl, by omega, (by rw [HN2.out, HD.out]; rfl), trivial⟩
                case measure => (simp only; omega)
            · go_wp2
              go_roundw
              case rel => exact ⟨j + 1, rfl, by omega, (by rw [HN2.out]; rfl), trivial⟩
              case measure => (simp only; omega)
          · obtain rfl : j = ms.size := by omega
            rw [show ms.size = ms.data.toList.length from rfl, List.take_length] at hok
            have HOK := Lib.hid hok
            clear hok hjt hj
            cases okv
            · have HEV : Hid (escB c = [37, digU (c.toNat / 16), digU (c.toNat % 16)]) := Lib.hid (by rw [HE.out, HOK.out]; rfl)
              have hc8 := c.toNat_lt
              obtain ⟨hi, hhi⟩ : ∃ hi, hi = c.toNat / 16 := ⟨_, rfl⟩
              obtain ⟨lo, hlo⟩ : ∃ lo, lo = c.toNat % 16 := ⟨_, rfl⟩
              have hi16 : hi < 16 := by omega
              have lo16 : lo < 16 := by omega
              rw [← hhi, ← hlo] at HEV
              have q0 : (0 : Int) ≤ (c.toNat : Int) := by omega
              have QD : Hid (IntKind.u8.wrap (hi : Int) = (hi : Int)) := Lib.hid (by rw [IntKind.wrap_u8]; omega)
              have QD2 : Hid ((c.toNat : Int).tdiv 16 = (hi : Int)) := Lib.hid (by rw [Int.tdiv_eq_ediv_of_nonneg q0]; omega)
              have QM : Hid (IntKind.u8.wrap (lo : Int) = (lo : Int)) := Lib.hid (by rw [IntKind.wrap_u8]; omega)
              have QM2 : Hid ((c.toNat : Int).tmod 16 = (lo : Int)) := Lib.hid (by rw [Int.tmod_eq_emod_of_nonneg q0]; omega)
              have Q4 : Hid (bt dg hi = ((digU hi).toNat : Int)) := Lib.hid (bt_at (HDT.out hi hi16))
              have Q5 : Hid (hi < dg.size) := Lib.hid (by have := HDG.out; omega)
              have Q6 : Hid ((hi : Int) < (dg.size : Int)) := Lib.hid (by have := HDG.out; omega)
              have Q7 : Hid (bt dg lo = ((digU lo).toNat : Int)) := Lib.hid (bt_at (HDT.out lo lo16))
              have Q8 : Hid (lo < dg.size) := Lib.hid (by have := HDG.out; omega)
              have Q9 : Hid ((lo : Int) < (dg.size : Int)) := Lib.hid (by have := HDG.out; omega)
              clear hhi hlo q0
              go_wp2
              refine wp_region_S (S := fun _ => True) (by kernel_rfl) (fun w5 hh => trivial) (fun w5 hh hbb HS0 => ?_)
              have hb := hbb _ (Nat.le_refl _)
              replace HO := HO.below hb
              replace HB := HB.trans (hb.mono HB.size)
              clear hh hbb hb
              refine TKC 0 47 rfl ?_
              try simp only [Act.put, zA, zB, zC]
              refine TKC 1 48 rfl ?_
              try simp only [Act.put, zA, zB, zC]
              refine TKC 2 49 rfl ?_ (by (intro w hSw; (try dsimp only at hSw); have q1 := QD.out; have q2 := QD2.out; go_simp; try with_reducible rfl))
              try simp only [Act.put, zA, zB, zC]
              refine TKC 3 50 rfl ?_ (by (intro w hSw; (try dsimp only at hSw); have q1 : IntKind.i64.wrap ((hi : Nat) : Int) = ((hi : Nat) : Int) := (by rw [IntKind.wrap_i64]; omega); go_simp; try with_reducible rfl))
              try simp only [Act.put, zA, zB, zC]
              refine TKC 4 51 rfl ?_ (by (intro w hSw; (try dsimp only at hSw); have q1 := Q4.out; have q2 := Q5.out; have q3 := Q6.out; go_simp; try with_reducible rfl))
              try simp only [Act.put, zA, zB, zC]
              refine TKC 5 52 rfl ?_
              try simp only [Act.put, zA, zB, zC]
              refine TKC 6 53 rfl ?_ (by (intro w hSw; (try dsimp only at hSw); have q1 := QM.out; have q2 := QM2.out; go_simp; try with_reducible rfl))
              try simp only [Act.put, zA, zB, zC]
              refine TKC 7 54 rfl ?_ (by (intro w hSw; (try dsimp only at hSw); have q1 : IntKind.i64.wrap ((lo : Nat) : Int) = ((lo : Nat) : Int) := (by rw [IntKind.wrap_i64]; omega); go_simp; try with_reducible rfl))
              try simp only [Act.put, zA, zB, zC]
              refine TKC 8 55 rfl ?_ (by (intro w hSw; (try dsimp only at hSw); have q1 := Q7.out; have q2 := Q8.out; have q3 := Q9.out; go_simp; try with_reducible rfl))
              try simp only [Act.put, zA, zB, zC]
              refine wpAnyH_ready (rs := [9]) (by kernel_rfl) (by simp) ?_
              refine AllReadyH.cons (o := ⟨some 56, _, _, _, _, _⟩) rfl (fun K hK => ?_) AllReadyH.nil
              simp only [Region.wanted, if_true]
              refine op_slice_at 3 _ _ ie _ (by rw [hie3]; exact u8_three 37 ((digU hi).toNat : Int) ((digU lo).toNat : Int)) 23 5 _ rfl rfl Tryz.underlying23 hie1 hie2 (by rw [hie3]; decide) (by rw [hie3]; decide) ?_
              intro w10 hw
              have hb := hid_grow hw
              have BN : IBox w10 w5.heap.size 5 (bytesA [37, digU hi, digU lo]) := (hid_alloc hw).1
              replace HO := HO.below hb
              replace HB := HB.trans (hb.mono HB.size)
              clear hb hw
              refine hK.out _ _ HS0 (fun hS2 => ?_)
              clear hK K hS2
              try simp only [Act.put, zA, zB, zC]
              refine wpAnyH_ready (rs := [10]) (by kernel_rfl) (by simp) ?_
              refine AllReadyH.cons (o := ⟨some 57, _, _, _, _, _⟩) rfl (fun K hK => ?_) AllReadyH.nil
              simp only [Region.wanted, if_true]
              refine op_app_rowM _ _ 23 rfl Tryz.underlying23 rfl HO rfl (bt_ibox BN) (by show acc.length + 3 ≤ _; omega) HB.size ?_
              intro v11 w11 ho hk
              replace HO := ho
              replace HB := HB.trans hk.1
              clear ho hk BN
              refine hK.out _ _ HS0 (fun hS2 => ?_)
              clear hK K hS2
              try simp only [Act.put, zA, zB, zC]
              refine TKC 11 3 rfl ?_
              try simp only [Act.put, zA, zB, zC]
              refine wpAnyH_done (by kernel_rfl) ?_ _
              clear HS0
              go_wp2
              exact ⟨⟨i + 1, rfl, by omega, (by rw [HN.out, HEV.out]; exact HO), HB⟩, by (simp only; omega)⟩
            · have HEV : Hid (escB c = [c]) := Lib.hid (by rw [HE.out, HOK.out]; rfl)
              go_wp2_with (first
                | ((with_reducible refine is_slice ?_); refine wpl_u8 rfl (.tmp 44) rfl c rfl ?_; intro w1 hb B9; replace HO := HO.below hb; replace HB := HB.trans (hb.mono HB.size); clear hb)
                | ((with_reducible refine is_app (.tmp 43) (.tmp 45) ?_); refine wpl_app_rowM rfl (.tmp 43) (.tmp 45) 23 rfl Tryz.underlying23 rfl HO rfl (bt_ibox (l := [c]) B9) (by show acc.length + 1 ≤ _; omega) HB.size ?_; intro v3 w3 ho hk; replace HO := ho; replace HB := HB.trans hk.1; clear ho hk B9))
              exact ⟨⟨i + 1, rfl, by omega, (by rw [HN.out, HEV.out]; exact HO), HB⟩, by (simp only; omega)⟩
      · have he : e0 = true := HE0.out
        subst he
        clear HE0
        go_wp2_with (first
          | (go_at_call 91; (with_reducible refine (HLE.out _).mono ?_); rintro e w3 ⟨rfl, rfl⟩)
          | (go_at_call 92; (with_reducible refine (HDI.out _).mono ?_); rintro e w4 ⟨rfl, rfl⟩))
        go_loopw [10, 9] (fun jv ev wx => ∃ j : Nat, jv = .int .i64 (j : Int) ∧ j ≤ ms.size ∧ ev = .bool (true || (ms.data.toList.take j).contains c) ∧ wx = wr) (fun jv _ _ => match jv with | .int _ j => ms.size - j.toNat | _ => 0)
        case atStart => exact ⟨0, rfl, Nat.zero_le _, by simp, rfl⟩
        case round =>
          obtain ⟨j, rfl, hj, rfl, rfl⟩ := hrel
          have hsz := HMS.out
          generalize hok : (true || (ms.data.toList.take j).contains c) = okv
          by_cases hjt : j < ms.size
          · obtain ⟨d, hd⟩ : ∃ d, ms.data.toList[j]? = some d := ⟨_, List.getElem?_eq_getElem (show j < ms.data.toList.length from hjt)⟩
            have hdb := bt_at hd
            have HN2 : Hid ((true || (ms.data.toList.take (j + 1)).contains c) = (okv || d == c)) := Lib.hid (by rw [contains_next hd, ← Bool.or_assoc, hok])
            clear hd hok
            cases okv
            · by_cases hdc : d = c
              · subst hdc
                go_wp2
                go_roundw
                case rel => exact ⟨j + 1, rfl, by omega, (by rw [HN2.out]; simp), trivial⟩
                case measure => (simp only; omega)
              · have hne := byte_ne hdc
                have HD : Hid ((d == c) = false) := Lib.hid (by simpa using hdc)
                clear hdc
                go_wp2
                go_roundw
                case rel => exact ⟨j + 1, rfl, by omega, (by rw [HN2.out, HD.out]; rfl), trivial⟩
                case measure => (simp only; omega)
            · go_wp2
              go_roundw
              case rel => exact ⟨j + 1, rfl, by omega, (by rw [HN2.out]; rfl), trivial⟩
              case measure => (simp only; omega)
          · obtain rfl : j = ms.size := by omega
            rw [show ms.size = ms.data.toList.length from rfl, List.take_length] at hok
            have HOK := Lib.hid hok
            clear hok hjt hj
            cases okv
            · have HEV : Hid (escB c = [37, digU (c.toNat / 16), digU (c.toNat % 16)]) := Lib.hid (by rw [HE.out, HOK.out]; rfl)
              have hc8 := c.toNat_lt
              obtain ⟨hi, hhi⟩ : ∃ hi, hi = c.toNat / 16 := ⟨_, rfl⟩
              obtain ⟨lo, hlo⟩ : ∃ lo, lo = c.toNat % 16 := ⟨_, rfl⟩
              have hi16 : hi < 16 := by omega
              have lo16 : lo < 16 := by omega
              rw [← hhi, ← hlo] at HEV
              have q0 : (0 : Int) ≤ (c.toNat : Int) := by omega
              have QD : Hid (IntKind.u8.wrap (hi : Int) = (hi : Int)) := Lib.hid (by rw [IntKind.wrap_u8]; omega)
              have QD2 : Hid ((c.toNat : Int).tdiv 16 = (hi : Int)) := Lib.hid (by rw [Int.tdiv_eq_ediv_of_nonneg q0]; omega)
              have QM : Hid (IntKind.u8.wrap (lo : Int) = (lo : Int)) := Lib.hid (by rw [IntKind.wrap_u8]; omega)
              have QM2 : Hid ((c.toNat : Int).tmod 16 = (lo : Int)) := Lib.hid (by rw [Int.tmod_eq_emod_of_nonneg q0]; omega)
              have Q4 : Hid (bt dg hi = ((digU hi).toNat : Int)) := Lib.hid (bt_at (HDT.out hi hi16))
              have Q5 : Hid (hi < dg.size) := Lib.hid (by have := HDG.out; omega)
              have Q6 : Hid ((hi : Int) < (dg.size : Int)) := Lib.hid (by have := HDG.out; omega)
              have Q7 : Hid (bt dg lo = ((digU lo).toNat : Int)) := Lib.hid (bt_at (HDT.out lo lo16))
              have Q8 : Hid (lo < dg.size) := Lib.hid (by have := HDG.out; omega)
              have Q9 : Hid ((lo : Int) < (dg.size : Int)) := Lib.hid (by have := HDG.out; omega)
              clear hhi hlo q0
              go_wp2
              refine wp_region_S (S := fun _ => True) (by kernel_rfl) (fun w5 hh => trivial) (fun w5 hh hbb HS0 => ?_)
              have hb := hbb _ (Nat.le_refl _)
              replace HO := HO.below hb
              replace HB := HB.trans (hb.mono HB.size)
              clear hh hbb hb
              refine TKC 0 47 rfl ?_
              try simp only [Act.put, zA, zB, zC]
              refine TKC 1 48 rfl ?_
              try simp only [Act.put, zA, zB, zC]
              refine TKC 2 49 rfl ?_ (by (intro w hSw; (try dsimp only at hSw); have q1 := QD.out; have q2 := QD2.out; go_simp; try with_reducible rfl))
              try simp only [Act.put, zA, zB, zC]
              refine TKC 3 50 rfl ?_ (by (intro w hSw; (try dsimp only at hSw); have q1 : IntKind.i64.wrap ((hi : Nat) : Int) = ((hi : Nat) : Int) := (by rw [IntKind.wrap_i64]; omega); go_simp; try with_reducible rfl))
              try simp only [Act.put, zA, zB, zC]
              refine TKC 4 51 rfl ?_ (by (intro w hSw; (try dsimp only at hSw); have q1 := Q4.out; have q2 := Q5.out; have q3 := Q6.out; go_simp; try with_reducible rfl))
              try simp only [Act.put, zA, zB, zC]
              refine TKC 5 52 rfl ?_
              try simp only [Act.put, zA, zB, zC]
              refine TKC 6 53 rfl ?_ (by (intro w hSw; (try dsimp only at hSw); have q1 := QM.out; have q2 := QM2.out; go_simp; try with_reducible rfl))
              try simp only [Act.put, zA, zB, zC]
              refine TKC 7 54 rfl ?_ (by (intro w hSw; (try dsimp only at hSw); have q1 : IntKind.i64.wrap ((lo : Nat) : Int) = ((lo : Nat) : Int) := (by rw [IntKind.wrap_i64]; omega); go_simp; try with_reducible rfl))
              try simp only [Act.put, zA, zB, zC]
              refine TKC 8 55 rfl ?_ (by (intro w hSw; (try dsimp only at hSw); have q1 := Q7.out; have q2 := Q8.out; have q3 := Q9.out; go_simp; try with_reducible rfl))
              try simp only [Act.put, zA, zB, zC]
              refine wpAnyH_ready (rs := [9]) (by kernel_rfl) (by simp) ?_
              refine AllReadyH.cons (o := ⟨some 56, _, _, _, _, _⟩) rfl (fun K hK => ?_) AllReadyH.nil
              simp only [Region.wanted, if_true]
              refine op_slice_at 3 _ _ ie _ (by rw [hie3]; exact u8_three 37 ((digU hi).toNat : Int) ((digU lo).toNat : Int)) 23 5 _ rfl rfl Tryz.underlying23 hie1 hie2 (by rw [hie3]; decide) (by rw [hie3]; decide) ?_
              intro w10 hw
              have hb := hid_grow hw
              have BN : IBox w10 w5.heap.size 5 (bytesA [37, digU hi, digU lo]) := (hid_alloc hw).1
              replace HO := HO.below hb
              replace HB := HB.trans (hb.mono HB.size)
              clear hb hw
              refine hK.out _ _ HS0 (fun hS2 => ?_)
              clear hK K hS2
              try simp only [Act.put, zA, zB, zC]
              refine wpAnyH_ready (rs := [10]) (by kernel_rfl) (by simp) ?_
              refine AllReadyH.cons (o := ⟨some 57, _, _, _, _, _⟩) rfl (fun K hK => ?_) AllReadyH.nil
              simp only [Region.wanted, if_true]
              refine op_app_rowM _ _ 23 rfl Tryz.underlying23 rfl HO rfl (bt_ibox BN) (by show acc.length + 3 ≤ _; omega) HB.size ?_
              intro v11 w11 ho hk
              replace HO := ho
              replace HB := HB.trans hk.1
              clear ho hk BN
              refine hK.out _ _ HS0 (fun hS2 => ?_)
              clear hK K hS2
              try simp only [Act.put, zA, zB, zC]
              refine TKC 11 3 rfl ?_
              try simp only [Act.put, zA, zB, zC]
              refine wpAnyH_done (by kernel_rfl) ?_ _
              clear HS0
              go_wp2
              exact ⟨⟨i + 1, rfl, by omega, (by rw [HN.out, HEV.out]; exact HO), HB⟩, by (simp only; omega)⟩
            · have HEV : Hid (escB c = [c]) := Lib.hid (by rw [HE.out, HOK.out]; rfl)
              go_wp2_with (first
                | ((with_reducible refine is_slice ?_); refine wpl_u8 rfl (.tmp 44) rfl c rfl ?_; intro w1 hb B9; replace HO := HO.below hb; replace HB := HB.trans (hb.mono HB.size); clear hb)
                | ((with_reducible refine is_app (.tmp 43) (.tmp 45) ?_); refine wpl_app_rowM rfl (.tmp 43) (.tmp 45) 23 rfl Tryz.underlying23 rfl HO rfl (bt_ibox (l := [c]) B9) (by show acc.length + 1 ≤ _; omega) HB.size ?_; intro v3 w3 ho hk; replace HO := ho; replace HB := HB.trans hk.1; clear ho hk B9))
              exact ⟨⟨i + 1, rfl, by omega, (by rw [HN.out, HEV.out]; exact HO), HB⟩, by (simp only; omega)⟩
    · obtain rfl : i = s.size := by omega
      have HF : Hid (((bl s).take s.size).flatMap escB = escL s) := Lib.hid (by rw [← HBL.out, List.take_length]; rfl)
      rw [HF.out] at HO
      go_wp2_with ((with_reducible refine is_convert ?_); go_must (refine wpl_bt_text rfl (.tmp 58) rfl (OwnM.bt HO) rfl ?_))
      go_ret
      exact ⟨rfl, HB⟩
end Go.Proofs.YtbehakabglegjaaGreatDoor
