/- Layer 9: a target is cut: a part of it, walked. -/
import Derived.Test.YtbehakabglegjaaGreatDoorQ21
import Derived.Test.YtbehakabglegjaaGreatDoorQ17
import Derived.Test.YtbehakabglegjaaGreatDoorQZip
namespace Go.Proofs.YtbehakabglegjaaGreatDoor
open Go.RowKit Go.PlainAid
set_option linter.unusedVariables false
set_option linter.unusedSimpArgs false
theorem i64_small (n : Nat) (h : n < 9223372036854775808) : IntKind.i64.wrap (n : Int) = (n : Int) := by
  rw [IntKind.wrap_i64]
  omega
theorem hex_byte {a b : Int} (h1 : 0 ≤ a ∧ a ≤ 15) (h2 : 0 ≤ b ∧ b ≤ 15) : bits BinOp.or IntKind.i64 (wrap64 (a * 16)) b = a * 16 + b := or_16 (by omega) (by omega) (by omega) (by omega)
theorem byte_of {a b : Int} (h1 : 0 ≤ a ∧ a ≤ 15) (h2 : 0 ≤ b ∧ b ≤ 15) : ((UInt8.ofNat (a * 16 + b).toNat).toNat : Int) = a * 16 + b := by
  rw [UInt8.toNat_ofNat']
  omega
theorem byte_is {a b : Int} (h1 : 0 ≤ a ∧ a ≤ 15) (h2 : 0 ≤ b ∧ b ≤ 15) : ∃ bb : UInt8, bb = UInt8.ofNat (a * 16 + b).toNat ∧ IntKind.u8.wrap (bits BinOp.or IntKind.i64 (IntKind.i64.wrap (a * 16)) b) = (bb.toNat : Int) := by
  refine ⟨_, rfl, ?_⟩
  have e : IntKind.u8.wrap (a * 16 + b) = (a * 16 + b) % 256 := by simp [IntKind.wrap, IntKind.bits, IntKind.signed]
  have e2 := hex_byte h1 h2
  have e3 : IntKind.i64.wrap (a * 16) = wrap64 (a * 16) := by
    rw [IntKind.wrap_i64]
    unfold wrap64
    omega
  rw [byte_of h1 h2, e3, e2, e]
  omega
def ctPos (w : World) (g : Nat) : Nat := match w.cell? ⟨g, 1, none⟩ with
  | some (.int _ i) => i.toNat
  | _ => 0
theorem ctPos_of {w : World} {g : Nat} {s : ByteArray} {k : Nat} (h : CtM w g s k) : ctPos w g = k := by
  unfold ctPos
  rw [CtM.c1 h]
  simp
theorem zero_builder : (Tryz.prog.info? 96).map (fun i => (i.zero, i.size)) = some (some (.agg #[.pointer none, .slice none 0 0]), 2) := by kernel_rfl
theorem zeroB (w : World) : (zeroValue 96).run Tryz.prog w = .ok (.agg #[.pointer none, .slice none 0 0]) w := (Go.zero_of_info zero_builder).1 w
theorem isB_below {B b : Nat} {bs : List Value} {w w' : World} (h : IsB B b bs w) (hb : Below w.heap.size w w') : IsB B b bs w' := by
  have key : ∀ p, Lib.BuilderAtF 96 5 B b p bs w → Lib.BuilderAtF 96 5 B b p bs w' := fun p h => by
    have hlt := h.lt
    obtain ⟨hB, v, hbk, hown, hne⟩ := h
    exact ⟨hB, v, (hb.block b hlt).trans hbk, hown.kept (row := none) ⟨hb.os, hb.tape, hb.output, hb.size, fun k hk _ => hb.block k hk⟩ (by cases hv : v.ownBlock <;> simp), hne⟩
  exact h.elim (fun x => .inl (key _ x)) (fun x => .inr (key _ x))
set_option maxRecDepth 100000 in
set_option maxHeartbeats 16000000 in
theorem cut_any {base g kf : Nat} {s en : ByteArray} {w : World} (B : CtM w g s kf) (hk0 : kf ≤ s.size) (hs : s.size ≤ 1099511627776) (hw : Wh w base) (hbw : base ≤ w.heap.size) (hgb : base ≤ g) :
    Calls Tryz.prog 46 #[.pointer (some ⟨g, 0, none⟩), .string en] w fun e w' => Bes (· = g) w w' ∧ PcV g s (partS (bl en) (bl s) kf) e w' := by
  have HG := Lib.hid (IBox.lt B)
  have HW := Lib.hid hw
  have HGB := Lib.hid hgb
  have HBW := Lib.hid hbw
  have HS := Lib.hid hs
  have HB : Bes (· = g) w w := Bes.of_below (Below.refl _ _)
  have hpl := PL.start en s kf
  have hr : partS (bl en) (bl s) kf = (match partL (bl en) ((bl s).length + 1) ((bl s).drop kf) kf [] with
    | .inl e => .inl e
    | .inr (t, k) => if badI (txt t) < 0 then .inr (txt t, k) else .inl (7, kf)) := rfl
  generalize partL (bl en) ((bl s).length + 1) ((bl s).drop kf) kf [] = r at hpl hr
  have HR := Lib.hid hr
  have HPL := Lib.hid hpl
  clear hr hpl hw hbw hgb
  generalize partS (bl en) (bl s) kf = Q0 at HR
  have hbs := get_bt s
  have c1 := (CtM.c1 B)
  go_enter Tryz.func46, Tryz.ntmps46
  go_wp2_with (first
    | ((with_reducible refine is_alloc ?_); refine wpl_alloc_at rfl 96 rfl _ zeroB ?_; intro w1 hw; have HI0 := Lib.IsBuilderF.of (Lib.fresh_isBuilder 96 5 w); have hwo := hw.out; rw [← hwo] at HI0; have HI : IsB w.heap.size w.heap.size (Lib.byteCells []) w1 := HI0; clear hwo HI0; have hb := hid_grow hw; replace B := zI B hb; replace HB := HB.low hb HB.size; clear hb hw c1))
  simp only [Act.put, zA, zB, zC]
  go_loopw [] (fun wr => ∃ (k : Nat) (acc : List UInt8), k ≤ s.size ∧ acc.length ≤ k ∧ CtM wr g s k ∧ IsB w.heap.size w.heap.size (Lib.byteCells acc) wr ∧ Bes (· = g) w wr ∧ Hid (PL en s k acc r)) (fun wr => s.size - ctPos wr g)
  case atStart => exact ⟨kf, [], hk0, Nat.zero_le _, B, HI, HB, HPL⟩
  case round =>
    clear HB B HI HPL hk0
    obtain ⟨k, acc, hks, hac, B, HI, HB, HPL⟩ := hrel
    have B0 := Lib.hid B
    have HL : Hid (acc.length ≤ 1099511627776) := Lib.hid (by omega)
    have c0 := (CtM.c0 B)
    have c1 := (CtM.c1 B)
    by_cases hlt : k < s.size
    · obtain ⟨c, hc⟩ : ∃ c, (bl s)[k]? = some c := ⟨_, List.getElem?_eq_getElem (show k < (bl s).length from hlt)⟩
      have hcb := bt_in hc
      have hi : (k : Int) < (s.size : Int) := by omega
      have hix := ix_has (bl en) c
      have HX : Hid (∀ w, Calls Tryz.prog 58 #[.string en, .int .u8 (c.toNat : Int)] w fun e w' => e = .returned (.int .i64 (Lib.indexByte (bl en) c)) ∧ w = w') := Lib.hid (fun w => (ix_any en c w).mono fun e w' h => ⟨h.1, h.2.symm⟩)
      generalize Lib.indexByte (bl en) c = ix at HX hix
      cases hcon : (bl en).contains c
      · have hx : ix < 0 := by
          have := hix.1
          rw [hcon] at this
          simp at this
          omega
        clear hix
        have hcn := c.toNat_lt
        by_cases hbad : (c.toNat < 33 ∨ 126 < c.toNat) ∨ c.toNat = 35
        · have HF := Lib.hid (HPL.out.bad hc hcon hbad)
          clear hcon hc
          rcases hbad with (b1 | b1) | b1
          all_goals
            first
              | (have n1 : (c.toNat : Int) < 33 := by omega)
              | (have n1 : ¬ (c.toNat : Int) < 33 := (by omega); have n2 : 126 < (c.toNat : Int) := by omega)
              | (have n1 : ¬ (c.toNat : Int) < 33 := (by omega); have n2 : ¬ 126 < (c.toNat : Int) := (by omega); have n3 : ((c.toNat : Int) == 35) = true := by rw [beq_iff_eq]; omega)
            clear b1
            go_wp2
            refine wp_region_S (S := fun w' => w'.cell? ⟨g, 0, none⟩ = some (.string s) ∧ w'.cell? ⟨g, 1, none⟩ = some (.int .i64 (k : Int))) (by kernel_rfl) (fun w2 hh => ⟨CtM.c0 (box_heap hh B), CtM.c1 (box_heap hh B)⟩) (fun w2 hh hbb HS0 => ?_)
            replace HB := HB.low (hbb _ (Nat.le_refl _)) HB.size
            replace HI := isB_heap hh HI
            replace B := box_heap hh B
            clear hh hbb c0 c1
            refine TKC 0 13 rfl ?_
            try simp only [Act.put, zA, zB, zC]
            refine TKC 1 14 rfl ?_
            try simp only [Act.put, zA, zB, zC]
            refine TKC 2 15 rfl ?_
            try simp only [Act.put, zA, zB, zC]
            refine TKC 3 16 rfl ?_ (by (intro w hSw; (try dsimp only at hSw); have q1 := hSw.2; go_simp; try with_reducible rfl))
            try simp only [Act.put, zA, zB, zC]
            refine TKC 4 17 rfl ?_
            try simp only [Act.put, zA, zB, zC]
            refine TKC 5 18 rfl ?_
            try simp only [Act.put, zA, zB, zC]
            refine TKC 6 19 rfl ?_
            try simp only [Act.put, zA, zB, zC]
            refine TKC 7 20 rfl ?_ (by (intro w hSw; (try dsimp only at hSw); have q1 := hSw.1; go_simp; try with_reducible rfl))
            try simp only [Act.put, zA, zB, zC]
            refine TKC 8 21 rfl ?_
            try simp only [Act.put, zA, zB, zC]
            refine TKC 9 22 (v := .bool true) rfl ?_
            try simp only [Act.put, zA, zB, zC]
            refine TKC 10 23 rfl ?_
            try simp only [Act.put, zA, zB, zC]
            refine TKC 11 24 rfl ?_
            try simp only [Act.put, zA, zB, zC]
            refine TKC 12 25 rfl ?_
            try simp only [Act.put, zA, zB, zC]
            refine TKC 13 26 rfl ?_
            try simp only [Act.put, zA, zB, zC]
            refine TKC 14 27 rfl ?_
            try simp only [Act.put, zA, zB, zC]
            refine TKC 15 28 rfl ?_ (by (intro w hSw; (try dsimp only at hSw); have q1 := hSw.1; go_simp; try with_reducible rfl))
            try simp only [Act.put, zA, zB, zC]
            refine TKC 16 29 rfl ?_
            try simp only [Act.put, zA, zB, zC]
            refine TKC 17 30 rfl ?_
            try simp only [Act.put, zA, zB, zC]
            refine TKC 18 31 rfl ?_
            try simp only [Act.put, zA, zB, zC]
            refine TKC 19 32 rfl ?_ (by (intro w hSw; (try dsimp only at hSw); have q1 := hSw.2; go_simp; try with_reducible rfl))
            try simp only [Act.put, zA, zB, zC]
            refine TKC 20 33 (v := .int .u8 (c.toNat : Int)) rfl ?_
            try simp only [Act.put, zA, zB, zC]
            refine wpAnyH_ready (rs := [21]) (by kernel_rfl) (by simp) ?_
            refine AllReadyH.cons (o := ⟨some 34, _, _, _, _, _⟩) rfl (fun K hK => ?_) AllReadyH.nil
            go_simp
            (go_at_call 58; (with_reducible refine (HX.out _).mono ?_); rintro e w3 ⟨rfl, rfl⟩)
            refine hK.out _ _ HS0 (fun hS2 => ?_)
            clear hK K hS2
            try simp only [Act.put, zA, zB, zC]
            refine TKC 22 35 (v := .bool true) rfl ?_
            try simp only [Act.put, zA, zB, zC]
            refine TKC 23 36 (v := .bool true) rfl ?_
            try simp only [Act.put, zA, zB, zC]
            refine wpAnyH_done (by kernel_rfl) ?_ _
            have c0 := HS0.1
            have c1 := HS0.2
            clear HS0
            go_wp2
            refine wp_region_S (S := fun w' => w'.cell? ⟨g, 0, none⟩ = some (.string s) ∧ w'.cell? ⟨g, 1, none⟩ = some (.int .i64 (k : Int))) (by kernel_rfl) (fun w2 hh => ⟨CtM.c0 (box_heap hh B), CtM.c1 (box_heap hh B)⟩) (fun w2 hh hbb HS0 => ?_)
            replace HB := HB.low (hbb _ (Nat.le_refl _)) HB.size
            replace HI := isB_heap hh HI
            replace B := box_heap hh B
            clear hh hbb c0 c1
            refine TKC 0 37 rfl ?_
            try simp only [Act.put, zA, zB, zC]
            refine TKC 1 38 rfl ?_
            try simp only [Act.put, zA, zB, zC]
            refine TKC 2 39 rfl ?_
            try simp only [Act.put, zA, zB, zC]
            refine TKC 3 40 rfl ?_ (by (intro w hSw; (try dsimp only at hSw); have q1 := hSw.1; go_simp; try with_reducible rfl))
            try simp only [Act.put, zA, zB, zC]
            refine TKC 4 41 rfl ?_
            try simp only [Act.put, zA, zB, zC]
            refine TKC 5 42 rfl ?_
            try simp only [Act.put, zA, zB, zC]
            refine TKC 6 43 rfl ?_
            try simp only [Act.put, zA, zB, zC]
            refine TKC 7 44 rfl ?_ (by (intro w hSw; (try dsimp only at hSw); have q1 := hSw.2; go_simp; try with_reducible rfl))
            try simp only [Act.put, zA, zB, zC]
            refine TKC 8 45 (v := .int .u8 (c.toNat : Int)) rfl ?_
            try simp only [Act.put, zA, zB, zC]
            refine TKC 9 8 rfl ?_
            try simp only [Act.put, zA, zB, zC]
            refine wpAnyH_done (by kernel_rfl) ?_ _
            have c0 := HS0.1
            have c1 := HS0.2
            clear HS0
            go_wp2
            refine wp_region_S (S := fun w' => w'.cell? ⟨g, 0, none⟩ = some (.string s) ∧ w'.cell? ⟨g, 1, none⟩ = some (.int .i64 (k : Int))) (by kernel_rfl) (fun w2 hh => ⟨CtM.c0 (box_heap hh B), CtM.c1 (box_heap hh B)⟩) (fun w2 hh hbb HS0 => ?_)
            replace HB := HB.low (hbb _ (Nat.le_refl _)) HB.size
            replace HI := isB_heap hh HI
            replace B := box_heap hh B
            clear hh hbb c0 c1
            refine TKC 0 66 rfl ?_
            try simp only [Act.put, zA, zB, zC]
            refine TKC 1 67 rfl ?_
            try simp only [Act.put, zA, zB, zC]
            refine TKC 2 68 rfl ?_
            try simp only [Act.put, zA, zB, zC]
            refine TKC 3 69 rfl ?_ (by (intro w hSw; (try dsimp only at hSw); have q1 := hSw.2; go_simp; try with_reducible rfl))
            try simp only [Act.put, zA, zB, zC]
            refine TKC 4 70 rfl ?_
            try simp only [Act.put, zA, zB, zC]
            refine TKC 8 4 rfl ?_
            try simp only [Act.put, zA, zB, zC]
            refine TKY 5 71 rfl (yields_bld (vals := [(0, .int .i64 (k : Int)), (1, .iface 31 (.int .i64 3))]) (by kernel_rfl) (fault_build (k : Int) 3) _ rfl rfl) ?_
            try simp only [Act.put, zA, zB, zC]
            refine wpAnyH_ready (rs := [6]) (by kernel_rfl) (by simp) ?_
            refine AllReadyH.cons (o := ⟨some 72, _, _, _, _, _⟩) rfl (fun K hK => ?_) AllReadyH.nil
            simp only [Region.wanted, if_true]
            refine op_box_at 85 _ rfl (FaultA (k : Int) 3) rfl ?_
            intro w10 hw
            have hb := hid_grow hw
            have BF := (hid_alloc hw).1
            replace B := zI B hb
            replace HB := HB.low hb HB.size
            clear hb hw
            replace HS0 : w10.cell? ⟨g, 0, none⟩ = some (.string s) ∧ w10.cell? ⟨g, 1, none⟩ = some (.int .i64 (k : Int)) := ⟨(CtM.c0 B), (CtM.c1 B)⟩
            refine hK.out _ _ HS0 (fun hS2 => ?_)
            clear hK K hS2
            try simp only [Act.put, zA, zB, zC]
            refine TKC 7 73 rfl ?_
            try simp only [Act.put, zA, zB, zC]
            refine TKC 9 5 rfl ?_
            try simp only [Act.put, zA, zB, zC]
            refine wpAnyH_done (by kernel_rfl) ?_ _
            clear HS0
            go_wp2
            go_ret2
            exact ⟨HB, by rw [HR.out, HF.out]; exact ⟨_, rfl, _, rfl, BF⟩⟩
        · by_cases h37 : c.toNat = 37
          · have wk1 : IntKind.i64.wrap ((k : Int) + 1) = (k : Int) + 1 := i64_small (k + 1) (by have := HS.out; omega)
            have wk2 : IntKind.i64.wrap ((k : Int) + 2) = (k : Int) + 2 := i64_small (k + 2) (by have := HS.out; omega)
            have tn1 : ((k : Int) + 1).toNat = k + 1 := by omega
            have tn2 : ((k : Int) + 2).toNat = k + 2 := by omega
            have p1 : 0 ≤ (k : Int) + 1 := by omega
            have p2 : 0 ≤ (k : Int) + 2 := by omega
            by_cases hnear : s.size ≤ k + 2
            · have HF := Lib.hid (HPL.out.near hc hcon h37 hnear)
              have m1 : (s.size : Int) ≤ (k : Int) + 2 := by omega
              clear hnear
              have n1 : ¬ (c.toNat : Int) < 33 := by omega
              have n2 : ¬ 126 < (c.toNat : Int) := by omega
              have n3 : ((c.toNat : Int) == 35) = false := by rw [beq_eq_false_iff_ne]; omega
              have n4 : ((c.toNat : Int) == 37) = true := by rw [beq_iff_eq]; omega
              clear hcon hc hbad h37
              go_wp2
              refine wp_region_S (S := fun w' => w'.cell? ⟨g, 0, none⟩ = some (.string s) ∧ w'.cell? ⟨g, 1, none⟩ = some (.int .i64 (k : Int))) (by kernel_rfl) (fun w2 hh => ⟨CtM.c0 (box_heap hh B), CtM.c1 (box_heap hh B)⟩) (fun w2 hh hbb HS0 => ?_)
              replace HB := HB.low (hbb _ (Nat.le_refl _)) HB.size
              replace HI := isB_heap hh HI
              replace B := box_heap hh B
              clear hh hbb c0 c1
              refine TKC 0 13 rfl ?_
              try simp only [Act.put, zA, zB, zC]
              refine TKC 1 14 rfl ?_
              try simp only [Act.put, zA, zB, zC]
              refine TKC 2 15 rfl ?_
              try simp only [Act.put, zA, zB, zC]
              refine TKC 3 16 rfl ?_ (by (intro w hSw; (try dsimp only at hSw); have q1 := hSw.2; go_simp; try with_reducible rfl))
              try simp only [Act.put, zA, zB, zC]
              refine TKC 4 17 rfl ?_
              try simp only [Act.put, zA, zB, zC]
              refine TKC 5 18 rfl ?_
              try simp only [Act.put, zA, zB, zC]
              refine TKC 6 19 rfl ?_
              try simp only [Act.put, zA, zB, zC]
              refine TKC 7 20 rfl ?_ (by (intro w hSw; (try dsimp only at hSw); have q1 := hSw.1; go_simp; try with_reducible rfl))
              try simp only [Act.put, zA, zB, zC]
              refine TKC 8 21 rfl ?_
              try simp only [Act.put, zA, zB, zC]
              refine TKC 9 22 (v := .bool true) rfl ?_
              try simp only [Act.put, zA, zB, zC]
              refine TKC 10 23 rfl ?_
              try simp only [Act.put, zA, zB, zC]
              refine TKC 11 24 rfl ?_
              try simp only [Act.put, zA, zB, zC]
              refine TKC 12 25 rfl ?_
              try simp only [Act.put, zA, zB, zC]
              refine TKC 13 26 rfl ?_
              try simp only [Act.put, zA, zB, zC]
              refine TKC 14 27 rfl ?_
              try simp only [Act.put, zA, zB, zC]
              refine TKC 15 28 rfl ?_ (by (intro w hSw; (try dsimp only at hSw); have q1 := hSw.1; go_simp; try with_reducible rfl))
              try simp only [Act.put, zA, zB, zC]
              refine TKC 16 29 rfl ?_
              try simp only [Act.put, zA, zB, zC]
              refine TKC 17 30 rfl ?_
              try simp only [Act.put, zA, zB, zC]
              refine TKC 18 31 rfl ?_
              try simp only [Act.put, zA, zB, zC]
              refine TKC 19 32 rfl ?_ (by (intro w hSw; (try dsimp only at hSw); have q1 := hSw.2; go_simp; try with_reducible rfl))
              try simp only [Act.put, zA, zB, zC]
              refine TKC 20 33 (v := .int .u8 (c.toNat : Int)) rfl ?_
              try simp only [Act.put, zA, zB, zC]
              refine wpAnyH_ready (rs := [21]) (by kernel_rfl) (by simp) ?_
              refine AllReadyH.cons (o := ⟨some 34, _, _, _, _, _⟩) rfl (fun K hK => ?_) AllReadyH.nil
              go_simp
              (go_at_call 58; (with_reducible refine (HX.out _).mono ?_); rintro e w3 ⟨rfl, rfl⟩)
              refine hK.out _ _ HS0 (fun hS2 => ?_)
              clear hK K hS2
              try simp only [Act.put, zA, zB, zC]
              refine TKC 22 35 (v := .bool true) rfl ?_
              try simp only [Act.put, zA, zB, zC]
              refine TKC 23 36 (v := .bool true) rfl ?_
              try simp only [Act.put, zA, zB, zC]
              refine wpAnyH_done (by kernel_rfl) ?_ _
              have c0 := HS0.1
              have c1 := HS0.2
              clear HS0
              go_wp2
              refine wp_region_S (S := fun w' => w'.cell? ⟨g, 0, none⟩ = some (.string s) ∧ w'.cell? ⟨g, 1, none⟩ = some (.int .i64 (k : Int))) (by kernel_rfl) (fun w2 hh => ⟨CtM.c0 (box_heap hh B), CtM.c1 (box_heap hh B)⟩) (fun w2 hh hbb HS0 => ?_)
              replace HB := HB.low (hbb _ (Nat.le_refl _)) HB.size
              replace HI := isB_heap hh HI
              replace B := box_heap hh B
              clear hh hbb c0 c1
              refine TKC 0 37 rfl ?_
              try simp only [Act.put, zA, zB, zC]
              refine TKC 1 38 rfl ?_
              try simp only [Act.put, zA, zB, zC]
              refine TKC 2 39 rfl ?_
              try simp only [Act.put, zA, zB, zC]
              refine TKC 3 40 rfl ?_ (by (intro w hSw; (try dsimp only at hSw); have q1 := hSw.1; go_simp; try with_reducible rfl))
              try simp only [Act.put, zA, zB, zC]
              refine TKC 4 41 rfl ?_
              try simp only [Act.put, zA, zB, zC]
              refine TKC 5 42 rfl ?_
              try simp only [Act.put, zA, zB, zC]
              refine TKC 6 43 rfl ?_
              try simp only [Act.put, zA, zB, zC]
              refine TKC 7 44 rfl ?_ (by (intro w hSw; (try dsimp only at hSw); have q1 := hSw.2; go_simp; try with_reducible rfl))
              try simp only [Act.put, zA, zB, zC]
              refine TKC 8 45 (v := .int .u8 (c.toNat : Int)) rfl ?_
              try simp only [Act.put, zA, zB, zC]
              refine TKC 9 8 rfl ?_
              try simp only [Act.put, zA, zB, zC]
              refine wpAnyH_done (by kernel_rfl) ?_ _
              have c0 := HS0.1
              have c1 := HS0.2
              clear HS0
              go_wp2
              refine wp_region_S (S := fun w' => w'.cell? ⟨g, 0, none⟩ = some (.string s) ∧ w'.cell? ⟨g, 1, none⟩ = some (.int .i64 (k : Int))) (by kernel_rfl) (fun w2 hh => ⟨CtM.c0 (box_heap hh B), CtM.c1 (box_heap hh B)⟩) (fun w2 hh hbb HS0 => ?_)
              replace HB := HB.low (hbb _ (Nat.le_refl _)) HB.size
              replace HI := isB_heap hh HI
              replace B := box_heap hh B
              clear hh hbb c0 c1
              refine TKC 0 77 rfl ?_
              try simp only [Act.put, zA, zB, zC]
              refine TKC 1 78 rfl ?_
              try simp only [Act.put, zA, zB, zC]
              refine TKC 2 79 rfl ?_
              try simp only [Act.put, zA, zB, zC]
              refine TKC 3 80 rfl ?_ (by (intro w hSw; (try dsimp only at hSw); have q1 := hSw.2; go_simp; try with_reducible rfl))
              try simp only [Act.put, zA, zB, zC]
              refine TKC 4 81 rfl ?_
              try simp only [Act.put, zA, zB, zC]
              refine TKC 5 82 rfl ?_
              try simp only [Act.put, zA, zB, zC]
              refine TKC 6 83 rfl ?_
              try simp only [Act.put, zA, zB, zC]
              refine TKC 7 84 rfl ?_
              try simp only [Act.put, zA, zB, zC]
              refine TKC 8 85 rfl ?_ (by (intro w hSw; (try dsimp only at hSw); have q1 := hSw.1; go_simp; try with_reducible rfl))
              try simp only [Act.put, zA, zB, zC]
              refine TKC 9 86 rfl ?_
              try simp only [Act.put, zA, zB, zC]
              refine TKC 10 87 (v := .bool true) rfl ?_
              try simp only [Act.put, zA, zB, zC]
              refine TKC 11 88 rfl ?_
              try simp only [Act.put, zA, zB, zC]
              refine TKN 12 89 rfl ?_
              try simp only [Act.put, zA, zB, zC]
              refine TKN 13 90 rfl ?_
              try simp only [Act.put, zA, zB, zC]
              refine TKN 14 91 rfl ?_
              try simp only [Act.put, zA, zB, zC]
              refine TKN 15 92 rfl ?_
              try simp only [Act.put, zA, zB, zC]
              refine TKN 16 93 rfl ?_
              try simp only [Act.put, zA, zB, zC]
              refine TKN 17 94 rfl ?_
              try simp only [Act.put, zA, zB, zC]
              refine TKN 18 95 rfl ?_
              try simp only [Act.put, zA, zB, zC]
              refine TKN 19 96 rfl ?_
              try simp only [Act.put, zA, zB, zC]
              refine TKN 20 97 rfl ?_
              try simp only [Act.put, zA, zB, zC]
              refine TKN 21 98 rfl ?_
              try simp only [Act.put, zA, zB, zC]
              refine TKN 22 99 rfl ?_
              try simp only [Act.put, zA, zB, zC]
              refine TKN 23 100 rfl ?_
              try simp only [Act.put, zA, zB, zC]
              refine TKC 24 101 (v := .bool true) rfl ?_
              try simp only [Act.put, zA, zB, zC]
              refine TKC 25 102 rfl ?_
              try simp only [Act.put, zA, zB, zC]
              refine TKN 26 103 rfl ?_
              try simp only [Act.put, zA, zB, zC]
              refine TKN 27 104 rfl ?_
              try simp only [Act.put, zA, zB, zC]
              refine TKN 28 105 rfl ?_
              try simp only [Act.put, zA, zB, zC]
              refine TKN 29 106 rfl ?_
              try simp only [Act.put, zA, zB, zC]
              refine TKN 30 107 rfl ?_
              try simp only [Act.put, zA, zB, zC]
              refine TKN 31 108 rfl ?_
              try simp only [Act.put, zA, zB, zC]
              refine TKN 32 109 rfl ?_
              try simp only [Act.put, zA, zB, zC]
              refine TKN 33 110 rfl ?_
              try simp only [Act.put, zA, zB, zC]
              refine TKN 34 111 rfl ?_
              try simp only [Act.put, zA, zB, zC]
              refine TKN 35 112 rfl ?_
              try simp only [Act.put, zA, zB, zC]
              refine TKN 36 113 rfl ?_
              try simp only [Act.put, zA, zB, zC]
              refine TKN 37 114 rfl ?_
              try simp only [Act.put, zA, zB, zC]
              refine TKC 38 115 (v := .bool true) rfl ?_
              try simp only [Act.put, zA, zB, zC]
              refine wpAnyH_done (by kernel_rfl) ?_ _
              have c0 := HS0.1
              have c1 := HS0.2
              clear HS0
              go_wp2
              refine wp_region_S (S := fun w' => w'.cell? ⟨g, 0, none⟩ = some (.string s) ∧ w'.cell? ⟨g, 1, none⟩ = some (.int .i64 (k : Int))) (by kernel_rfl) (fun w2 hh => ⟨CtM.c0 (box_heap hh B), CtM.c1 (box_heap hh B)⟩) (fun w2 hh hbb HS0 => ?_)
              replace HB := HB.low (hbb _ (Nat.le_refl _)) HB.size
              replace HI := isB_heap hh HI
              replace B := box_heap hh B
              clear hh hbb c0 c1
              refine TKC 0 116 rfl ?_
              try simp only [Act.put, zA, zB, zC]
              refine TKC 1 117 rfl ?_
              try simp only [Act.put, zA, zB, zC]
              refine TKC 2 118 rfl ?_
              try simp only [Act.put, zA, zB, zC]
              refine TKC 3 119 rfl ?_ (by (intro w hSw; (try dsimp only at hSw); have q1 := hSw.2; go_simp; try with_reducible rfl))
              try simp only [Act.put, zA, zB, zC]
              refine TKC 4 120 rfl ?_
              try simp only [Act.put, zA, zB, zC]
              refine TKC 8 4 rfl ?_
              try simp only [Act.put, zA, zB, zC]
              refine TKY 5 121 rfl (yields_bld (vals := [(0, .int .i64 (k : Int)), (1, .iface 31 (.int .i64 3))]) (by kernel_rfl) (fault_build (k : Int) 3) _ rfl rfl) ?_
              try simp only [Act.put, zA, zB, zC]
              refine wpAnyH_ready (rs := [6]) (by kernel_rfl) (by simp) ?_
              refine AllReadyH.cons (o := ⟨some 122, _, _, _, _, _⟩) rfl (fun K hK => ?_) AllReadyH.nil
              simp only [Region.wanted, if_true]
              refine op_box_at 85 _ rfl (FaultA (k : Int) 3) rfl ?_
              intro w10 hw
              have hb := hid_grow hw
              have BF := (hid_alloc hw).1
              replace B := zI B hb
              replace HB := HB.low hb HB.size
              clear hb hw
              replace HS0 : w10.cell? ⟨g, 0, none⟩ = some (.string s) ∧ w10.cell? ⟨g, 1, none⟩ = some (.int .i64 (k : Int)) := ⟨(CtM.c0 B), (CtM.c1 B)⟩
              refine hK.out _ _ HS0 (fun hS2 => ?_)
              clear hK K hS2
              try simp only [Act.put, zA, zB, zC]
              refine TKC 7 123 rfl ?_
              try simp only [Act.put, zA, zB, zC]
              refine TKC 9 5 rfl ?_
              try simp only [Act.put, zA, zB, zC]
              refine wpAnyH_done (by kernel_rfl) ?_ _
              clear HS0
              go_wp2
              go_ret2
              exact ⟨HB, by rw [HR.out, HF.out]; exact ⟨_, rfl, _, rfl, BF⟩⟩
            · obtain ⟨d1, hd1⟩ : ∃ c, (bl s)[k + 1]? = some c := ⟨_, List.getElem?_eq_getElem (show k + 1 < (bl s).length from (by show k + 1 < s.size; omega))⟩
              obtain ⟨d2, hd2⟩ : ∃ c, (bl s)[k + 2]? = some c := ⟨_, List.getElem?_eq_getElem (show k + 2 < (bl s).length from (by show k + 2 < s.size; omega))⟩
              have m1 : ¬ (s.size : Int) ≤ (k : Int) + 2 := by omega
              have l1 : k + 1 < s.size := by omega
              have l2 : k + 2 < s.size := by omega
              have m2 : (k : Int) + 1 < (s.size : Int) := by omega
              have m3 : (k : Int) + 2 < (s.size : Int) := by omega
              obtain ⟨HP1, HP2⟩ := HPL.out.pct hc hcon h37 hd1 hd2
              have hcb1 := bt_in hd1
              have hcb2 := bt_in hd2
              clear hd1 hd2 hnear
              have HX1 : Hid (∀ w, Calls Tryz.prog 73 #[.int .u8 (d1.toNat : Int)] w fun e w' => e = .returned (.int .i64 (hexB d1)) ∧ w = w') := Lib.hid (hex_any d1)
              have HX2 : Hid (∀ w, Calls Tryz.prog 73 #[.int .u8 (d2.toNat : Int)] w fun e w' => e = .returned (.int .i64 (hexB d2)) ∧ w = w') := Lib.hid (hex_any d2)
              have hh1 := hex_in d1
              have hh2 := hex_in d2
              generalize hexB d1 = h1 at HX1 HP1 HP2 hh1
              generalize hexB d2 = h2 at HX2 HP1 HP2 hh2
              by_cases j1 : h1 < 0
              · have HF := Lib.hid (HP1 (.inl j1))
                clear HP1 HP2 hh1 hh2
                have n1 : ¬ (c.toNat : Int) < 33 := by omega
                have n2 : ¬ 126 < (c.toNat : Int) := by omega
                have n3 : ((c.toNat : Int) == 35) = false := by rw [beq_eq_false_iff_ne]; omega
                have n4 : ((c.toNat : Int) == 37) = true := by rw [beq_iff_eq]; omega
                clear hcon hc hbad h37
                go_wp2
                refine wp_region_S (S := fun w' => w'.cell? ⟨g, 0, none⟩ = some (.string s) ∧ w'.cell? ⟨g, 1, none⟩ = some (.int .i64 (k : Int))) (by kernel_rfl) (fun w2 hh => ⟨CtM.c0 (box_heap hh B), CtM.c1 (box_heap hh B)⟩) (fun w2 hh hbb HS0 => ?_)
                replace HB := HB.low (hbb _ (Nat.le_refl _)) HB.size
                replace HI := isB_heap hh HI
                replace B := box_heap hh B
                clear hh hbb c0 c1
                refine TKC 0 13 rfl ?_
                try simp only [Act.put, zA, zB, zC]
                refine TKC 1 14 rfl ?_
                try simp only [Act.put, zA, zB, zC]
                refine TKC 2 15 rfl ?_
                try simp only [Act.put, zA, zB, zC]
                refine TKC 3 16 rfl ?_ (by (intro w hSw; (try dsimp only at hSw); have q1 := hSw.2; go_simp; try with_reducible rfl))
                try simp only [Act.put, zA, zB, zC]
                refine TKC 4 17 rfl ?_
                try simp only [Act.put, zA, zB, zC]
                refine TKC 5 18 rfl ?_
                try simp only [Act.put, zA, zB, zC]
                refine TKC 6 19 rfl ?_
                try simp only [Act.put, zA, zB, zC]
                refine TKC 7 20 rfl ?_ (by (intro w hSw; (try dsimp only at hSw); have q1 := hSw.1; go_simp; try with_reducible rfl))
                try simp only [Act.put, zA, zB, zC]
                refine TKC 8 21 rfl ?_
                try simp only [Act.put, zA, zB, zC]
                refine TKC 9 22 (v := .bool true) rfl ?_
                try simp only [Act.put, zA, zB, zC]
                refine TKC 10 23 rfl ?_
                try simp only [Act.put, zA, zB, zC]
                refine TKC 11 24 rfl ?_
                try simp only [Act.put, zA, zB, zC]
                refine TKC 12 25 rfl ?_
                try simp only [Act.put, zA, zB, zC]
                refine TKC 13 26 rfl ?_
                try simp only [Act.put, zA, zB, zC]
                refine TKC 14 27 rfl ?_
                try simp only [Act.put, zA, zB, zC]
                refine TKC 15 28 rfl ?_ (by (intro w hSw; (try dsimp only at hSw); have q1 := hSw.1; go_simp; try with_reducible rfl))
                try simp only [Act.put, zA, zB, zC]
                refine TKC 16 29 rfl ?_
                try simp only [Act.put, zA, zB, zC]
                refine TKC 17 30 rfl ?_
                try simp only [Act.put, zA, zB, zC]
                refine TKC 18 31 rfl ?_
                try simp only [Act.put, zA, zB, zC]
                refine TKC 19 32 rfl ?_ (by (intro w hSw; (try dsimp only at hSw); have q1 := hSw.2; go_simp; try with_reducible rfl))
                try simp only [Act.put, zA, zB, zC]
                refine TKC 20 33 (v := .int .u8 (c.toNat : Int)) rfl ?_
                try simp only [Act.put, zA, zB, zC]
                refine wpAnyH_ready (rs := [21]) (by kernel_rfl) (by simp) ?_
                refine AllReadyH.cons (o := ⟨some 34, _, _, _, _, _⟩) rfl (fun K hK => ?_) AllReadyH.nil
                go_simp
                (go_at_call 58; (with_reducible refine (HX.out _).mono ?_); rintro e w3 ⟨rfl, rfl⟩)
                refine hK.out _ _ HS0 (fun hS2 => ?_)
                clear hK K hS2
                try simp only [Act.put, zA, zB, zC]
                refine TKC 22 35 (v := .bool true) rfl ?_
                try simp only [Act.put, zA, zB, zC]
                refine TKC 23 36 (v := .bool true) rfl ?_
                try simp only [Act.put, zA, zB, zC]
                refine wpAnyH_done (by kernel_rfl) ?_ _
                have c0 := HS0.1
                have c1 := HS0.2
                clear HS0
                go_wp2
                refine wp_region_S (S := fun w' => w'.cell? ⟨g, 0, none⟩ = some (.string s) ∧ w'.cell? ⟨g, 1, none⟩ = some (.int .i64 (k : Int))) (by kernel_rfl) (fun w2 hh => ⟨CtM.c0 (box_heap hh B), CtM.c1 (box_heap hh B)⟩) (fun w2 hh hbb HS0 => ?_)
                replace HB := HB.low (hbb _ (Nat.le_refl _)) HB.size
                replace HI := isB_heap hh HI
                replace B := box_heap hh B
                clear hh hbb c0 c1
                refine TKC 0 37 rfl ?_
                try simp only [Act.put, zA, zB, zC]
                refine TKC 1 38 rfl ?_
                try simp only [Act.put, zA, zB, zC]
                refine TKC 2 39 rfl ?_
                try simp only [Act.put, zA, zB, zC]
                refine TKC 3 40 rfl ?_ (by (intro w hSw; (try dsimp only at hSw); have q1 := hSw.1; go_simp; try with_reducible rfl))
                try simp only [Act.put, zA, zB, zC]
                refine TKC 4 41 rfl ?_
                try simp only [Act.put, zA, zB, zC]
                refine TKC 5 42 rfl ?_
                try simp only [Act.put, zA, zB, zC]
                refine TKC 6 43 rfl ?_
                try simp only [Act.put, zA, zB, zC]
                refine TKC 7 44 rfl ?_ (by (intro w hSw; (try dsimp only at hSw); have q1 := hSw.2; go_simp; try with_reducible rfl))
                try simp only [Act.put, zA, zB, zC]
                refine TKC 8 45 (v := .int .u8 (c.toNat : Int)) rfl ?_
                try simp only [Act.put, zA, zB, zC]
                refine TKC 9 8 rfl ?_
                try simp only [Act.put, zA, zB, zC]
                refine wpAnyH_done (by kernel_rfl) ?_ _
                have c0 := HS0.1
                have c1 := HS0.2
                clear HS0
                go_wp2
                refine wp_region_S (S := fun w' => w'.cell? ⟨g, 0, none⟩ = some (.string s) ∧ w'.cell? ⟨g, 1, none⟩ = some (.int .i64 (k : Int))) (by kernel_rfl) (fun w2 hh => ⟨CtM.c0 (box_heap hh B), CtM.c1 (box_heap hh B)⟩) (fun w2 hh hbb HS0 => ?_)
                replace HB := HB.low (hbb _ (Nat.le_refl _)) HB.size
                replace HI := isB_heap hh HI
                replace B := box_heap hh B
                clear hh hbb c0 c1
                refine TKC 0 77 rfl ?_
                try simp only [Act.put, zA, zB, zC]
                refine TKC 1 78 rfl ?_
                try simp only [Act.put, zA, zB, zC]
                refine TKC 2 79 rfl ?_
                try simp only [Act.put, zA, zB, zC]
                refine TKC 3 80 rfl ?_ (by (intro w hSw; (try dsimp only at hSw); have q1 := hSw.2; go_simp; try with_reducible rfl))
                try simp only [Act.put, zA, zB, zC]
                refine TKC 4 81 rfl ?_
                try simp only [Act.put, zA, zB, zC]
                refine TKC 5 82 rfl ?_
                try simp only [Act.put, zA, zB, zC]
                refine TKC 6 83 rfl ?_
                try simp only [Act.put, zA, zB, zC]
                refine TKC 7 84 rfl ?_
                try simp only [Act.put, zA, zB, zC]
                refine TKC 8 85 rfl ?_ (by (intro w hSw; (try dsimp only at hSw); have q1 := hSw.1; go_simp; try with_reducible rfl))
                try simp only [Act.put, zA, zB, zC]
                refine TKC 9 86 rfl ?_
                try simp only [Act.put, zA, zB, zC]
                refine TKC 10 87 (v := .bool false) rfl ?_
                try simp only [Act.put, zA, zB, zC]
                refine TKC 11 88 rfl ?_
                try simp only [Act.put, zA, zB, zC]
                refine TKC 12 89 rfl ?_
                try simp only [Act.put, zA, zB, zC]
                refine TKC 13 90 rfl ?_
                try simp only [Act.put, zA, zB, zC]
                refine TKC 14 91 rfl ?_
                try simp only [Act.put, zA, zB, zC]
                refine TKC 15 92 rfl ?_ (by (intro w hSw; (try dsimp only at hSw); have q1 := hSw.1; go_simp; try with_reducible rfl))
                try simp only [Act.put, zA, zB, zC]
                refine TKC 16 93 rfl ?_
                try simp only [Act.put, zA, zB, zC]
                refine TKC 17 94 rfl ?_
                try simp only [Act.put, zA, zB, zC]
                refine TKC 18 95 rfl ?_
                try simp only [Act.put, zA, zB, zC]
                refine TKC 19 96 rfl ?_ (by (intro w hSw; (try dsimp only at hSw); have q1 := hSw.2; go_simp; try with_reducible rfl))
                try simp only [Act.put, zA, zB, zC]
                refine TKC 20 97 rfl ?_
                try simp only [Act.put, zA, zB, zC]
                refine TKC 21 98 (v := .int .u8 (d1.toNat : Int)) rfl ?_
                try simp only [Act.put, zA, zB, zC]
                refine wpAnyH_ready (rs := [22]) (by kernel_rfl) (by simp) ?_
                refine AllReadyH.cons (o := ⟨some 99, _, _, _, _, _⟩) rfl (fun K hK => ?_) AllReadyH.nil
                go_simp
                (go_at_call 73; (with_reducible refine (HX1.out _).mono ?_); rintro e w3 ⟨rfl, rfl⟩)
                refine hK.out _ _ HS0 (fun hS2 => ?_)
                clear hK K hS2
                try simp only [Act.put, zA, zB, zC]
                refine TKC 23 100 (v := .bool true) rfl ?_
                try simp only [Act.put, zA, zB, zC]
                refine TKC 24 101 (v := .bool true) rfl ?_
                try simp only [Act.put, zA, zB, zC]
                refine TKC 25 102 rfl ?_
                try simp only [Act.put, zA, zB, zC]
                refine TKN 26 103 rfl ?_
                try simp only [Act.put, zA, zB, zC]
                refine TKN 27 104 rfl ?_
                try simp only [Act.put, zA, zB, zC]
                refine TKN 28 105 rfl ?_
                try simp only [Act.put, zA, zB, zC]
                refine TKN 29 106 rfl ?_
                try simp only [Act.put, zA, zB, zC]
                refine TKN 30 107 rfl ?_
                try simp only [Act.put, zA, zB, zC]
                refine TKN 31 108 rfl ?_
                try simp only [Act.put, zA, zB, zC]
                refine TKN 32 109 rfl ?_
                try simp only [Act.put, zA, zB, zC]
                refine TKN 33 110 rfl ?_
                try simp only [Act.put, zA, zB, zC]
                refine TKN 34 111 rfl ?_
                try simp only [Act.put, zA, zB, zC]
                refine TKN 35 112 rfl ?_
                try simp only [Act.put, zA, zB, zC]
                refine TKN 36 113 rfl ?_
                try simp only [Act.put, zA, zB, zC]
                refine TKN 37 114 rfl ?_
                try simp only [Act.put, zA, zB, zC]
                refine TKC 38 115 (v := .bool true) rfl ?_
                try simp only [Act.put, zA, zB, zC]
                refine wpAnyH_done (by kernel_rfl) ?_ _
                have c0 := HS0.1
                have c1 := HS0.2
                clear HS0
                go_wp2
                refine wp_region_S (S := fun w' => w'.cell? ⟨g, 0, none⟩ = some (.string s) ∧ w'.cell? ⟨g, 1, none⟩ = some (.int .i64 (k : Int))) (by kernel_rfl) (fun w2 hh => ⟨CtM.c0 (box_heap hh B), CtM.c1 (box_heap hh B)⟩) (fun w2 hh hbb HS0 => ?_)
                replace HB := HB.low (hbb _ (Nat.le_refl _)) HB.size
                replace HI := isB_heap hh HI
                replace B := box_heap hh B
                clear hh hbb c0 c1
                refine TKC 0 116 rfl ?_
                try simp only [Act.put, zA, zB, zC]
                refine TKC 1 117 rfl ?_
                try simp only [Act.put, zA, zB, zC]
                refine TKC 2 118 rfl ?_
                try simp only [Act.put, zA, zB, zC]
                refine TKC 3 119 rfl ?_ (by (intro w hSw; (try dsimp only at hSw); have q1 := hSw.2; go_simp; try with_reducible rfl))
                try simp only [Act.put, zA, zB, zC]
                refine TKC 4 120 rfl ?_
                try simp only [Act.put, zA, zB, zC]
                refine TKC 8 4 rfl ?_
                try simp only [Act.put, zA, zB, zC]
                refine TKY 5 121 rfl (yields_bld (vals := [(0, .int .i64 (k : Int)), (1, .iface 31 (.int .i64 3))]) (by kernel_rfl) (fault_build (k : Int) 3) _ rfl rfl) ?_
                try simp only [Act.put, zA, zB, zC]
                refine wpAnyH_ready (rs := [6]) (by kernel_rfl) (by simp) ?_
                refine AllReadyH.cons (o := ⟨some 122, _, _, _, _, _⟩) rfl (fun K hK => ?_) AllReadyH.nil
                simp only [Region.wanted, if_true]
                refine op_box_at 85 _ rfl (FaultA (k : Int) 3) rfl ?_
                intro w10 hw
                have hb := hid_grow hw
                have BF := (hid_alloc hw).1
                replace B := zI B hb
                replace HB := HB.low hb HB.size
                clear hb hw
                replace HS0 : w10.cell? ⟨g, 0, none⟩ = some (.string s) ∧ w10.cell? ⟨g, 1, none⟩ = some (.int .i64 (k : Int)) := ⟨(CtM.c0 B), (CtM.c1 B)⟩
                refine hK.out _ _ HS0 (fun hS2 => ?_)
                clear hK K hS2
                try simp only [Act.put, zA, zB, zC]
                refine TKC 7 123 rfl ?_
                try simp only [Act.put, zA, zB, zC]
                refine TKC 9 5 rfl ?_
                try simp only [Act.put, zA, zB, zC]
                refine wpAnyH_done (by kernel_rfl) ?_ _
                clear HS0
                go_wp2
                go_ret2
                exact ⟨HB, by rw [HR.out, HF.out]; exact ⟨_, rfl, _, rfl, BF⟩⟩
              · by_cases j2 : h2 < 0
                · have HF := Lib.hid (HP1 (.inr j2))
                  clear HP1 HP2 hh1 hh2
                  have n1 : ¬ (c.toNat : Int) < 33 := by omega
                  have n2 : ¬ 126 < (c.toNat : Int) := by omega
                  have n3 : ((c.toNat : Int) == 35) = false := by rw [beq_eq_false_iff_ne]; omega
                  have n4 : ((c.toNat : Int) == 37) = true := by rw [beq_iff_eq]; omega
                  clear hcon hc hbad h37
                  go_wp2
                  refine wp_region_S (S := fun w' => w'.cell? ⟨g, 0, none⟩ = some (.string s) ∧ w'.cell? ⟨g, 1, none⟩ = some (.int .i64 (k : Int))) (by kernel_rfl) (fun w2 hh => ⟨CtM.c0 (box_heap hh B), CtM.c1 (box_heap hh B)⟩) (fun w2 hh hbb HS0 => ?_)
                  replace HB := HB.low (hbb _ (Nat.le_refl _)) HB.size
                  replace HI := isB_heap hh HI
                  replace B := box_heap hh B
                  clear hh hbb c0 c1
                  refine TKC 0 13 rfl ?_
                  try simp only [Act.put, zA, zB, zC]
                  refine TKC 1 14 rfl ?_
                  try simp only [Act.put, zA, zB, zC]
                  refine TKC 2 15 rfl ?_
                  try simp only [Act.put, zA, zB, zC]
                  refine TKC 3 16 rfl ?_ (by (intro w hSw; (try dsimp only at hSw); have q1 := hSw.2; go_simp; try with_reducible rfl))
                  try simp only [Act.put, zA, zB, zC]
                  refine TKC 4 17 rfl ?_
                  try simp only [Act.put, zA, zB, zC]
                  refine TKC 5 18 rfl ?_
                  try simp only [Act.put, zA, zB, zC]
                  refine TKC 6 19 rfl ?_
                  try simp only [Act.put, zA, zB, zC]
                  refine TKC 7 20 rfl ?_ (by (intro w hSw; (try dsimp only at hSw); have q1 := hSw.1; go_simp; try with_reducible rfl))
                  try simp only [Act.put, zA, zB, zC]
                  refine TKC 8 21 rfl ?_
                  try simp only [Act.put, zA, zB, zC]
                  refine TKC 9 22 (v := .bool true) rfl ?_
                  try simp only [Act.put, zA, zB, zC]
                  refine TKC 10 23 rfl ?_
                  try simp only [Act.put, zA, zB, zC]
                  refine TKC 11 24 rfl ?_
                  try simp only [Act.put, zA, zB, zC]
                  refine TKC 12 25 rfl ?_
                  try simp only [Act.put, zA, zB, zC]
                  refine TKC 13 26 rfl ?_
                  try simp only [Act.put, zA, zB, zC]
                  refine TKC 14 27 rfl ?_
                  try simp only [Act.put, zA, zB, zC]
                  refine TKC 15 28 rfl ?_ (by (intro w hSw; (try dsimp only at hSw); have q1 := hSw.1; go_simp; try with_reducible rfl))
                  try simp only [Act.put, zA, zB, zC]
                  refine TKC 16 29 rfl ?_
                  try simp only [Act.put, zA, zB, zC]
                  refine TKC 17 30 rfl ?_
                  try simp only [Act.put, zA, zB, zC]
                  refine TKC 18 31 rfl ?_
                  try simp only [Act.put, zA, zB, zC]
                  refine TKC 19 32 rfl ?_ (by (intro w hSw; (try dsimp only at hSw); have q1 := hSw.2; go_simp; try with_reducible rfl))
                  try simp only [Act.put, zA, zB, zC]
                  refine TKC 20 33 (v := .int .u8 (c.toNat : Int)) rfl ?_
                  try simp only [Act.put, zA, zB, zC]
                  refine wpAnyH_ready (rs := [21]) (by kernel_rfl) (by simp) ?_
                  refine AllReadyH.cons (o := ⟨some 34, _, _, _, _, _⟩) rfl (fun K hK => ?_) AllReadyH.nil
                  go_simp
                  (go_at_call 58; (with_reducible refine (HX.out _).mono ?_); rintro e w3 ⟨rfl, rfl⟩)
                  refine hK.out _ _ HS0 (fun hS2 => ?_)
                  clear hK K hS2
                  try simp only [Act.put, zA, zB, zC]
                  refine TKC 22 35 (v := .bool true) rfl ?_
                  try simp only [Act.put, zA, zB, zC]
                  refine TKC 23 36 (v := .bool true) rfl ?_
                  try simp only [Act.put, zA, zB, zC]
                  refine wpAnyH_done (by kernel_rfl) ?_ _
                  have c0 := HS0.1
                  have c1 := HS0.2
                  clear HS0
                  go_wp2
                  refine wp_region_S (S := fun w' => w'.cell? ⟨g, 0, none⟩ = some (.string s) ∧ w'.cell? ⟨g, 1, none⟩ = some (.int .i64 (k : Int))) (by kernel_rfl) (fun w2 hh => ⟨CtM.c0 (box_heap hh B), CtM.c1 (box_heap hh B)⟩) (fun w2 hh hbb HS0 => ?_)
                  replace HB := HB.low (hbb _ (Nat.le_refl _)) HB.size
                  replace HI := isB_heap hh HI
                  replace B := box_heap hh B
                  clear hh hbb c0 c1
                  refine TKC 0 37 rfl ?_
                  try simp only [Act.put, zA, zB, zC]
                  refine TKC 1 38 rfl ?_
                  try simp only [Act.put, zA, zB, zC]
                  refine TKC 2 39 rfl ?_
                  try simp only [Act.put, zA, zB, zC]
                  refine TKC 3 40 rfl ?_ (by (intro w hSw; (try dsimp only at hSw); have q1 := hSw.1; go_simp; try with_reducible rfl))
                  try simp only [Act.put, zA, zB, zC]
                  refine TKC 4 41 rfl ?_
                  try simp only [Act.put, zA, zB, zC]
                  refine TKC 5 42 rfl ?_
                  try simp only [Act.put, zA, zB, zC]
                  refine TKC 6 43 rfl ?_
                  try simp only [Act.put, zA, zB, zC]
                  refine TKC 7 44 rfl ?_ (by (intro w hSw; (try dsimp only at hSw); have q1 := hSw.2; go_simp; try with_reducible rfl))
                  try simp only [Act.put, zA, zB, zC]
                  refine TKC 8 45 (v := .int .u8 (c.toNat : Int)) rfl ?_
                  try simp only [Act.put, zA, zB, zC]
                  refine TKC 9 8 rfl ?_
                  try simp only [Act.put, zA, zB, zC]
                  refine wpAnyH_done (by kernel_rfl) ?_ _
                  have c0 := HS0.1
                  have c1 := HS0.2
                  clear HS0
                  go_wp2
                  refine wp_region_S (S := fun w' => w'.cell? ⟨g, 0, none⟩ = some (.string s) ∧ w'.cell? ⟨g, 1, none⟩ = some (.int .i64 (k : Int))) (by kernel_rfl) (fun w2 hh => ⟨CtM.c0 (box_heap hh B), CtM.c1 (box_heap hh B)⟩) (fun w2 hh hbb HS0 => ?_)
                  replace HB := HB.low (hbb _ (Nat.le_refl _)) HB.size
                  replace HI := isB_heap hh HI
                  replace B := box_heap hh B
                  clear hh hbb c0 c1
                  refine TKC 0 77 rfl ?_
                  try simp only [Act.put, zA, zB, zC]
                  refine TKC 1 78 rfl ?_
                  try simp only [Act.put, zA, zB, zC]
                  refine TKC 2 79 rfl ?_
                  try simp only [Act.put, zA, zB, zC]
                  refine TKC 3 80 rfl ?_ (by (intro w hSw; (try dsimp only at hSw); have q1 := hSw.2; go_simp; try with_reducible rfl))
                  try simp only [Act.put, zA, zB, zC]
                  refine TKC 4 81 rfl ?_
                  try simp only [Act.put, zA, zB, zC]
                  refine TKC 5 82 rfl ?_
                  try simp only [Act.put, zA, zB, zC]
                  refine TKC 6 83 rfl ?_
                  try simp only [Act.put, zA, zB, zC]
                  refine TKC 7 84 rfl ?_
                  try simp only [Act.put, zA, zB, zC]
                  refine TKC 8 85 rfl ?_ (by (intro w hSw; (try dsimp only at hSw); have q1 := hSw.1; go_simp; try with_reducible rfl))
                  try simp only [Act.put, zA, zB, zC]
                  refine TKC 9 86 rfl ?_
                  try simp only [Act.put, zA, zB, zC]
                  refine TKC 10 87 (v := .bool false) rfl ?_
                  try simp only [Act.put, zA, zB, zC]
                  refine TKC 11 88 rfl ?_
                  try simp only [Act.put, zA, zB, zC]
                  refine TKC 12 89 rfl ?_
                  try simp only [Act.put, zA, zB, zC]
                  refine TKC 13 90 rfl ?_
                  try simp only [Act.put, zA, zB, zC]
                  refine TKC 14 91 rfl ?_
                  try simp only [Act.put, zA, zB, zC]
                  refine TKC 15 92 rfl ?_ (by (intro w hSw; (try dsimp only at hSw); have q1 := hSw.1; go_simp; try with_reducible rfl))
                  try simp only [Act.put, zA, zB, zC]
                  refine TKC 16 93 rfl ?_
                  try simp only [Act.put, zA, zB, zC]
                  refine TKC 17 94 rfl ?_
                  try simp only [Act.put, zA, zB, zC]
                  refine TKC 18 95 rfl ?_
                  try simp only [Act.put, zA, zB, zC]
                  refine TKC 19 96 rfl ?_ (by (intro w hSw; (try dsimp only at hSw); have q1 := hSw.2; go_simp; try with_reducible rfl))
                  try simp only [Act.put, zA, zB, zC]
                  refine TKC 20 97 rfl ?_
                  try simp only [Act.put, zA, zB, zC]
                  refine TKC 21 98 (v := .int .u8 (d1.toNat : Int)) rfl ?_
                  try simp only [Act.put, zA, zB, zC]
                  refine wpAnyH_ready (rs := [22]) (by kernel_rfl) (by simp) ?_
                  refine AllReadyH.cons (o := ⟨some 99, _, _, _, _, _⟩) rfl (fun K hK => ?_) AllReadyH.nil
                  go_simp
                  (go_at_call 73; (with_reducible refine (HX1.out _).mono ?_); rintro e w3 ⟨rfl, rfl⟩)
                  refine hK.out _ _ HS0 (fun hS2 => ?_)
                  clear hK K hS2
                  try simp only [Act.put, zA, zB, zC]
                  refine TKC 23 100 (v := .bool false) rfl ?_
                  try simp only [Act.put, zA, zB, zC]
                  refine TKC 24 101 (v := .bool false) rfl ?_
                  try simp only [Act.put, zA, zB, zC]
                  refine TKC 25 102 rfl ?_
                  try simp only [Act.put, zA, zB, zC]
                  refine TKC 26 103 rfl ?_
                  try simp only [Act.put, zA, zB, zC]
                  refine TKC 27 104 rfl ?_
                  try simp only [Act.put, zA, zB, zC]
                  refine TKC 28 105 rfl ?_
                  try simp only [Act.put, zA, zB, zC]
                  refine TKC 29 106 rfl ?_ (by (intro w hSw; (try dsimp only at hSw); have q1 := hSw.1; go_simp; try with_reducible rfl))
                  try simp only [Act.put, zA, zB, zC]
                  refine TKC 30 107 rfl ?_
                  try simp only [Act.put, zA, zB, zC]
                  refine TKC 31 108 rfl ?_
                  try simp only [Act.put, zA, zB, zC]
                  refine TKC 32 109 rfl ?_
                  try simp only [Act.put, zA, zB, zC]
                  refine TKC 33 110 rfl ?_ (by (intro w hSw; (try dsimp only at hSw); have q1 := hSw.2; go_simp; try with_reducible rfl))
                  try simp only [Act.put, zA, zB, zC]
                  refine TKC 34 111 rfl ?_
                  try simp only [Act.put, zA, zB, zC]
                  refine TKC 35 112 (v := .int .u8 (d2.toNat : Int)) rfl ?_
                  try simp only [Act.put, zA, zB, zC]
                  refine wpAnyH_ready (rs := [36]) (by kernel_rfl) (by simp) ?_
                  refine AllReadyH.cons (o := ⟨some 113, _, _, _, _, _⟩) rfl (fun K hK => ?_) AllReadyH.nil
                  go_simp
                  (go_at_call 73; (with_reducible refine (HX2.out _).mono ?_); rintro e w3 ⟨rfl, rfl⟩)
                  refine hK.out _ _ HS0 (fun hS2 => ?_)
                  clear hK K hS2
                  try simp only [Act.put, zA, zB, zC]
                  refine TKC 37 114 (v := .bool true) rfl ?_
                  try simp only [Act.put, zA, zB, zC]
                  refine TKC 38 115 (v := .bool true) rfl ?_
                  try simp only [Act.put, zA, zB, zC]
                  refine wpAnyH_done (by kernel_rfl) ?_ _
                  have c0 := HS0.1
                  have c1 := HS0.2
                  clear HS0
                  go_wp2
                  refine wp_region_S (S := fun w' => w'.cell? ⟨g, 0, none⟩ = some (.string s) ∧ w'.cell? ⟨g, 1, none⟩ = some (.int .i64 (k : Int))) (by kernel_rfl) (fun w2 hh => ⟨CtM.c0 (box_heap hh B), CtM.c1 (box_heap hh B)⟩) (fun w2 hh hbb HS0 => ?_)
                  replace HB := HB.low (hbb _ (Nat.le_refl _)) HB.size
                  replace HI := isB_heap hh HI
                  replace B := box_heap hh B
                  clear hh hbb c0 c1
                  refine TKC 0 116 rfl ?_
                  try simp only [Act.put, zA, zB, zC]
                  refine TKC 1 117 rfl ?_
                  try simp only [Act.put, zA, zB, zC]
                  refine TKC 2 118 rfl ?_
                  try simp only [Act.put, zA, zB, zC]
                  refine TKC 3 119 rfl ?_ (by (intro w hSw; (try dsimp only at hSw); have q1 := hSw.2; go_simp; try with_reducible rfl))
                  try simp only [Act.put, zA, zB, zC]
                  refine TKC 4 120 rfl ?_
                  try simp only [Act.put, zA, zB, zC]
                  refine TKC 8 4 rfl ?_
                  try simp only [Act.put, zA, zB, zC]
                  refine TKY 5 121 rfl (yields_bld (vals := [(0, .int .i64 (k : Int)), (1, .iface 31 (.int .i64 3))]) (by kernel_rfl) (fault_build (k : Int) 3) _ rfl rfl) ?_
                  try simp only [Act.put, zA, zB, zC]
                  refine wpAnyH_ready (rs := [6]) (by kernel_rfl) (by simp) ?_
                  refine AllReadyH.cons (o := ⟨some 122, _, _, _, _, _⟩) rfl (fun K hK => ?_) AllReadyH.nil
                  simp only [Region.wanted, if_true]
                  refine op_box_at 85 _ rfl (FaultA (k : Int) 3) rfl ?_
                  intro w10 hw
                  have hb := hid_grow hw
                  have BF := (hid_alloc hw).1
                  replace B := zI B hb
                  replace HB := HB.low hb HB.size
                  clear hb hw
                  replace HS0 : w10.cell? ⟨g, 0, none⟩ = some (.string s) ∧ w10.cell? ⟨g, 1, none⟩ = some (.int .i64 (k : Int)) := ⟨(CtM.c0 B), (CtM.c1 B)⟩
                  refine hK.out _ _ HS0 (fun hS2 => ?_)
                  clear hK K hS2
                  try simp only [Act.put, zA, zB, zC]
                  refine TKC 7 123 rfl ?_
                  try simp only [Act.put, zA, zB, zC]
                  refine TKC 9 5 rfl ?_
                  try simp only [Act.put, zA, zB, zC]
                  refine wpAnyH_done (by kernel_rfl) ?_ _
                  clear HS0
                  go_wp2
                  go_ret2
                  exact ⟨HB, by rw [HR.out, HF.out]; exact ⟨_, rfl, _, rfl, BF⟩⟩
                · have HN := Lib.hid (HP2 j1 j2)
                  have g1 : 0 ≤ h1 ∧ h1 ≤ 15 := by omega
                  have g2 : 0 ≤ h2 ∧ h2 ≤ 15 := by omega
                  obtain ⟨bb, hbb, hbv⟩ := byte_is g1 g2
                  rw [← hbb] at HN
                  have HBY := Lib.hid hbv
                  clear hbb hbv
                  clear HP1 HP2 hh1 hh2
                  have n1 : ¬ (c.toNat : Int) < 33 := by omega
                  have n2 : ¬ 126 < (c.toNat : Int) := by omega
                  have n3 : ((c.toNat : Int) == 35) = false := by rw [beq_eq_false_iff_ne]; omega
                  have n4 : ((c.toNat : Int) == 37) = true := by rw [beq_iff_eq]; omega
                  clear hcon hc hbad h37
                  go_wp2
                  refine wp_region_S (S := fun w' => w'.cell? ⟨g, 0, none⟩ = some (.string s) ∧ w'.cell? ⟨g, 1, none⟩ = some (.int .i64 (k : Int))) (by kernel_rfl) (fun w2 hh => ⟨CtM.c0 (box_heap hh B), CtM.c1 (box_heap hh B)⟩) (fun w2 hh hbb HS0 => ?_)
                  replace HB := HB.low (hbb _ (Nat.le_refl _)) HB.size
                  replace HI := isB_heap hh HI
                  replace B := box_heap hh B
                  clear hh hbb c0 c1
                  refine TKC 0 13 rfl ?_
                  try simp only [Act.put, zA, zB, zC]
                  refine TKC 1 14 rfl ?_
                  try simp only [Act.put, zA, zB, zC]
                  refine TKC 2 15 rfl ?_
                  try simp only [Act.put, zA, zB, zC]
                  refine TKC 3 16 rfl ?_ (by (intro w hSw; (try dsimp only at hSw); have q1 := hSw.2; go_simp; try with_reducible rfl))
                  try simp only [Act.put, zA, zB, zC]
                  refine TKC 4 17 rfl ?_
                  try simp only [Act.put, zA, zB, zC]
                  refine TKC 5 18 rfl ?_
                  try simp only [Act.put, zA, zB, zC]
                  refine TKC 6 19 rfl ?_
                  try simp only [Act.put, zA, zB, zC]
                  refine TKC 7 20 rfl ?_ (by (intro w hSw; (try dsimp only at hSw); have q1 := hSw.1; go_simp; try with_reducible rfl))
                  try simp only [Act.put, zA, zB, zC]
                  refine TKC 8 21 rfl ?_
                  try simp only [Act.put, zA, zB, zC]
                  refine TKC 9 22 (v := .bool true) rfl ?_
                  try simp only [Act.put, zA, zB, zC]
                  refine TKC 10 23 rfl ?_
                  try simp only [Act.put, zA, zB, zC]
                  refine TKC 11 24 rfl ?_
                  try simp only [Act.put, zA, zB, zC]
                  refine TKC 12 25 rfl ?_
                  try simp only [Act.put, zA, zB, zC]
                  refine TKC 13 26 rfl ?_
                  try simp only [Act.put, zA, zB, zC]
                  refine TKC 14 27 rfl ?_
                  try simp only [Act.put, zA, zB, zC]
                  refine TKC 15 28 rfl ?_ (by (intro w hSw; (try dsimp only at hSw); have q1 := hSw.1; go_simp; try with_reducible rfl))
                  try simp only [Act.put, zA, zB, zC]
                  refine TKC 16 29 rfl ?_
                  try simp only [Act.put, zA, zB, zC]
                  refine TKC 17 30 rfl ?_
                  try simp only [Act.put, zA, zB, zC]
                  refine TKC 18 31 rfl ?_
                  try simp only [Act.put, zA, zB, zC]
                  refine TKC 19 32 rfl ?_ (by (intro w hSw; (try dsimp only at hSw); have q1 := hSw.2; go_simp; try with_reducible rfl))
                  try simp only [Act.put, zA, zB, zC]
                  refine TKC 20 33 (v := .int .u8 (c.toNat : Int)) rfl ?_
                  try simp only [Act.put, zA, zB, zC]
                  refine wpAnyH_ready (rs := [21]) (by kernel_rfl) (by simp) ?_
                  refine AllReadyH.cons (o := ⟨some 34, _, _, _, _, _⟩) rfl (fun K hK => ?_) AllReadyH.nil
                  go_simp
                  (go_at_call 58; (with_reducible refine (HX.out _).mono ?_); rintro e w3 ⟨rfl, rfl⟩)
                  refine hK.out _ _ HS0 (fun hS2 => ?_)
                  clear hK K hS2
                  try simp only [Act.put, zA, zB, zC]
                  refine TKC 22 35 (v := .bool true) rfl ?_
                  try simp only [Act.put, zA, zB, zC]
                  refine TKC 23 36 (v := .bool true) rfl ?_
                  try simp only [Act.put, zA, zB, zC]
                  refine wpAnyH_done (by kernel_rfl) ?_ _
                  have c0 := HS0.1
                  have c1 := HS0.2
                  clear HS0
                  go_wp2
                  refine wp_region_S (S := fun w' => w'.cell? ⟨g, 0, none⟩ = some (.string s) ∧ w'.cell? ⟨g, 1, none⟩ = some (.int .i64 (k : Int))) (by kernel_rfl) (fun w2 hh => ⟨CtM.c0 (box_heap hh B), CtM.c1 (box_heap hh B)⟩) (fun w2 hh hbb HS0 => ?_)
                  replace HB := HB.low (hbb _ (Nat.le_refl _)) HB.size
                  replace HI := isB_heap hh HI
                  replace B := box_heap hh B
                  clear hh hbb c0 c1
                  refine TKC 0 37 rfl ?_
                  try simp only [Act.put, zA, zB, zC]
                  refine TKC 1 38 rfl ?_
                  try simp only [Act.put, zA, zB, zC]
                  refine TKC 2 39 rfl ?_
                  try simp only [Act.put, zA, zB, zC]
                  refine TKC 3 40 rfl ?_ (by (intro w hSw; (try dsimp only at hSw); have q1 := hSw.1; go_simp; try with_reducible rfl))
                  try simp only [Act.put, zA, zB, zC]
                  refine TKC 4 41 rfl ?_
                  try simp only [Act.put, zA, zB, zC]
                  refine TKC 5 42 rfl ?_
                  try simp only [Act.put, zA, zB, zC]
                  refine TKC 6 43 rfl ?_
                  try simp only [Act.put, zA, zB, zC]
                  refine TKC 7 44 rfl ?_ (by (intro w hSw; (try dsimp only at hSw); have q1 := hSw.2; go_simp; try with_reducible rfl))
                  try simp only [Act.put, zA, zB, zC]
                  refine TKC 8 45 (v := .int .u8 (c.toNat : Int)) rfl ?_
                  try simp only [Act.put, zA, zB, zC]
                  refine TKC 9 8 rfl ?_
                  try simp only [Act.put, zA, zB, zC]
                  refine wpAnyH_done (by kernel_rfl) ?_ _
                  have c0 := HS0.1
                  have c1 := HS0.2
                  clear HS0
                  go_wp2
                  refine wp_region_S (S := fun w' => w'.cell? ⟨g, 0, none⟩ = some (.string s) ∧ w'.cell? ⟨g, 1, none⟩ = some (.int .i64 (k : Int))) (by kernel_rfl) (fun w2 hh => ⟨CtM.c0 (box_heap hh B), CtM.c1 (box_heap hh B)⟩) (fun w2 hh hbb HS0 => ?_)
                  replace HB := HB.low (hbb _ (Nat.le_refl _)) HB.size
                  replace HI := isB_heap hh HI
                  replace B := box_heap hh B
                  clear hh hbb c0 c1
                  refine TKC 0 77 rfl ?_
                  try simp only [Act.put, zA, zB, zC]
                  refine TKC 1 78 rfl ?_
                  try simp only [Act.put, zA, zB, zC]
                  refine TKC 2 79 rfl ?_
                  try simp only [Act.put, zA, zB, zC]
                  refine TKC 3 80 rfl ?_ (by (intro w hSw; (try dsimp only at hSw); have q1 := hSw.2; go_simp; try with_reducible rfl))
                  try simp only [Act.put, zA, zB, zC]
                  refine TKC 4 81 rfl ?_
                  try simp only [Act.put, zA, zB, zC]
                  refine TKC 5 82 rfl ?_
                  try simp only [Act.put, zA, zB, zC]
                  refine TKC 6 83 rfl ?_
                  try simp only [Act.put, zA, zB, zC]
                  refine TKC 7 84 rfl ?_
                  try simp only [Act.put, zA, zB, zC]
                  refine TKC 8 85 rfl ?_ (by (intro w hSw; (try dsimp only at hSw); have q1 := hSw.1; go_simp; try with_reducible rfl))
                  try simp only [Act.put, zA, zB, zC]
                  refine TKC 9 86 rfl ?_
                  try simp only [Act.put, zA, zB, zC]
                  refine TKC 10 87 (v := .bool false) rfl ?_
                  try simp only [Act.put, zA, zB, zC]
                  refine TKC 11 88 rfl ?_
                  try simp only [Act.put, zA, zB, zC]
                  refine TKC 12 89 rfl ?_
                  try simp only [Act.put, zA, zB, zC]
                  refine TKC 13 90 rfl ?_
                  try simp only [Act.put, zA, zB, zC]
                  refine TKC 14 91 rfl ?_
                  try simp only [Act.put, zA, zB, zC]
                  refine TKC 15 92 rfl ?_ (by (intro w hSw; (try dsimp only at hSw); have q1 := hSw.1; go_simp; try with_reducible rfl))
                  try simp only [Act.put, zA, zB, zC]
                  refine TKC 16 93 rfl ?_
                  try simp only [Act.put, zA, zB, zC]
                  refine TKC 17 94 rfl ?_
                  try simp only [Act.put, zA, zB, zC]
                  refine TKC 18 95 rfl ?_
                  try simp only [Act.put, zA, zB, zC]
                  refine TKC 19 96 rfl ?_ (by (intro w hSw; (try dsimp only at hSw); have q1 := hSw.2; go_simp; try with_reducible rfl))
                  try simp only [Act.put, zA, zB, zC]
                  refine TKC 20 97 rfl ?_
                  try simp only [Act.put, zA, zB, zC]
                  refine TKC 21 98 (v := .int .u8 (d1.toNat : Int)) rfl ?_
                  try simp only [Act.put, zA, zB, zC]
                  refine wpAnyH_ready (rs := [22]) (by kernel_rfl) (by simp) ?_
                  refine AllReadyH.cons (o := ⟨some 99, _, _, _, _, _⟩) rfl (fun K hK => ?_) AllReadyH.nil
                  go_simp
                  (go_at_call 73; (with_reducible refine (HX1.out _).mono ?_); rintro e w3 ⟨rfl, rfl⟩)
                  refine hK.out _ _ HS0 (fun hS2 => ?_)
                  clear hK K hS2
                  try simp only [Act.put, zA, zB, zC]
                  refine TKC 23 100 (v := .bool false) rfl ?_
                  try simp only [Act.put, zA, zB, zC]
                  refine TKC 24 101 (v := .bool false) rfl ?_
                  try simp only [Act.put, zA, zB, zC]
                  refine TKC 25 102 rfl ?_
                  try simp only [Act.put, zA, zB, zC]
                  refine TKC 26 103 rfl ?_
                  try simp only [Act.put, zA, zB, zC]
                  refine TKC 27 104 rfl ?_
                  try simp only [Act.put, zA, zB, zC]
                  refine TKC 28 105 rfl ?_
                  try simp only [Act.put, zA, zB, zC]
                  refine TKC 29 106 rfl ?_ (by (intro w hSw; (try dsimp only at hSw); have q1 := hSw.1; go_simp; try with_reducible rfl))
                  try simp only [Act.put, zA, zB, zC]
                  refine TKC 30 107 rfl ?_
                  try simp only [Act.put, zA, zB, zC]
                  refine TKC 31 108 rfl ?_
                  try simp only [Act.put, zA, zB, zC]
                  refine TKC 32 109 rfl ?_
                  try simp only [Act.put, zA, zB, zC]
                  refine TKC 33 110 rfl ?_ (by (intro w hSw; (try dsimp only at hSw); have q1 := hSw.2; go_simp; try with_reducible rfl))
                  try simp only [Act.put, zA, zB, zC]
                  refine TKC 34 111 rfl ?_
                  try simp only [Act.put, zA, zB, zC]
                  refine TKC 35 112 (v := .int .u8 (d2.toNat : Int)) rfl ?_
                  try simp only [Act.put, zA, zB, zC]
                  refine wpAnyH_ready (rs := [36]) (by kernel_rfl) (by simp) ?_
                  refine AllReadyH.cons (o := ⟨some 113, _, _, _, _, _⟩) rfl (fun K hK => ?_) AllReadyH.nil
                  go_simp
                  (go_at_call 73; (with_reducible refine (HX2.out _).mono ?_); rintro e w3 ⟨rfl, rfl⟩)
                  refine hK.out _ _ HS0 (fun hS2 => ?_)
                  clear hK K hS2
                  try simp only [Act.put, zA, zB, zC]
                  refine TKC 37 114 (v := .bool false) rfl ?_
                  try simp only [Act.put, zA, zB, zC]
                  refine TKC 38 115 (v := .bool false) rfl ?_
                  try simp only [Act.put, zA, zB, zC]
                  refine wpAnyH_done (by kernel_rfl) ?_ _
                  have c0 := HS0.1
                  have c1 := HS0.2
                  clear HS0
                  go_wp2
                  refine wp_region_S (S := fun w' => w'.cell? ⟨g, 0, none⟩ = some (.string s) ∧ w'.cell? ⟨g, 1, none⟩ = some (.int .i64 (k : Int))) (by kernel_rfl) (fun w2 hh => ⟨CtM.c0 (box_heap hh B), CtM.c1 (box_heap hh B)⟩) (fun w2 hh hbb HS0 => ?_)
                  replace HB := HB.low (hbb _ (Nat.le_refl _)) HB.size
                  replace HI := isB_heap hh HI
                  replace B := box_heap hh B
                  clear hh hbb c0 c1
                  refine TKC 0 124 rfl ?_
                  try simp only [Act.put, zA, zB, zC]
                  refine TKC 1 125 rfl ?_
                  try simp only [Act.put, zA, zB, zC]
                  refine TKC 2 126 rfl ?_
                  try simp only [Act.put, zA, zB, zC]
                  refine TKC 3 127 rfl ?_ (by (intro w hSw; (try dsimp only at hSw); have q1 := hSw.1; go_simp; try with_reducible rfl))
                  try simp only [Act.put, zA, zB, zC]
                  refine TKC 4 128 rfl ?_
                  try simp only [Act.put, zA, zB, zC]
                  refine TKC 5 129 rfl ?_
                  try simp only [Act.put, zA, zB, zC]
                  refine TKC 6 130 rfl ?_
                  try simp only [Act.put, zA, zB, zC]
                  refine TKC 7 131 rfl ?_ (by (intro w hSw; (try dsimp only at hSw); have q1 := hSw.2; go_simp; try with_reducible rfl))
                  try simp only [Act.put, zA, zB, zC]
                  refine TKC 8 132 rfl ?_
                  try simp only [Act.put, zA, zB, zC]
                  refine TKC 9 133 (v := .int .u8 (d1.toNat : Int)) rfl ?_
                  try simp only [Act.put, zA, zB, zC]
                  refine TKC 12 136 rfl ?_
                  try simp only [Act.put, zA, zB, zC]
                  refine TKC 13 137 rfl ?_
                  try simp only [Act.put, zA, zB, zC]
                  refine TKC 14 138 rfl ?_
                  try simp only [Act.put, zA, zB, zC]
                  refine TKC 15 139 rfl ?_ (by (intro w hSw; (try dsimp only at hSw); have q1 := hSw.1; go_simp; try with_reducible rfl))
                  try simp only [Act.put, zA, zB, zC]
                  refine TKC 16 140 rfl ?_
                  try simp only [Act.put, zA, zB, zC]
                  refine TKC 17 141 rfl ?_
                  try simp only [Act.put, zA, zB, zC]
                  refine TKC 18 142 rfl ?_
                  try simp only [Act.put, zA, zB, zC]
                  refine TKC 19 143 rfl ?_ (by (intro w hSw; (try dsimp only at hSw); have q1 := hSw.2; go_simp; try with_reducible rfl))
                  try simp only [Act.put, zA, zB, zC]
                  refine TKC 20 144 rfl ?_
                  try simp only [Act.put, zA, zB, zC]
                  refine TKC 21 145 (v := .int .u8 (d2.toNat : Int)) rfl ?_
                  try simp only [Act.put, zA, zB, zC]
                  refine wpAnyH_ready (rs := [10]) (by kernel_rfl) (by simp) ?_
                  refine AllReadyH.cons (o := ⟨some 134, _, _, _, _, _⟩) rfl (fun K hK => ?_) AllReadyH.nil
                  go_simp
                  (go_at_call 73; (with_reducible refine (HX1.out _).mono ?_); rintro e w3 ⟨rfl, rfl⟩)
                  refine hK.out _ _ HS0 (fun hS2 => ?_)
                  clear hK K hS2
                  try simp only [Act.put, zA, zB, zC]
                  refine TKC 11 135 rfl ?_
                  try simp only [Act.put, zA, zB, zC]
                  refine wpAnyH_ready (rs := [22]) (by kernel_rfl) (by simp) ?_
                  refine AllReadyH.cons (o := ⟨some 146, _, _, _, _, _⟩) rfl (fun K hK => ?_) AllReadyH.nil
                  go_simp
                  (go_at_call 73; (with_reducible refine (HX2.out _).mono ?_); rintro e w3 ⟨rfl, rfl⟩)
                  refine hK.out _ _ HS0 (fun hS2 => ?_)
                  clear hK K hS2
                  try simp only [Act.put, zA, zB, zC]
                  refine TKC 23 147 rfl ?_
                  try simp only [Act.put, zA, zB, zC]
                  refine TKC 24 148 (v := .int .u8 (bb.toNat : Int)) rfl ?_ (by (intro w hSw; (try dsimp only at hSw); have q1 := HBY.out; go_simp; try with_reducible rfl))
                  try simp only [Act.put, zA, zB, zC]
                  refine wpAnyH_ready (rs := [25]) (by kernel_rfl) (by simp) ?_
                  refine AllReadyH.cons (o := ⟨some 149, _, _, _, _, _⟩) rfl (fun K hK => ?_) AllReadyH.nil
                  go_simp
                  (go_at_call 47; go_loud (with_reducible refine (wbyte_any (n := (bb.toNat : Int)) (c := bb) rfl HI (by have := HL.out; unfold wTop; omega) (by have := HB.size; omega)).mono ?_); rintro e w9 ⟨rfl, hi9, hk9⟩; replace HI := hi9; replace B := IBox.below B hk9.1 HG.out; replace HB := HB.low hk9.1 (Nat.le_refl _); clear hi9 hk9 )
                  replace HS0 : w9.cell? ⟨g, 0, none⟩ = some (.string s) ∧ w9.cell? ⟨g, 1, none⟩ = some (.int .i64 (k : Int)) := ⟨(CtM.c0 B), (CtM.c1 B)⟩
                  refine hK.out _ _ HS0 (fun hS2 => ?_)
                  clear hK K hS2
                  try simp only [Act.put, zA, zB, zC]
                  refine wpAnyH_done (by kernel_rfl) ?_ _
                  have c0 := HS0.1
                  have c1 := HS0.2
                  clear HS0
                  go_wp2_with (first
                    | ((with_reducible refine is_store ?_); refine wpl_store_cell rfl 3 (.tmp 156) (.tmp 154) rfl g 1 rfl (.int .i64 ((k : Int) + 3)) rfl _ _ B (show 1 < 2 by decide) one_i rfl ?_; intro w11 hw; replace HB := Bes.trans (Z := (· = g)) HB (Bes.row (X := fun q => q = g) hw rfl) (fun _ e => e) (fun _ _ e => e); replace HI := isB_row HI hw HG.out; replace B := hid_row hw B; clear hw c0 c1))
                  go_roundw
                  case rel => ((repeat apply Exists.intro); exact ⟨⟨k + 3, _, by omega, by (simp only [List.length_append, List.length_singleton]; omega), B, HI, HB, HN⟩, rfl⟩)
                  case measure =>
                    rw [ctPos_of B0.out, ctPos_of (k := k + 3) B]
                    omega
          · have HN := Lib.hid (HPL.out.plain hc hcon hbad h37)
            have n1 : ¬ (c.toNat : Int) < 33 := by omega
            have n2 : ¬ 126 < (c.toNat : Int) := by omega
            have n3 : ((c.toNat : Int) == 35) = false := by rw [beq_eq_false_iff_ne]; omega
            have n4 : ((c.toNat : Int) == 37) = false := by rw [beq_eq_false_iff_ne]; omega
            clear hcon hc hbad h37
            go_wp2
            refine wp_region_S (S := fun w' => w'.cell? ⟨g, 0, none⟩ = some (.string s) ∧ w'.cell? ⟨g, 1, none⟩ = some (.int .i64 (k : Int))) (by kernel_rfl) (fun w2 hh => ⟨CtM.c0 (box_heap hh B), CtM.c1 (box_heap hh B)⟩) (fun w2 hh hbb HS0 => ?_)
            replace HB := HB.low (hbb _ (Nat.le_refl _)) HB.size
            replace HI := isB_heap hh HI
            replace B := box_heap hh B
            clear hh hbb c0 c1
            refine TKC 0 13 rfl ?_
            try simp only [Act.put, zA, zB, zC]
            refine TKC 1 14 rfl ?_
            try simp only [Act.put, zA, zB, zC]
            refine TKC 2 15 rfl ?_
            try simp only [Act.put, zA, zB, zC]
            refine TKC 3 16 rfl ?_ (by (intro w hSw; (try dsimp only at hSw); have q1 := hSw.2; go_simp; try with_reducible rfl))
            try simp only [Act.put, zA, zB, zC]
            refine TKC 4 17 rfl ?_
            try simp only [Act.put, zA, zB, zC]
            refine TKC 5 18 rfl ?_
            try simp only [Act.put, zA, zB, zC]
            refine TKC 6 19 rfl ?_
            try simp only [Act.put, zA, zB, zC]
            refine TKC 7 20 rfl ?_ (by (intro w hSw; (try dsimp only at hSw); have q1 := hSw.1; go_simp; try with_reducible rfl))
            try simp only [Act.put, zA, zB, zC]
            refine TKC 8 21 rfl ?_
            try simp only [Act.put, zA, zB, zC]
            refine TKC 9 22 (v := .bool true) rfl ?_
            try simp only [Act.put, zA, zB, zC]
            refine TKC 10 23 rfl ?_
            try simp only [Act.put, zA, zB, zC]
            refine TKC 11 24 rfl ?_
            try simp only [Act.put, zA, zB, zC]
            refine TKC 12 25 rfl ?_
            try simp only [Act.put, zA, zB, zC]
            refine TKC 13 26 rfl ?_
            try simp only [Act.put, zA, zB, zC]
            refine TKC 14 27 rfl ?_
            try simp only [Act.put, zA, zB, zC]
            refine TKC 15 28 rfl ?_ (by (intro w hSw; (try dsimp only at hSw); have q1 := hSw.1; go_simp; try with_reducible rfl))
            try simp only [Act.put, zA, zB, zC]
            refine TKC 16 29 rfl ?_
            try simp only [Act.put, zA, zB, zC]
            refine TKC 17 30 rfl ?_
            try simp only [Act.put, zA, zB, zC]
            refine TKC 18 31 rfl ?_
            try simp only [Act.put, zA, zB, zC]
            refine TKC 19 32 rfl ?_ (by (intro w hSw; (try dsimp only at hSw); have q1 := hSw.2; go_simp; try with_reducible rfl))
            try simp only [Act.put, zA, zB, zC]
            refine TKC 20 33 (v := .int .u8 (c.toNat : Int)) rfl ?_
            try simp only [Act.put, zA, zB, zC]
            refine wpAnyH_ready (rs := [21]) (by kernel_rfl) (by simp) ?_
            refine AllReadyH.cons (o := ⟨some 34, _, _, _, _, _⟩) rfl (fun K hK => ?_) AllReadyH.nil
            go_simp
            (go_at_call 58; (with_reducible refine (HX.out _).mono ?_); rintro e w3 ⟨rfl, rfl⟩)
            refine hK.out _ _ HS0 (fun hS2 => ?_)
            clear hK K hS2
            try simp only [Act.put, zA, zB, zC]
            refine TKC 22 35 (v := .bool true) rfl ?_
            try simp only [Act.put, zA, zB, zC]
            refine TKC 23 36 (v := .bool true) rfl ?_
            try simp only [Act.put, zA, zB, zC]
            refine wpAnyH_done (by kernel_rfl) ?_ _
            have c0 := HS0.1
            have c1 := HS0.2
            clear HS0
            go_wp2
            refine wp_region_S (S := fun w' => w'.cell? ⟨g, 0, none⟩ = some (.string s) ∧ w'.cell? ⟨g, 1, none⟩ = some (.int .i64 (k : Int))) (by kernel_rfl) (fun w2 hh => ⟨CtM.c0 (box_heap hh B), CtM.c1 (box_heap hh B)⟩) (fun w2 hh hbb HS0 => ?_)
            replace HB := HB.low (hbb _ (Nat.le_refl _)) HB.size
            replace HI := isB_heap hh HI
            replace B := box_heap hh B
            clear hh hbb c0 c1
            refine TKC 0 37 rfl ?_
            try simp only [Act.put, zA, zB, zC]
            refine TKC 1 38 rfl ?_
            try simp only [Act.put, zA, zB, zC]
            refine TKC 2 39 rfl ?_
            try simp only [Act.put, zA, zB, zC]
            refine TKC 3 40 rfl ?_ (by (intro w hSw; (try dsimp only at hSw); have q1 := hSw.1; go_simp; try with_reducible rfl))
            try simp only [Act.put, zA, zB, zC]
            refine TKC 4 41 rfl ?_
            try simp only [Act.put, zA, zB, zC]
            refine TKC 5 42 rfl ?_
            try simp only [Act.put, zA, zB, zC]
            refine TKC 6 43 rfl ?_
            try simp only [Act.put, zA, zB, zC]
            refine TKC 7 44 rfl ?_ (by (intro w hSw; (try dsimp only at hSw); have q1 := hSw.2; go_simp; try with_reducible rfl))
            try simp only [Act.put, zA, zB, zC]
            refine TKC 8 45 (v := .int .u8 (c.toNat : Int)) rfl ?_
            try simp only [Act.put, zA, zB, zC]
            refine TKC 9 8 rfl ?_
            try simp only [Act.put, zA, zB, zC]
            refine wpAnyH_done (by kernel_rfl) ?_ _
            have c0 := HS0.1
            have c1 := HS0.2
            clear HS0
            go_wp2_with (first
              | (go_at_call 47; go_loud (with_reducible refine (wbyte_any (n := (c.toNat : Int)) (c := c) rfl HI (by have := HL.out; unfold wTop; omega) (by have := HB.size; omega)).mono ?_); rintro e w9 ⟨rfl, hi9, hk9⟩; replace HI := hi9; replace B := IBox.below B hk9.1 HG.out; replace HB := HB.low hk9.1 (Nat.le_refl _); clear hi9 hk9 c0 c1; have c0 := (CtM.c0 B); have c1 := (CtM.c1 B))
              | ((with_reducible refine is_store ?_); refine wpl_store_cell rfl 3 (.tmp 54) (.tmp 52) rfl g 1 rfl (.int .i64 ((k : Int) + 1)) rfl _ _ B (show 1 < 2 by decide) one_i rfl ?_; intro w11 hw; replace HB := Bes.trans (Z := (· = g)) HB (Bes.row (X := fun q => q = g) hw rfl) (fun _ e => e) (fun _ _ e => e); replace HI := isB_row HI hw HG.out; replace B := hid_row hw B; clear hw c0 c1))
            go_roundw
            case rel => ((repeat apply Exists.intro); exact ⟨⟨k + 1, _, by omega, by (simp only [List.length_append, List.length_singleton]; omega), B, HI, HB, HN⟩, rfl⟩)
            case measure =>
              rw [ctPos_of B0.out, ctPos_of (k := k + 1) B]
              omega
      · have hx : ¬ ix < 0 := by
          have := hix.1.2 hcon
          omega
        have HF := HPL.out.stop hc hcon
        clear hix hc hcon
        go_wp2
        refine wp_region_S (S := fun w' => w'.cell? ⟨g, 0, none⟩ = some (.string s) ∧ w'.cell? ⟨g, 1, none⟩ = some (.int .i64 (k : Int))) (by kernel_rfl) (fun w2 hh => ⟨CtM.c0 (box_heap hh B), CtM.c1 (box_heap hh B)⟩) (fun w2 hh hbb HS0 => ?_)
        replace HB := HB.low (hbb _ (Nat.le_refl _)) HB.size
        replace HI := isB_heap hh HI
        replace B := box_heap hh B
        clear hh hbb c0 c1
        refine TKC 0 13 rfl ?_
        try simp only [Act.put, zA, zB, zC]
        refine TKC 1 14 rfl ?_
        try simp only [Act.put, zA, zB, zC]
        refine TKC 2 15 rfl ?_
        try simp only [Act.put, zA, zB, zC]
        refine TKC 3 16 rfl ?_ (by (intro w hSw; (try dsimp only at hSw); have q1 := hSw.2; go_simp; try with_reducible rfl))
        try simp only [Act.put, zA, zB, zC]
        refine TKC 4 17 rfl ?_
        try simp only [Act.put, zA, zB, zC]
        refine TKC 5 18 rfl ?_
        try simp only [Act.put, zA, zB, zC]
        refine TKC 6 19 rfl ?_
        try simp only [Act.put, zA, zB, zC]
        refine TKC 7 20 rfl ?_ (by (intro w hSw; (try dsimp only at hSw); have q1 := hSw.1; go_simp; try with_reducible rfl))
        try simp only [Act.put, zA, zB, zC]
        refine TKC 8 21 rfl ?_
        try simp only [Act.put, zA, zB, zC]
        refine TKC 9 22 (v := .bool true) rfl ?_
        try simp only [Act.put, zA, zB, zC]
        refine TKC 10 23 rfl ?_
        try simp only [Act.put, zA, zB, zC]
        refine TKC 11 24 rfl ?_
        try simp only [Act.put, zA, zB, zC]
        refine TKC 12 25 rfl ?_
        try simp only [Act.put, zA, zB, zC]
        refine TKC 13 26 rfl ?_
        try simp only [Act.put, zA, zB, zC]
        refine TKC 14 27 rfl ?_
        try simp only [Act.put, zA, zB, zC]
        refine TKC 15 28 rfl ?_ (by (intro w hSw; (try dsimp only at hSw); have q1 := hSw.1; go_simp; try with_reducible rfl))
        try simp only [Act.put, zA, zB, zC]
        refine TKC 16 29 rfl ?_
        try simp only [Act.put, zA, zB, zC]
        refine TKC 17 30 rfl ?_
        try simp only [Act.put, zA, zB, zC]
        refine TKC 18 31 rfl ?_
        try simp only [Act.put, zA, zB, zC]
        refine TKC 19 32 rfl ?_ (by (intro w hSw; (try dsimp only at hSw); have q1 := hSw.2; go_simp; try with_reducible rfl))
        try simp only [Act.put, zA, zB, zC]
        refine TKC 20 33 (v := .int .u8 (c.toNat : Int)) rfl ?_
        try simp only [Act.put, zA, zB, zC]
        refine wpAnyH_ready (rs := [21]) (by kernel_rfl) (by simp) ?_
        refine AllReadyH.cons (o := ⟨some 34, _, _, _, _, _⟩) rfl (fun K hK => ?_) AllReadyH.nil
        go_simp
        (go_at_call 58; (with_reducible refine (HX.out _).mono ?_); rintro e w3 ⟨rfl, rfl⟩)
        refine hK.out _ _ HS0 (fun hS2 => ?_)
        clear hK K hS2
        try simp only [Act.put, zA, zB, zC]
        refine TKC 22 35 (v := .bool false) rfl ?_
        try simp only [Act.put, zA, zB, zC]
        refine TKC 23 36 (v := .bool false) rfl ?_
        try simp only [Act.put, zA, zB, zC]
        refine wpAnyH_done (by kernel_rfl) ?_ _
        have c0 := HS0.1
        have c1 := HS0.2
        clear HS0
        have HBD : Hid (r = .inr (acc, k)) := Lib.hid HF
        have HQ : Hid (Q0 = if badI (txt acc) < 0 then .inr (txt acc, k) else .inl (7, kf)) := Lib.hid (by rw [HR.out, HBD.out])
        clear HF
        generalize hbi : badI (txt acc) = bi at HQ
        have HI8 := Lib.hid hbi
        clear hbi
        by_cases hneg : bi < 0
        · have HQ2 : Hid (Q0 = .inr (txt acc, k)) := Lib.hid (by rw [HQ.out, if_pos hneg])
          have hng : ¬ 0 ≤ bi := by omega
          go_wp2_with (first
            | (go_at_call 49; go_loud (refine (Tryz.Builder_String_any_k _ _ acc _ HI (by have := HB.size; omega)).mono ?_); rintro e w9 ⟨rfl, hi9, hb9, _⟩; replace HI := hi9; replace B := IBox.below B hb9 HG.out; replace HB := HB.low hb9 (Nat.le_refl _); clear hi9 hb9 c0 c1; have c0 := (CtM.c0 B); have c1 := (CtM.c1 B))
            | (go_at_call 74; (refine (ubad_any (s := txt acc) (((HW.out.below (HB.below (fun q e => by rw [e]; exact HGB.out) HBW.out)).up (Nat.le_trans HBW.out HB.size))) (by rw [txt_size]; have := HL.out; omega)).mono ?_); rintro e w8 ⟨rfl, hb⟩; rw [HI8.out]; have hb8 := hb; replace HI := isB_below HI hb; replace B := zI B hb; replace HB := HB.low hb HB.size; clear hb hb8 c0 c1; have c0 := (CtM.c0 B); have c1 := (CtM.c1 B)))
          go_ret2
          exact ⟨HB, by rw [HQ2.out]; exact ⟨rfl, B, hks⟩⟩
        · have HQ2 : Hid (Q0 = .inl (7, kf)) := Lib.hid (by rw [HQ.out, if_neg hneg])
          have hng : 0 ≤ bi := by omega
          go_wp2_with (first
            | (go_at_call 49; go_loud (refine (Tryz.Builder_String_any_k _ _ acc _ HI (by have := HB.size; omega)).mono ?_); rintro e w9 ⟨rfl, hi9, hb9, _⟩; replace HI := hi9; replace B := IBox.below B hb9 HG.out; replace HB := HB.low hb9 (Nat.le_refl _); clear hi9 hb9 c0 c1; have c0 := (CtM.c0 B); have c1 := (CtM.c1 B))
            | (go_at_call 74; (refine (ubad_any (s := txt acc) (((HW.out.below (HB.below (fun q e => by rw [e]; exact HGB.out) HBW.out)).up (Nat.le_trans HBW.out HB.size))) (by rw [txt_size]; have := HL.out; omega)).mono ?_); rintro e w8 ⟨rfl, hb⟩; rw [HI8.out]; have hb8 := hb; replace HI := isB_below HI hb; replace B := zI B hb; replace HB := HB.low hb HB.size; clear hb hb8 c0 c1; have c0 := (CtM.c0 B); have c1 := (CtM.c1 B))
            | (refine wpl_box_at rfl 85 (.tmp 162) rfl (FaultA (kf : Int) 7) rfl ?_; intro w10 hw; have BF := hid_alloc0 hw; have hb := hid_grow hw; replace HB := HB.low hb HB.size; clear hw))
          go_ret2
          exact ⟨HB, by rw [HQ2.out]; exact ⟨_, rfl, _, rfl, BF⟩⟩
    · have hi : ¬ (k : Int) < (s.size : Int) := by omega
      have HF := HPL.out.fin hlt
      go_wp2
      refine wp_region_S (S := fun w' => w'.cell? ⟨g, 0, none⟩ = some (.string s) ∧ w'.cell? ⟨g, 1, none⟩ = some (.int .i64 (k : Int))) (by kernel_rfl) (fun w2 hh => ⟨CtM.c0 (box_heap hh B), CtM.c1 (box_heap hh B)⟩) (fun w2 hh hbb HS0 => ?_)
      replace HB := HB.low (hbb _ (Nat.le_refl _)) HB.size
      replace HI := isB_heap hh HI
      replace B := box_heap hh B
      clear hh hbb c0 c1
      refine TKC 0 13 rfl ?_
      try simp only [Act.put, zA, zB, zC]
      refine TKC 1 14 rfl ?_
      try simp only [Act.put, zA, zB, zC]
      refine TKC 2 15 rfl ?_
      try simp only [Act.put, zA, zB, zC]
      refine TKC 3 16 rfl ?_ (by (intro w hSw; (try dsimp only at hSw); have q1 := hSw.2; go_simp; try with_reducible rfl))
      try simp only [Act.put, zA, zB, zC]
      refine TKC 4 17 rfl ?_
      try simp only [Act.put, zA, zB, zC]
      refine TKC 5 18 rfl ?_
      try simp only [Act.put, zA, zB, zC]
      refine TKC 6 19 rfl ?_
      try simp only [Act.put, zA, zB, zC]
      refine TKC 7 20 rfl ?_ (by (intro w hSw; (try dsimp only at hSw); have q1 := hSw.1; go_simp; try with_reducible rfl))
      try simp only [Act.put, zA, zB, zC]
      refine TKC 8 21 rfl ?_
      try simp only [Act.put, zA, zB, zC]
      refine TKC 9 22 (v := .bool false) rfl ?_
      try simp only [Act.put, zA, zB, zC]
      refine TKC 10 23 rfl ?_
      try simp only [Act.put, zA, zB, zC]
      refine TKN 11 24 rfl ?_
      try simp only [Act.put, zA, zB, zC]
      refine TKN 12 25 rfl ?_
      try simp only [Act.put, zA, zB, zC]
      refine TKN 13 26 rfl ?_
      try simp only [Act.put, zA, zB, zC]
      refine TKN 14 27 rfl ?_
      try simp only [Act.put, zA, zB, zC]
      refine TKN 15 28 rfl ?_
      try simp only [Act.put, zA, zB, zC]
      refine TKN 16 29 rfl ?_
      try simp only [Act.put, zA, zB, zC]
      refine TKN 17 30 rfl ?_
      try simp only [Act.put, zA, zB, zC]
      refine TKN 18 31 rfl ?_
      try simp only [Act.put, zA, zB, zC]
      refine TKN 19 32 rfl ?_
      try simp only [Act.put, zA, zB, zC]
      refine TKN 20 33 rfl ?_
      try simp only [Act.put, zA, zB, zC]
      refine TKN 21 34 rfl ?_
      try simp only [Act.put, zA, zB, zC]
      refine TKN 22 35 rfl ?_
      try simp only [Act.put, zA, zB, zC]
      refine TKC 23 36 (v := .bool false) rfl ?_
      try simp only [Act.put, zA, zB, zC]
      refine wpAnyH_done (by kernel_rfl) ?_ _
      have c0 := HS0.1
      have c1 := HS0.2
      clear HS0
      have HBD : Hid (r = .inr (acc, k)) := Lib.hid HF
      have HQ : Hid (Q0 = if badI (txt acc) < 0 then .inr (txt acc, k) else .inl (7, kf)) := Lib.hid (by rw [HR.out, HBD.out])
      clear HF
      generalize hbi : badI (txt acc) = bi at HQ
      have HI8 := Lib.hid hbi
      clear hbi
      by_cases hneg : bi < 0
      · have HQ2 : Hid (Q0 = .inr (txt acc, k)) := Lib.hid (by rw [HQ.out, if_pos hneg])
        have hng : ¬ 0 ≤ bi := by omega
        go_wp2_with (first
          | (go_at_call 49; go_loud (refine (Tryz.Builder_String_any_k _ _ acc _ HI (by have := HB.size; omega)).mono ?_); rintro e w9 ⟨rfl, hi9, hb9, _⟩; replace HI := hi9; replace B := IBox.below B hb9 HG.out; replace HB := HB.low hb9 (Nat.le_refl _); clear hi9 hb9 c0 c1; have c0 := (CtM.c0 B); have c1 := (CtM.c1 B))
          | (go_at_call 74; (refine (ubad_any (s := txt acc) (((HW.out.below (HB.below (fun q e => by rw [e]; exact HGB.out) HBW.out)).up (Nat.le_trans HBW.out HB.size))) (by rw [txt_size]; have := HL.out; omega)).mono ?_); rintro e w8 ⟨rfl, hb⟩; rw [HI8.out]; have hb8 := hb; replace HI := isB_below HI hb; replace B := zI B hb; replace HB := HB.low hb HB.size; clear hb hb8 c0 c1; have c0 := (CtM.c0 B); have c1 := (CtM.c1 B)))
        go_ret2
        exact ⟨HB, by rw [HQ2.out]; exact ⟨rfl, B, hks⟩⟩
      · have HQ2 : Hid (Q0 = .inl (7, kf)) := Lib.hid (by rw [HQ.out, if_neg hneg])
        have hng : 0 ≤ bi := by omega
        go_wp2_with (first
          | (go_at_call 49; go_loud (refine (Tryz.Builder_String_any_k _ _ acc _ HI (by have := HB.size; omega)).mono ?_); rintro e w9 ⟨rfl, hi9, hb9, _⟩; replace HI := hi9; replace B := IBox.below B hb9 HG.out; replace HB := HB.low hb9 (Nat.le_refl _); clear hi9 hb9 c0 c1; have c0 := (CtM.c0 B); have c1 := (CtM.c1 B))
          | (go_at_call 74; (refine (ubad_any (s := txt acc) (((HW.out.below (HB.below (fun q e => by rw [e]; exact HGB.out) HBW.out)).up (Nat.le_trans HBW.out HB.size))) (by rw [txt_size]; have := HL.out; omega)).mono ?_); rintro e w8 ⟨rfl, hb⟩; rw [HI8.out]; have hb8 := hb; replace HI := isB_below HI hb; replace B := zI B hb; replace HB := HB.low hb HB.size; clear hb hb8 c0 c1; have c0 := (CtM.c0 B); have c1 := (CtM.c1 B))
          | (refine wpl_box_at rfl 85 (.tmp 162) rfl (FaultA (kf : Int) 7) rfl ?_; intro w10 hw; have BF := hid_alloc0 hw; have hb := hid_grow hw; replace HB := HB.low hb HB.size; clear hw))
        go_ret2
        exact ⟨HB, by rw [HQ2.out]; exact ⟨_, rfl, _, rfl, BF⟩⟩
end Go.Proofs.YtbehakabglegjaaGreatDoor
