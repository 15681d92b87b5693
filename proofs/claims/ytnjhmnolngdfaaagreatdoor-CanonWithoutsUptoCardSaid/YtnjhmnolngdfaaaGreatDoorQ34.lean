/- Layer 3: the law CanonWithouts answers true. A row of texts, read from an argument. Layer 2, the document's reader (coveyref02): fail, next, blanks, word, hex. -/
import Derived.Test.YtnjhmnolngdfaaaGreatDoorQ33
import Derived.Test.YtnjhmnolngdfaaaGreatDoorQ24
import Derived.Test.YtnjhmnolngdfaaaGreatDoorQ32
import Derived.Test.YtnjhmnolngdfaaaGreatDoorQ06
import Derived.Test.YtnjhmnolngdfaaaGreatDoorQZip
namespace Go.Proofs.YtnjhmnolngdfaaaGreatDoor
open Go.RowKit Go.PlainAid
set_option linter.unusedVariables false
set_option linter.unusedSimpArgs false
theorem zero_is (w : World) : IsJV w JV.zero := (leaf_ok w w (k := 0) (i := 0) (b := false) (t := ⟨#[]⟩) mi0 mi0 mze).1
theorem wit_ways (j : JV) : witC j = 0 ∨ witC j = 2 ∨ witC j = 8 := by
  unfold witC
  split
  · exact wrt_codes (er j)
  · exact .inr (.inr rfl)
set_option maxRecDepth 100000 in
set_option maxHeartbeats 8000000 in
theorem withouts_any {j : JV} {w : World} {nA : Option Addr} {nn nc : Nat} {L : List ByteArray} (HJ : IsJV w j) (hz : SzT (er j) ≤ 1048576) (hW : Wc w) (HNM : NamesAt w nA 1 0 L) (hnn : nn = L.length) (hnb : nn ≤ 9223372036854775807) : Calls Tryz.prog 5 #[.agg j.cells, .slice nA nn nc] w fun e w' => e = .returned (.bool true) ∧ Below w.heap.size w w' := by
  have HZ := Lib.hid hz
  have HW := Lib.hid hW
  have HNN := Lib.hid hnn
  have HNB := Lib.hid hnb
  have HB := Below.refl w.heap.size w
  clear hz hW hnn hnb
  by_cases hwc : witC j = 0
  · have HC := Lib.hid hwc
    clear hwc
    go_enter Tryz.func5, Tryz.ntmps5
    go_wp2_with (first
      | (refine wpl_box_at rfl 25 (.tmp 0) rfl _ rfl ?_; intro w1 hw; have hb := hid_grow hw; have B2 := (hid_alloc hw).1; replace HB := zT HB hb; (try replace HJ := HJ.below hb); (try replace HX := HX.below hb); (try replace HY := HY.below hb); (try replace HNM := HNM.below hb); (try replace B6 := zI B6 hb); (try replace B8 := zI B8 hb); clear hb hw))
    refine (shown_any (Wc.below HB HW.out)).mono ?_
    rintro e w2 ⟨rfl, hb⟩
    replace HB := zT HB hb
    (try replace HJ := HJ.below hb)
    (try replace HX := HX.below hb)
    (try replace HY := HY.below hb)
    (try replace HNM := HNM.below hb)
    (try replace B2 := zI B2 hb)
    (try replace B6 := zI B6 hb)
    (try replace B8 := zI B8 hb)
    clear hb
    go_wp2_with (first
      | ((with_reducible refine is_load ?_); refine wpl_load_box rfl 25 (.tmp 2) rfl _ rfl _ _ _ B2 Tryz.underlying25 rfl info_value ?_))
    refine (without_any HJ HZ.out (Wc.below HB HW.out) HNM HNN.out HNB.out).mono ?_
    intro e w3 hnm
    obtain ⟨hb, hnm⟩ := hnm
    rw [if_pos HC.out] at hnm
    obtain ⟨x, he, HX, hex, _⟩ := hnm
    subst he
    have EX := Lib.hid hex
    clear hex
    replace HB := zT HB hb
    (try replace HJ := HJ.below hb)
    (try replace HY := HY.below hb)
    (try replace HNM := HNM.below hb)
    (try replace B2 := zI B2 hb)
    (try replace B6 := zI B6 hb)
    (try replace B8 := zI B8 hb)
    clear hb
    go_wp2_with (first
      | ((with_reducible refine is_alloc ?_); refine wpl_newbox 6 rfl rfl 25 rfl rfl (.tmp 16) rfl _ zeroV x.cells rfl rfl info_value rfl (jv_one _) ?_; intro w5 hw; have hb := hid_grow hw; have B6 := (hid_alloc hw).1; replace HB := zT HB hb; (try replace HJ := HJ.below hb); (try replace HX := HX.below hb); (try replace HY := HY.below hb); (try replace HNM := HNM.below hb); (try replace B2 := zI B2 hb); (try replace B8 := zI B8 hb); clear hb hw)
      | ((with_reducible refine is_load ?_); refine wpl_load_box rfl 25 (.tmp 2) rfl _ rfl _ _ _ B2 Tryz.underlying25 rfl info_value ?_))
    refine (rwithout_any HJ HZ.out HNM HNN.out HNB.out).mono ?_
    intro e w6 hnm
    obtain ⟨hb, hnm⟩ := hnm
    rw [if_pos HC.out] at hnm
    obtain ⟨y, he, HY, hey⟩ := hnm
    subst he
    have EY := Lib.hid hey
    clear hey
    replace HB := zT HB hb
    (try replace HJ := HJ.below hb)
    (try replace HX := HX.below hb)
    (try replace HNM := HNM.below hb)
    (try replace B2 := zI B2 hb)
    (try replace B6 := zI B6 hb)
    (try replace B8 := zI B8 hb)
    clear hb
    go_wp2_with (first
      | ((with_reducible refine is_alloc ?_); refine wpl_newbox 8 rfl rfl 25 rfl rfl (.tmp 22) rfl _ zeroV y.cells rfl rfl info_value rfl (jv_one _) ?_; intro w7 hw; have hb := hid_grow hw; have B8 := (hid_alloc hw).1; replace HB := zT HB hb; (try replace HJ := HJ.below hb); (try replace HX := HX.below hb); (try replace HY := HY.below hb); (try replace HNM := HNM.below hb); (try replace B2 := zI B2 hb); (try replace B6 := zI B6 hb); clear hb hw)
      | ((with_reducible refine is_load ?_); refine wpl_load_box rfl 25 (.tmp 6) rfl _ rfl _ _ _ B6 Tryz.underlying25 rfl info_value ?_)
      | ((with_reducible refine is_load ?_); refine wpl_load_box rfl 25 (.tmp 8) rfl _ rfl _ _ _ B8 Tryz.underlying25 rfl info_value ?_))
    refine (same_any HX HY (by rw [EX.out, EY.out])).mono ?_
    rintro e w8 ⟨rfl, hb⟩
    replace HB := zT HB hb
    (try replace HJ := HJ.below hb)
    (try replace HX := HX.below hb)
    (try replace HY := HY.below hb)
    (try replace HNM := HNM.below hb)
    (try replace B2 := zI B2 hb)
    (try replace B6 := zI B6 hb)
    (try replace B8 := zI B8 hb)
    clear hb
    go_wp2_with fail
    refine (code_nil _).mono ?_
    rintro e w9 ⟨rfl, rfl⟩
    go_wp2
    go_ret
    exact ⟨rfl, HB⟩
  · obtain ⟨c, hcc⟩ : ∃ c, c = witC j := ⟨_, rfl⟩
    have HC := Lib.hid hcc.symm
    have HV := Lib.hid (show c = 0 ∨ c = 2 ∨ c = 8 by rw [hcc]; exact wit_ways j)
    have hc : c ≠ 0 := by rw [hcc]; exact hwc
    clear hwc hcc
    go_enter Tryz.func5, Tryz.ntmps5
    go_wp2_with (first
      | (refine wpl_box_at rfl 25 (.tmp 0) rfl _ rfl ?_; intro w1 hw; have hb := hid_grow hw; have B2 := (hid_alloc hw).1; replace HB := zT HB hb; (try replace HJ := HJ.below hb); (try replace HX := HX.below hb); (try replace HY := HY.below hb); (try replace HNM := HNM.below hb); (try replace B6 := zI B6 hb); (try replace B8 := zI B8 hb); clear hb hw))
    refine (shown_any (Wc.below HB HW.out)).mono ?_
    rintro e w2 ⟨rfl, hb⟩
    replace HB := zT HB hb
    (try replace HJ := HJ.below hb)
    (try replace HX := HX.below hb)
    (try replace HY := HY.below hb)
    (try replace HNM := HNM.below hb)
    (try replace B2 := zI B2 hb)
    (try replace B6 := zI B6 hb)
    (try replace B8 := zI B8 hb)
    clear hb
    go_wp2_with (first
      | ((with_reducible refine is_load ?_); refine wpl_load_box rfl 25 (.tmp 2) rfl _ rfl _ _ _ B2 Tryz.underlying25 rfl info_value ?_))
    refine (without_any HJ HZ.out (Wc.below HB HW.out) HNM HNN.out HNB.out).mono ?_
    intro e w3 hnm
    obtain ⟨hb, hnm⟩ := hnm
    rw [if_neg (by rw [HC.out]; exact hc), HC.out] at hnm
    subst hnm
    replace HB := zT HB hb
    (try replace HJ := HJ.below hb)
    (try replace HX := HX.below hb)
    (try replace HY := HY.below hb)
    (try replace HNM := HNM.below hb)
    (try replace B2 := zI B2 hb)
    (try replace B6 := zI B6 hb)
    (try replace B8 := zI B8 hb)
    clear hb
    go_wp2_with (first
      | ((with_reducible refine is_alloc ?_); refine wpl_newbox 6 rfl rfl 25 rfl rfl (.tmp 16) rfl _ zeroV JV.zero.cells rfl rfl info_value rfl (jv_one _) ?_; intro w5 hw; have hb := hid_grow hw; have B6 := (hid_alloc hw).1; replace HB := zT HB hb; (try replace HJ := HJ.below hb); (try replace HX := HX.below hb); (try replace HY := HY.below hb); (try replace HNM := HNM.below hb); (try replace B2 := zI B2 hb); (try replace B8 := zI B8 hb); clear hb hw)
      | ((with_reducible refine is_load ?_); refine wpl_load_box rfl 25 (.tmp 2) rfl _ rfl _ _ _ B2 Tryz.underlying25 rfl info_value ?_))
    refine (rwithout_any HJ HZ.out HNM HNN.out HNB.out).mono ?_
    intro e w6 hnm
    obtain ⟨hb, hnm⟩ := hnm
    rw [if_neg (by rw [HC.out]; exact hc), HC.out] at hnm
    subst hnm
    replace HB := zT HB hb
    (try replace HJ := HJ.below hb)
    (try replace HX := HX.below hb)
    (try replace HY := HY.below hb)
    (try replace HNM := HNM.below hb)
    (try replace B2 := zI B2 hb)
    (try replace B6 := zI B6 hb)
    (try replace B8 := zI B8 hb)
    clear hb
    go_wp2_with (first
      | ((with_reducible refine is_alloc ?_); refine wpl_newbox 8 rfl rfl 25 rfl rfl (.tmp 22) rfl _ zeroV JV.zero.cells rfl rfl info_value rfl (jv_one _) ?_; intro w7 hw; have hb := hid_grow hw; have B8 := (hid_alloc hw).1; replace HB := zT HB hb; (try replace HJ := HJ.below hb); (try replace HX := HX.below hb); (try replace HY := HY.below hb); (try replace HNM := HNM.below hb); (try replace B2 := zI B2 hb); (try replace B6 := zI B6 hb); clear hb hw)
      | ((with_reducible refine is_load ?_); refine wpl_load_box rfl 25 (.tmp 6) rfl _ rfl _ _ _ B6 Tryz.underlying25 rfl info_value ?_)
      | ((with_reducible refine is_load ?_); refine wpl_load_box rfl 25 (.tmp 8) rfl _ rfl _ _ _ B8 Tryz.underlying25 rfl info_value ?_))
    refine (same_any (zero_is _) (zero_is _) rfl).mono ?_
    rintro e w8 ⟨rfl, hb⟩
    replace HB := zT HB hb
    (try replace HJ := HJ.below hb)
    (try replace HX := HX.below hb)
    (try replace HY := HY.below hb)
    (try replace HNM := HNM.below hb)
    (try replace B2 := zI B2 hb)
    (try replace B6 := zI B6 hb)
    (try replace B8 := zI B8 hb)
    clear hb
    go_wp2_with fail
    refine (one_code HV.out hc _).mono ?_
    rintro e w9 ⟨rfl, rfl⟩
    go_wp2
    go_ret
    exact ⟨rfl, HB⟩
end Go.Proofs.YtnjhmnolngdfaaaGreatDoor
namespace Go.Proofs.YtnjhmnolngdfaaaGreatDoor
open Go.RowKit Go.WideShapes
set_option linter.unusedVariables false
section
variable {H : Type} {enc : TypeId × Value → H} {w : World} {sp : Nat → Bool} {hd : Bool}
theorem texts_read {fuel : Nat} {cs : List Value} {x : DataW H × List MemPlace} (h : DataW.trod enc Tryz.prog w 0 sp hd fuel 37 cs = some x) (hz : Sized 37 x.1) :
    ∃ (A : Option Addr) (n c : Nat) (L : List ByteArray), cs = [.slice A n c] ∧ n = L.length ∧ NamesAt w A 1 0 L ∧ n * 16 ≤ reach := by
  obtain ⟨A, n, c, D, rfl, _, _, hb, hel⟩ := slice_read Tryz.underlying37 (by rw [show Tryz.prog.cellsOf 9 = 1 from by kernel_rfl]; decide) h hz
  rw [show Tryz.prog.bytesOf 9 = 16 from by kernel_rfl] at hb
  obtain ⟨L, hL, hp⟩ := rd_exists_rows (p := fun i s => (∃ b off, A = some ⟨b, off, none⟩ ∧ w.cell? ⟨b, off + i * 1, none⟩ = some (.string s)) ∧ s.size ≤ reach) n (fun i hi => by
    obtain ⟨m, cs', y, b, off, _, rfl, _, hr, hy, _, hyz⟩ := hel i hi
    obtain ⟨s, rfl, hs, _⟩ := string_read Tryz.underlying9 hy hyz
    rw [show Tryz.prog.cellsOf 9 = 1 from by kernel_rfl] at hr
    exact ⟨s, ⟨b, off, rfl, by simpa using hr 0 _ rfl⟩, hs⟩)
  exact ⟨A, n, c, L, rfl, hL.symm, rd_namesAt_of L 0 (fun i s hi => by rw [Nat.zero_add]; exact hp i s hi), by unfold reachBytes at hb; unfold reach; omega⟩
end
section
variable {H : Type} {enc : TypeId × Value → H} {w : World}
set_option maxRecDepth 10000 in
theorem open_texts {v : Value} {d : DataW H} {ps : List MemPlace} {b0 : Nat} (hval : Value.okWide Tryz.prog w .any b0 37 v) (h : DataW.Trod enc Tryz.prog w 0 (fun _ => true) true 37 v d ps) (hz : Sized 37 d) :
    ∃ (A : Option Addr) (n c : Nat) (L : List ByteArray), v = .slice A n c ∧ n = L.length ∧ NamesAt w A 1 0 L ∧ n ≤ 9223372036854775807 := by
  obtain ⟨fuel, hf⟩ := h
  obtain ⟨A, n, c, l, he, h1, h2, h3⟩ := texts_read hf hz
  refine ⟨A, n, c, l, ?_, h1, h2, by unfold reach at h3; omega⟩
  cases v with
  | agg cs => simp [Value.okWide, Tryz.underlying37, Cell.okWide, Cell.ok] at hval
  | slice a b cc => simpa [Value.cells] using he
  | _ => simp [Value.cells] at he
end
end Go.Proofs.YtnjhmnolngdfaaaGreatDoor
namespace Go.Proofs.YtnjhmnolngdfaaaGreatDoor
open Go.RowKit Go.PlainAid
set_option linter.unusedVariables false
set_option linter.unusedSimpArgs false
/-- The document's reader in block r stands at place i of the text s; what is amiss: c at p. -/
def RR (w : World) (r : Nat) (s : ByteArray) (i : Nat) (c : Int) (p : Int) : Prop := IBox w r 85 #[.string s, .int .i64 i, .int .i64 c, .int .i64 p]
theorem RR.lt {w : World} {r : Nat} {s : ByteArray} {i : Nat} {c p : Int} (h : RR w r s i c p) : r < w.heap.size := IBox.lt h
theorem RR.c0 {w : World} {r : Nat} {s : ByteArray} {i : Nat} {c p : Int} (h : RR w r s i c p) : w.cell? ⟨r, 0, none⟩ = some (.string s) := IBox.cell h 0
theorem RR.c1 {w : World} {r : Nat} {s : ByteArray} {i : Nat} {c p : Int} (h : RR w r s i c p) : w.cell? ⟨r, 1, none⟩ = some (.int .i64 i) := IBox.cell h 1
theorem RR.c2 {w : World} {r : Nat} {s : ByteArray} {i : Nat} {c p : Int} (h : RR w r s i c p) : w.cell? ⟨r, 2, none⟩ = some (.int .i64 c) := IBox.cell h 2
theorem RR.c3 {w : World} {r : Nat} {s : ByteArray} {i : Nat} {c p : Int} (h : RR w r s i c p) : w.cell? ⟨r, 3, none⟩ = some (.int .i64 p) := IBox.cell h 3
theorem RR.f1 {w : World} {r : Nat} {s : ByteArray} {i : Nat} {c p : Int} (h : RR w r s i c p) : w.frozen? ⟨r, 1, none⟩ = false := IBox.frozen h 1
theorem RR.f2 {w : World} {r : Nat} {s : ByteArray} {i : Nat} {c p : Int} (h : RR w r s i c p) : w.frozen? ⟨r, 2, none⟩ = false := IBox.frozen h 2
theorem RR.f3 {w : World} {r : Nat} {s : ByteArray} {i : Nat} {c p : Int} (h : RR w r s i c p) : w.frozen? ⟨r, 3, none⟩ = false := IBox.frozen h 3
theorem RR.below {w w' : World} {r : Nat} {s : ByteArray} {i : Nat} {c p : Int} (h : RR w r s i c p) (hb : Below w.heap.size w w') : RR w' r s i c p := zI h hb
theorem RR.drewN {w : World} {r : Nat} {s : ByteArray} {i : Nat} {c p : Int} (h : RR w r s i c p) (n : Nat) : RR (w.drewN n) r s i c p := h
theorem RR.set {w : World} {r : Nat} {s : ByteArray} {i : Nat} {c p : Int} (h : RR w r s i c p) {x : Int} {k : Nat} (hx : x = (k : Int)) : RR (w.setCell ⟨r, 1, none⟩ (.int .i64 x)) r s k c p ∧ Mv r w (w.setCell ⟨r, 1, none⟩ (.int .i64 x)) := by
  subst hx
  rw [setCell_eq_setRow w r 1 _ _ (0, 0) _ h]
  exact ⟨IBox.row h _, Bes.row (X := fun k => k = r) (Lib.hid rfl) rfl⟩
theorem RR.flaw {w : World} {r : Nat} {s : ByteArray} {i : Nat} {c0 p0 : Int} (h : RR w r s i c0 p0) (c p : Int) : RR ((w.setCell ⟨r, 2, none⟩ (.int .i64 c)).setCell ⟨r, 3, none⟩ (.int .i64 p)) r s i c p ∧ Mv r w ((w.setCell ⟨r, 2, none⟩ (.int .i64 c)).setCell ⟨r, 3, none⟩ (.int .i64 p)) := by
  have e1 := setCell_eq_setRow w r 2 _ _ (0, 0) (.int .i64 c) h
  have h1 : IBox (w.setCell ⟨r, 2, none⟩ (.int .i64 c)) r 85 #[.string s, .int .i64 i, .int .i64 c, .int .i64 p0] := by rw [e1]; exact IBox.row h _
  have m1 : Mv r w (w.setCell ⟨r, 2, none⟩ (.int .i64 c)) := by rw [e1]; exact Bes.row (X := fun k => k = r) (Lib.hid rfl) rfl
  have e2 := setCell_eq_setRow _ r 3 _ _ (0, 0) (.int .i64 p) h1
  rw [e2]
  exact ⟨IBox.row h1 _, m1.trans (Bes.row (X := fun k => k = r) (Lib.hid rfl) rfl)⟩
/-- The place of the reader, off the memory. -/
theorem RR.at {w : World} {r : Nat} {s : ByteArray} {i : Nat} {c p : Int} (h : RR w r s i c p) : atOf w r = i := by unfold atOf; rw [h.c1]; simp
/-- What fail leaves: the reader with what is amiss. -/
def FailP (r : Nat) (s : ByteArray) (i : Nat) (c : Int) (p : Int) (w : World) (e : Ending) (w' : World) : Prop := e = .returned (.tuple #[]) ∧ RR w' r s i c p ∧ Mv r w w'
set_option maxRecDepth 10000 in
theorem rfail_any {w : World} {r : Nat} {s : ByteArray} {i : Nat} (c : Int) (p : Int) (h : RR w r s i 0 0) : Calls Tryz.prog 73 #[At r, .int .i64 c, .int .i64 p] w (FailP r s i c p w) := by
  have c2 := h.c2
  have f2 := h.f2
  have c3 := h.c3
  have f3 := h.f3
  go_enter Tryz.func73, Tryz.ntmps73
  go_wp2
  exact bodyPost_ret (results_none rfl _ _ _) rfl ⟨rfl, RR.flaw h c p⟩
/-- The byte that stands here, or the end. -/
theorem rnext_in {w : World} {r : Nat} {s : ByteArray} {i : Nat} {c p : Int} (h : RR w r s i c p) (hi : i < s.size) : Calls Tryz.prog 72 #[At r] w fun e w' => e = .returned (.tuple #[.int .u8 (bt s i), .bool true]) ∧ ∃ m, w' = w.drewN m := by
  have c0 := h.c0
  have c1 := h.c1
  have hb := get_bt s
  have b0 := bt_nonneg s i
  have b1 := bt_le s i
  have hlt' : (i : Int) < (s.size : Int) := by omega
  have h0 : ¬ (i : Int) < 0 := by omega
  go_enter Tryz.func72, Tryz.ntmps72
  go_wp2
  go_quiet (fail)
  go_wp2
  go_quiet (fail)
  go_wp2
  go_ret2
  exact ⟨rfl, _, World.drewN_drewN _ _ _⟩
theorem rnext_out {w : World} {r : Nat} {s : ByteArray} {i : Nat} {c p : Int} (h : RR w r s i c p) (hi : ¬ i < s.size) : Calls Tryz.prog 72 #[At r] w fun e w' => e = .returned (.tuple #[.int .u8 0, .bool false]) ∧ ∃ m, w' = w.drewN m := by
  have c0 := h.c0
  have c1 := h.c1
  have hlt' : ¬ (i : Int) < (s.size : Int) := by omega
  go_enter Tryz.func72, Tryz.ntmps72
  go_wp2
  go_quiet (fail)
  go_wp2
  go_ret2
  exact ⟨rfl, _, rfl⟩
/-- The same, with a world of its own. -/
theorem rnextB_in {w : World} {r : Nat} {s : ByteArray} {i : Nat} {c p : Int} (h : RR w r s i c p) (hi : i < s.size) : Calls Tryz.prog 72 #[At r] w fun e w' => e = .returned (.tuple #[.int .u8 (bt s i), .bool true]) ∧ RR w' r s i c p ∧ Mv r w w' :=
  (rnext_in h hi).mono fun e w' ⟨he, m, hw⟩ => ⟨he, by rw [hw]; exact h.drewN m, by rw [hw]; exact drewN_mv r w m⟩
theorem rnextB_out {w : World} {r : Nat} {s : ByteArray} {i : Nat} {c p : Int} (h : RR w r s i c p) (hi : ¬ i < s.size) : Calls Tryz.prog 72 #[At r] w fun e w' => e = .returned (.tuple #[.int .u8 0, .bool false]) ∧ RR w' r s i c p ∧ Mv r w w' :=
  (rnext_out h hi).mono fun e w' ⟨he, m, hw⟩ => ⟨he, by rw [hw]; exact h.drewN m, by rw [hw]; exact drewN_mv r w m⟩
theorem rhex_any (c : Int) (h0 : 0 ≤ c) (h1 : c ≤ 255) (w : World) : Calls Tryz.prog 137 #[.int .u8 c] w fun e w' => e = .returned (.int .i64 (hexI c)) ∧ w' = w := by
  have HH : Hid (hexI c = if 48 ≤ c ∧ c ≤ 57 then c - 48 else if 97 ≤ c ∧ c ≤ 102 then c - 87 else if 65 ≤ c ∧ c ≤ 70 then c - 55 else -1) := Lib.hid (by unfold hexI digI; simp)
  by_cases a : 48 ≤ c ∧ c ≤ 57
  · have H : Hid (hexI c = c - 48) := Lib.hid (by rw [HH.out, if_pos a])
    obtain ⟨a1, a2⟩ := a
    go_enter Tryz.func137, Tryz.ntmps137
    go_wp2
    go_ret
    exact ⟨ret_int (by rw [H.out]), rfl⟩
  · by_cases b : 97 ≤ c ∧ c ≤ 102
    · have H : Hid (hexI c = c - 97 + 10) := Lib.hid (by rw [HH.out, if_neg a, if_pos b]; omega)
      obtain ⟨b1, b2⟩ := b
      have a1 : 48 ≤ c := by omega
      have a2 : ¬ c ≤ 57 := by omega
      clear a
      go_enter Tryz.func137, Tryz.ntmps137
      go_wp2
      go_ret
      exact ⟨ret_int (by rw [H.out]), rfl⟩
    · by_cases d : 65 ≤ c ∧ c ≤ 70
      · have H : Hid (hexI c = c - 65 + 10) := Lib.hid (by rw [HH.out, if_neg a, if_neg b, if_pos d]; omega)
        obtain ⟨d1, d2⟩ := d
        have a1 : 48 ≤ c := by omega
        have a2 : ¬ c ≤ 57 := by omega
        have b1 : ¬ 97 ≤ c := by omega
        clear a b
        go_enter Tryz.func137, Tryz.ntmps137
        go_wp2
        go_ret
        exact ⟨ret_int (by rw [H.out]), rfl⟩
      · have H : Hid (hexI c = -1) := Lib.hid (by rw [HH.out, if_neg a, if_neg b, if_neg d])
        have hc : c < 48 ∨ (57 < c ∧ c < 65) ∨ (70 < c ∧ c < 97) ∨ 102 < c := by omega
        clear a b d
        rcases hc with hc | ⟨hc, hc2⟩ | ⟨hc, hc2⟩ | hc
        · have a1 : ¬ 48 ≤ c := by omega
          have b1 : ¬ 97 ≤ c := by omega
          have d1 : ¬ 65 ≤ c := by omega
          go_enter Tryz.func137, Tryz.ntmps137
          go_wp2
          go_ret
          exact ⟨ret_int (by rw [H.out]), rfl⟩
        · have a1 : 48 ≤ c := by omega
          have a2 : ¬ c ≤ 57 := by omega
          have b1 : ¬ 97 ≤ c := by omega
          have d1 : ¬ 65 ≤ c := by omega
          go_enter Tryz.func137, Tryz.ntmps137
          go_wp2
          go_ret
          exact ⟨ret_int (by rw [H.out]), rfl⟩
        · have a1 : 48 ≤ c := by omega
          have a2 : ¬ c ≤ 57 := by omega
          have b1 : ¬ 97 ≤ c := by omega
          have d1 : 65 ≤ c := by omega
          have d2 : ¬ c ≤ 70 := by omega
          go_enter Tryz.func137, Tryz.ntmps137
          go_wp2
          go_ret
          exact ⟨ret_int (by rw [H.out]), rfl⟩
        · have a1 : 48 ≤ c := by omega
          have a2 : ¬ c ≤ 57 := by omega
          have b1 : 97 ≤ c := by omega
          have b2 : ¬ c ≤ 102 := by omega
          have d1 : 65 ≤ c := by omega
          have d2 : ¬ c ≤ 70 := by omega
          go_enter Tryz.func137, Tryz.ntmps137
          go_wp2
          go_ret
          exact ⟨ret_int (by rw [H.out]), rfl⟩
theorem rinfo_int : (Tryz.prog.info? 3).map (·.size) = some 1 := by kernel_rfl
theorem wpl_rat {ops : Array Oper} {rest : List Oper} {o : Oper} {a : Act} {w : World} {Q : Exit → Act → World → Prop} {r : Nat} {s : ByteArray} {i : Nat} {c p : Int} (hgd : o.guard = none) (x y : Operand) (ho : o.op = .store 3 x y)
    (hx : a.eval x = .pointer (some ⟨r, 1, none⟩)) (k : Nat) (hy : a.eval y = .int .i64 (k : Int)) (HR : RR w r s i c p)
    (h : ∀ w', RR w' r s k c p → Mv r w w' → wpList Tryz.prog ops Q rest (a.put o.dst undef) w') : wpList Tryz.prog ops Q (o :: rest) a w :=
  wpl_store_cell hgd 3 x y ho r 1 hx _ hy _ _ HR (by show 1 < 4; omega) rinfo_int rfl fun w' hw => h w' (hid_row hw HR) (Bes.row (X := fun k => k = r) hw rfl)
/-- What a call that reads leaves: the reader behind what was read, or what is amiss. -/
def RGot {α : Type} (o : Out α) (r : Nat) (s : ByteArray) (w : World) (V : α → Ending → World → Prop) (Bd : Ending → Prop) (e : Ending) (w' : World) : Prop :=
  Mv r w w' ∧ (match o with
    | .ok x k => V x e w' ∧ RR w' r s k 0 0
    | .bad c p => Bd e ∧ c ≠ 0 ∧ ∃ i, RR w' r s i c p)
theorem RGot.ok {α : Type} {o : Out α} {r : Nat} {s : ByteArray} {w w' : World} {V : α → Ending → World → Prop} {Bd : Ending → Prop} {e : Ending} {x : α} {k : Nat} (ho : o = .ok x k) (hm : Mv r w w') (hv : V x e w') (hr : RR w' r s k 0 0) : RGot o r s w V Bd e w' := by subst ho; exact ⟨hm, hv, hr⟩
theorem RGot.bad {α : Type} {o : Out α} {r : Nat} {s : ByteArray} {w w' : World} {V : α → Ending → World → Prop} {Bd : Ending → Prop} {e : Ending} {c : Int} {p i : Nat} (ho : o = .bad c p) (hm : Mv r w w') (hb : Bd e) (hc : c ≠ 0) (hr : RR w' r s i c p) : RGot o r s w V Bd e w' := by subst ho; exact ⟨hm, hb, hc, i, hr⟩
abbrev Nix (e : Ending) : Prop := e = .returned (.tuple #[])
end Go.Proofs.YtnjhmnolngdfaaaGreatDoor
