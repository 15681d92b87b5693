/- Layer 16: the names of two objects, in the program. -/
import Derived.Test.YtpmdpfgaafaceaaAuthK
namespace Go.Proofs.Ytpmdpfgaafaceaa
open Go.RowKit
set_option linter.unusedVariables false
set_option linter.unusedSimpArgs false

def preN (a b : JV) (k : Nat) : List ByteArray := if k = 0 then [] else if k = 1 then a.ns else a.ns ++ b.ns
def two12 (a b : JV) : Array Value := #[.int .i64 a.v.kind, .bool a.v.b, .int .i64 a.v.i, .string a.v.t, .slice a.v.LA a.v.Ln a.v.Lc, .slice a.v.FA a.v.Fn a.v.Fc, .int .i64 b.v.kind, .bool b.v.b, .int .i64 b.v.i, .string b.v.t, .slice b.v.LA b.v.Ln b.v.Lc, .slice b.v.FA b.v.Fn b.v.Fc]
structure TwoCells (w : World) (g o : Nat) (x : VM) : Prop where
  c0 : w.cell? ⟨g, o, none⟩ = some (.int .i64 x.kind)
  c1 : w.cell? ⟨g, o + 1, none⟩ = some (.bool x.b)
  c2 : w.cell? ⟨g, o + 2, none⟩ = some (.int .i64 x.i)
  c3 : w.cell? ⟨g, o + 3, none⟩ = some (.string x.t)
  c4 : w.cell? ⟨g, o + 4, none⟩ = some (.slice x.LA x.Ln x.Lc)
  c5 : w.cell? ⟨g, o + 5, none⟩ = some (.slice x.FA x.Fn x.Fc)
theorem two_step {w w0 : World} {a b : JV} {g k : Nat} {t : TypeId} (h : IBox w g t (two12 a b)) (ha : IsJV w0 a) (hb : IsJV w0 b) (hk : k < 2) :
    ∃ x : JV, TwoCells w g (k * 6) x.v ∧ IsJV w0 x ∧ preN a b (k + 1) = preN a b k ++ x.ns ∧ (preN a b k).length + x.v.Fn ≤ a.v.Fn + b.v.Fn := by
  obtain rfl | rfl : k = 0 ∨ k = 1 := by omega
  · exact ⟨a, ⟨h.cell 0, h.cell 1, h.cell 2, h.cell 3, h.cell 4, h.cell 5⟩, ha, rfl, by simp [preN]⟩
  · exact ⟨b, ⟨h.cell 6, h.cell 7, h.cell 8, h.cell 9, h.cell 10, h.cell 11⟩, hb, rfl, by have := (jv_names ha).2.1; simp [preN, this]⟩
theorem jv_field {w : World} {j : JV} (h : IsJV w j) {k : Nat} (hk : k < j.v.Fn) : ∃ bl off n x, j.v.FA = some ⟨bl, off, none⟩ ∧ j.ns[k]? = some n ∧ FieldCells w bl (off + k * 7) n x := by
  obtain ⟨v, l, ns, vs⟩ := j
  unfold IsJV at h
  obtain ⟨⟨_, _, _, _, hFn, hns, _, _, hnames⟩, _, hrow⟩ := h
  have hkv : k < vs.length := by rw [← hFn]; exact hk
  have hkn : k < ns.length := by rw [hns]; exact hkv
  have en : ns[k]? = some (ns[k]) := List.getElem?_eq_getElem hkn
  have ex : vs[k]? = some (vs[k]) := List.getElem?_eq_getElem hkv
  obtain ⟨bl, off, hFA, hfc⟩ := field_cells hnames hrow en ex
  exact ⟨bl, off, _, _, hFA, en, hfc⟩
theorem ibox_new2 (w : World) (o1 o2 : Obj) (t : TypeId) (arr : Array Value) : IBox (((w.alloc o1).alloc o2).alloc (.cells arr t)) (w.heap.size + 2) t arr := by
  have h := IBox.new ((w.alloc o1).alloc o2) t arr
  simpa using h
theorem ibox_new1 (w : World) (o1 : Obj) (t : TypeId) (arr : Array Value) : IBox ((w.alloc o1).alloc (.cells arr t)) (w.heap.size + 1) t arr := by
  have h := IBox.new (w.alloc o1) t arr
  simpa using h
theorem below_grow1 {w0 w : World} {B : Nat} {o : Obj} (h : Below B w0 w) (hB : B ≤ w.heap.size) : Below B w0 (w.alloc o) := h.alloc hB o

set_option maxRecDepth 100000 in
set_option maxHeartbeats 8000000 in
theorem both_any (a b : JV) (w : World) (HA : IsJV w a) (HC : IsJV w b) :
    Calls Try.prog 73 #[.agg a.cells, .agg b.cells] w fun e w' => GivesNames e (a.ns ++ b.ns) w w' := by
  obtain ⟨i0, hi, hz0, hz1, hz2⟩ := info_parts info_string
  obtain ⟨q1, q2, q3⟩ := jv_names HA
  obtain ⟨p1, p2, p3⟩ := jv_names HC
  have HNA := Lib.hid q2
  have HNB := Lib.hid p2
  have HSA := Lib.hid (names_small q1)
  have HSB := Lib.hid (names_small p1)
  unfold reach at q3 p3
  clear q1 p1 q2 p2
  show Calls Try.prog 73 #[.agg #[.int .i64 a.v.kind, .bool a.v.b, .int .i64 a.v.i, .string a.v.t, .slice a.v.LA a.v.Ln a.v.Lc, .slice a.v.FA a.v.Fn a.v.Fc], .agg #[.int .i64 b.v.kind, .bool b.v.b, .int .i64 b.v.i, .string b.v.t, .slice b.v.LA b.v.Ln b.v.Lc, .slice b.v.FA b.v.Fn b.v.Fc]] w _
  go_enter Try.func73, Try.ntmps73
  go_wp2
  go_loopw [5, 14] (fun v i wr => ∃ k : Nat, k ≤ 2 ∧ i = .int .i64 k ∧ wr.ownsRow (w.heap.size + 3) 9 1 v (preN a b k).length ((preN a b k).map Value.string) ∧ IBox wr (w.heap.size + 2) 30 (two12 a b) ∧ w.heap.size + 3 ≤ wr.heap.size ∧ Below w.heap.size w wr) (fun _ i _ => 2 - (intOf i).toNat)
  case atStart => exact ⟨0, by omega, rfl, ⟨by simp [preN], .inl ⟨rfl, rfl⟩⟩, ibox_new2 _ _ _ _ _, by simp, (((Below.refl _ _).alloc (Nat.le_refl _) _).alloc (by simp) _).alloc (by simp; omega) _⟩
  case round =>
    obtain ⟨k, hk, rfl, hown, IB, hsz, hb⟩ := hrel
    have HOWN := Lib.hid hown
    have HBW := Lib.hid hb
    clear hown
    by_cases hlt : k < 2
    · obtain ⟨x, ⟨c0, c1, c2, c3, c4, c5⟩, HX, hpre, hlen⟩ := two_step IB HA HC hlt
      have HPRE := Lib.hid hpre
      clear hpre
      obtain ⟨wo, rfl⟩ : ∃ wo : World, wo = wr := ⟨_, rfl⟩
      have hd2 : decide ((k : Int) < 2) = true := by simp; omega
      go_wp2
      go_loopw [5, 21] (fun v i wr => ∃ q : Nat, q ≤ x.v.Fn ∧ i = .int .i64 q ∧ wr.ownsRow (w.heap.size + 3) 9 1 v ((preN a b k).length + q) ((preN a b k ++ x.ns.take q).map Value.string) ∧ IBox wr (w.heap.size + 2) 30 (two12 a b) ∧ w.heap.size + 3 ≤ wr.heap.size ∧ Below w.heap.size w wr) (fun _ i _ => x.v.Fn - (intOf i).toNat)
      case atStart => exact ⟨0, by omega, rfl, by simpa using HOWN.out.alloc _, IB.alloc _, by simp; omega, HBW.out.alloc HBW.out.size _⟩
      case round =>
        obtain ⟨q, hq, rfl, hown2, IB2, hsz2, hb2⟩ := hrel
        have HX2 := HX.below hb2
        have HOWN2 := Lib.hid hown2
        have HBW2 := Lib.hid hb2
        have hxx := jv_names HX2
        have hFn := hxx.2.1
        have HFN := Lib.hid hFn
        clear hown2 IB c0 c1 c2 c3 c4 c5 hb hFn
        by_cases hlt2 : q < x.v.Fn
        · obtain ⟨bl, off, n, y, hFA, hn, hfc⟩ := jv_field HX2 hlt2
          obtain ⟨f0, f1, f2, f3, f4, f5, f6⟩ := hfc
          rw [hFA] at *
          have HX3 := Lib.hid hn
          clear hn hFA hxx
          go_wp2_with (at_builtin; refine wpl_append_fresh rfl (.tmp 25) (.tmp 28) _ rfl (w.heap.size + 3) 9 i0 (.string ⟨#[]⟩) 1 16 Try.underlying26 hi hz0 hz1 hz2 rfl (by decide) u5 ((preN a b k).length + q) _ rfl ((HOWN2.out.alloc _).alloc _) (wr.heap.size + 1) 1 #[.string n] _ (ibox_new1 _ _ _ _) rfl rfl (str_one n) (by unfold maxLen; omega) (by omega) (by simp; omega) ?_; intro v' w3 hown3 hb3)
          have hsz3 := hb3.size
          simp only [World.size_alloc, Array.size_push] at hsz3
          have hb4 : Below (w.heap.size + 3) wr w3 := (((Below.refl _ _).alloc hsz2 _).alloc (by simp; omega) _).trans hb3
          go_roundw
          case rel => exact ⟨q + 1, by omega, by go_num, by rw [take_next HX3.out, ← List.append_assoc, List.map_append]; exact hown3, hb4.block _ (by omega) |>.trans IB2, Nat.le_trans hsz2 hb4.size, HBW2.out.trans (hb4.mono (by omega))⟩
          case measure => simp [intOf]; omega
        · obtain rfl : q = x.v.Fn := by omega
          rw [List.take_of_length_le (Nat.le_of_eq HFN.out), ← HPRE.out] at HOWN2
          have hl : (preN a b k).length + x.v.Fn = (preN a b (k + 1)).length := by rw [HPRE.out, List.length_append, HFN.out]
          rw [hl] at HOWN2
          clear hl
          go_wp2
          go_roundw
          case rel => exact ⟨k + 1, by omega, by go_num, HOWN2.out, IB2, hsz2, HBW2.out⟩
          case measure => simp [intOf]; omega
    · obtain rfl : k = 2 := by omega
      have hpp : preN a b 2 = a.ns ++ b.ns := rfl
      rw [hpp] at HOWN
      obtain ⟨A, c, hv, hn⟩ := own_names HOWN.out rfl (fun x hx => (List.mem_append.1 hx).elim (HSA.out x) (HSB.out x))
      subst hv
      have HN := Lib.hid hn
      clear hn hpp
      go_wp2
      go_ret
      exact ⟨A, c, rfl, HN.out, HBW.out⟩
end Go.Proofs.Ytpmdpfgaafaceaa
