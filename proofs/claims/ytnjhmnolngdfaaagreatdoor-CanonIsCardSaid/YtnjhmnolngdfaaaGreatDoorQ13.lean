/- Layer 2: a value told (coveyref02.Plain), walked. Layer 3: strings.Builder at this translation: a byte, a text is written; what else lies stays. Layer 3: strconv.FormatInt at base 16 of a number be -/
import Derived.Lib.FrozenHead2
import Derived.Lib.AppendIntMem
import Derived.Test.YtnjhmnolngdfaaaGreatDoorQ09
import Derived.Test.YtnjhmnolngdfaaaGreatDoorQ10
import Derived.Test.YtnjhmnolngdfaaaGreatDoorQ01
import Derived.Test.YtnjhmnolngdfaaaGreatDoorQ07
import Derived.Test.YtnjhmnolngdfaaaGreatDoorQ11
import Derived.Test.YtnjhmnolngdfaaaGreatDoorQZip
set_option linter.unusedVariables false
set_option linter.unusedSimpArgs false
set_option maxHeartbeats 16000000
set_option maxRecDepth 100000
namespace Go.Proofs.YtnjhmnolngdfaaaGreatDoor
section
open Go.RowKit Go.PlainAid
mutual
def plX (G : List UInt8) : JT → List UInt8 → List UInt8
  | .mk k b i t l ns vs, a =>
    if 65536 < a.length then a
    else if k = 0 then a ++ qFD else if k = 1 then a ++ (if b = true then qGW else qEA) else if k = 2 then a ++ qFt i else if k = 3 then a ++ quo t
    else if k = 4 then qFO G true l (a ++ [91]) ++ [93] else qEs G true ns vs (a ++ [123]) ++ [125]
def qFO (G : List UInt8) : Bool → List JT → List UInt8 → List UInt8
  | _, [], a => a
  | f, x :: r, a => qFO G false r (plX G x ((if f = true then a else a ++ [44]) ++ G) ++ G)
def qEs (G : List UInt8) : Bool → List ByteArray → List JT → List UInt8 → List UInt8
  | f, n :: ns, x :: vs, a => qEs G false ns vs (plX G x ((((((if f = true then a else a ++ [44]) ++ G) ++ quo n) ++ G) ++ [58]) ++ G) ++ G)
  | _, [], _, a => a
  | _, _ :: _, [], a => a
end
def PlR (a p r : List UInt8) : Prop := (r = a ++ p ∨ (65536 < r.length ∧ 65536 < a.length + p.length)) ∧ r.length ≤ a.length + p.length ∧ a.length ≤ r.length
theorem PlR.add {a p r q : List UInt8} (h : PlR a p r) : PlR a (p ++ q) (r ++ q) := by
  obtain ⟨h1, h2, h3⟩ := h; refine ⟨?_, by simp; omega, by simp; omega⟩; rcases h1 with h1 | ⟨h1, h4⟩
  · left; rw [h1, List.append_assoc]
  · right; exact ⟨by simp; omega, by simp; omega⟩
theorem PlR.seq {a p r q r2 : List UInt8} (h : PlR a p r) (k : PlR r q r2) : PlR a (p ++ q) r2 := by
  obtain ⟨h1, h2, h3⟩ := h; obtain ⟨k1, k2, k3⟩ := k; refine ⟨?_, by simp; omega, by omega⟩; rcases h1 with h1 | ⟨h1, h4⟩
  · rcases k1 with k1 | ⟨k1, k4⟩
    · left; rw [k1, h1, List.append_assoc]
    · right; exact ⟨k1, by simp; omega⟩
  · right; exact ⟨by omega, by simp; omega⟩
theorem PlR.rfl {a : List UInt8} (q : List UInt8) : PlR a q (a ++ q) := ⟨.inl _root_.rfl, by simp, by simp⟩
mutual
theorem qDL (G : List UInt8) : ∀ (t : JT) (a : List UInt8), PlR a (pr G t) (plX G t a)
 | .mk k b i t l ns vs, a => by
  by_cases h : 65536 < a.length
  ·unfold plX; rw [if_pos h]; exact ⟨.inr ⟨h, by omega⟩, by omega, Nat.le_refl _⟩
  ·unfold plX pr; rw [if_neg h]
   split
   ·exact PlR.rfl _
   ·split
    ·exact PlR.rfl _
    ·split
     ·exact PlR.rfl _
     ·split
      ·exact PlR.rfl _
      ·split
       ·have h1 := PlR.add (q := [93]) (qLf G l true (a ++ [91])); exact (PlR.rfl [91]).seq h1
       ·have h1 := PlR.add (q := [125]) (qK2 G ns vs true (a ++ [123])); exact (PlR.rfl [123]).seq h1
theorem qLf (G : List UInt8) : ∀ (l : List JT) (f : Bool) (a : List UInt8), PlR a (prL G f l) (qFO G f l a)
  | [], f, a => by
    unfold qFO prL; exact ⟨.inl (by simp), by simp, Nat.le_refl _⟩
  | x :: r, f, a => by
    unfold qFO prL
    have h0 : PlR a (if f = true then [] else [44]) (if f = true then a else a ++ [44]) := by
      split
      · exact ⟨.inl (by simp), by simp, Nat.le_refl _⟩
      · exact PlR.rfl _
    have h1 := h0.add (q := G); have h2 := h1.seq (qDL G x _); have h3 := h2.add (q := G); have h4 := h3.seq (qLf G r false _)
    simpa only [List.append_assoc] using h4
theorem qK2 (G : List UInt8) : ∀ (ns : List ByteArray) (vs : List JT) (f : Bool) (a : List UInt8), PlR a (prF G f ns vs) (qEs G f ns vs a)
 | [], vs, f, a => by
  unfold qEs prF; exact ⟨.inl (by simp), by simp, Nat.le_refl _⟩
 | n :: ns, [], f, a => by
  unfold qEs prF; exact ⟨.inl (by simp), by simp, Nat.le_refl _⟩
 | n :: ns, x :: vs, f, a => by
  unfold qEs prF
  have h0 : PlR a (if f = true then [] else [44]) (if f = true then a else a ++ [44]) := by
   split
   ·exact ⟨.inl (by simp), by simp, Nat.le_refl _⟩
   ·exact PlR.rfl _
  have h1 := ((((h0.add (q := G)).add (q := quo n)).add (q := G)).add (q := [58])).add (q := G); have h2 := h1.seq (qDL G x _); have h3 := h2.add (q := G); have h4 := h3.seq (qK2 G ns vs false _)
  simpa only [List.append_assoc, List.cons_append, List.nil_append] using h4
end
theorem KB.bes {base : Nat} {w w' : World} (h : KB base w w') : Bes (fun q => base ≤ q) w w' := ⟨h.1.os, h.1.tape, h.1.output, h.1.size, fun k hk hn => h.1.block k (by omega)⟩
theorem qAt {base : Nat} {w w' : World} (h : KB base w w') {j : JV} (hj : qAi w j) (ho : Off (fun q => base ≤ q) j) : qAi w' j := qAi.bes h.bes hj ho
theorem qAp {base : Nat} {w w' : World} (h : KB base w w') {b off : Nat} {cs : List Value} (hr : w.rangeAt b off cs) (hb : b < base) : w'.rangeAt b off cs := fun j v hv => by
  rw [World.cell?_of_block (h.1.block b hb)]; exact hr j v hv
theorem qA1 {base : Nat} {w w' : World} (h : KB base w w') {b off : Nat} {v : Value} (hr : w.cell? ⟨b, off, none⟩ = some v) (hb : b < base) : w'.cell? ⟨b, off, none⟩ = some v := by
  rw [World.cell?_of_block (h.1.block b hb)]; exact hr
theorem qKt {w : World} {base : Nat} {v : Value} {l : List UInt8} (h : qCg w base v l) : ∃ A c, v = .slice A l.length c := by
  rcases h.2 with ⟨rfl, h0⟩ | ⟨g, cap, cur, rfl, _⟩
  · exact ⟨_, _, by rw [h0]⟩
  · exact ⟨_, _, rfl⟩
theorem qHH {G : List UInt8} {l : List JV} {q : Nat} {x : JV} {a : List UInt8} (hx : l[q]? = some x) : qFO G (q == 0) ((erL l).drop q) a = qFO G (q + 1 == 0) ((erL l).drop (q + 1)) (plX G (er x) ((if q = 0 then a else a ++ [44]) ++ G) ++ G) ∧ prL G (q == 0) ((erL l).drop q) = (if q = 0 then [] else [44]) ++ (G ++ (pr G (er x) ++ (G ++ prL G (q + 1 == 0) ((erL l).drop (q + 1))))) := by
  have hl := (List.getElem?_eq_some_iff.1 hx).1
  have h1 : (erL l).drop q = er x :: (erL l).drop (q + 1) := by
    rw [qBw, List.drop_eq_getElem_cons (by rw [List.length_map]; exact hl)]
    congr 1
    obtain ⟨_, e⟩ := List.getElem?_eq_some_iff.1 hx; rw [List.getElem_map, e]
  rw [h1, qFO, prL]; cases q <;> simp
theorem qHm {G : List UInt8} {ns : List ByteArray} {vs : List JV} {q : Nat} {nm : ByteArray} {x : JV} {a : List UInt8} (hn : ns[q]? = some nm) (hx : vs[q]? = some x) : qEs G (q == 0) (ns.drop q) ((erL vs).drop q) a = qEs G (q + 1 == 0) (ns.drop (q + 1)) ((erL vs).drop (q + 1)) (plX G (er x) ((((((if q = 0 then a else a ++ [44]) ++ G) ++ quo nm) ++ G) ++ [58]) ++ G) ++ G) ∧ prF G (q == 0) (ns.drop q) ((erL vs).drop q) = (if q = 0 then [] else [44]) ++ (G ++ (quo nm ++ (G ++ (58 :: (G ++ (pr G (er x) ++ (G ++ prF G (q + 1 == 0) (ns.drop (q + 1)) ((erL vs).drop (q + 1)))))))) ) := by
  have hl := (List.getElem?_eq_some_iff.1 hx).1; obtain ⟨hl2, e2⟩ := List.getElem?_eq_some_iff.1 hn
  have h1 : (erL vs).drop q = er x :: (erL vs).drop (q + 1) := by
    rw [qBw, List.drop_eq_getElem_cons (by rw [List.length_map]; exact hl)]
    congr 1
    obtain ⟨_, e⟩ := List.getElem?_eq_some_iff.1 hx; rw [List.getElem_map, e]
  (have h2 : ns.drop q = nm :: ns.drop (q + 1) := by rw [List.drop_eq_getElem_cons hl2, e2]); rw [h1, h2, qEs, prF]; cases q <;> simp
theorem qDX (t : ByteArray) : t.size ≤ (quo t).length := by
  have key : ∀ l : List UInt8, l.length ≤ (qFv l).length := by
    intro l
    induction l with
    | nil => simp
    | cons c r ih =>
      have := qPS c; unfold qFv at *; rw [List.flatMap_cons, List.length_append, List.length_cons]; omega
  unfold quo; have := key t.data.toList; (have e : t.data.toList.length = t.size := by simp); simp; omega
theorem qCa : 25 ≠ 5 := by decide
def qCA : Nat := 1099511627776
theorem qP3 (sz : Nat) (g : ByteArray) : ∀ (j : JV) (base : Nat) (v : Value) (l : List UInt8) (w : World), SizeOf.sizeOf j < sz → qAi w j → Off (fun q => base ≤ q) j → qCg w base v l → base ≤ w.heap.size → l.length + (pr g.data.toList (er j)).length ≤ qCA →
    Calls Tryz.prog 40 #[v, .agg j.cells, .string g] w (qJO base (plX g.data.toList (er j) l) w) := by
  induction sz with
  | zero => intro j base v l w h; omega
  | succ sz ih =>
    intro j base v l w hsz HJ hoj HO hbz0 htot; obtain ⟨l1, l2, l3, l4, l5⟩ := qCI HJ; obtain ⟨ie, hie1, hie2, hie3, hie4⟩ := qC2; (have hi64 : I64 j.v.i := by obtain ⟨v, _, _, _⟩ := j; unfold qAi at HJ; exact HJ.1.2.1); obtain ⟨o1, o2⟩ := qHN hoj; have HI := Lib.hid hi64; have HOJ := Lib.hid hoj; have HO1 := Lib.hid o1; have HO2 := Lib.hid o2; have LL := Lib.hid l1; have LV := Lib.hid l2; have LN := Lib.hid l3; have SZ := Lib.hid hsz; have IH := Lib.hid ih; (have hgl : g.size = g.data.toList.length := by simp); have HGL := Lib.hid hgl; obtain ⟨G, hG⟩ : ∃ G, G = g.data.toList := ⟨_, rfl⟩; rw [← hG] at htot ⊢; have HG := Lib.hid hG
    have hex : plX G (er j) l = if 65536 < l.length then l
        else if j.v.kind = 0 then l ++ qFD else if j.v.kind = 1 then l ++ (if j.v.b = true then qGW else qEA) else if j.v.kind = 2 then l ++ qFt j.v.i else if j.v.kind = 3 then l ++ quo j.v.t
        else if j.v.kind = 4 then qFO G true (erL j.l) (l ++ [91]) ++ [93] else qEs G true j.ns (erL j.vs) (l ++ [123]) ++ [125] := by rw [qBs]; unfold plX; rfl
    have hpx : pr G (er j) = if j.v.kind = 0 then qFD else if j.v.kind = 1 then (if j.v.b = true then qGW else qEA) else if j.v.kind = 2 then qFt j.v.i else if j.v.kind = 3 then quo j.v.t
        else if j.v.kind = 4 then 91 :: (prL G true (erL j.l) ++ [93]) else 123 :: (prF G true j.ns (erL j.vs) ++ [125]) := by rw [qBs]; unfold pr; rfl
    unfold qCA at htot; have HTOT := Lib.hid htot; clear ih l1 l2 l3 hsz hoj hi64 o1 o2 hgl hG; have hbz := hbz0; have HB := KB.refl hbz0; obtain ⟨A, cp, hv⟩ := qKt HO; subst hv
    by_cases h65 : 65536 < l.length
    · have HK : Hid (plX G (er j) l = l) := Lib.hid (by rw [hex, if_pos h65]); (have h65' : (65536 : Int) < (l.length : Int) := by omega); clear hex hpx; go_enter Tryz.func40, Tryz.ntmps40
      go_wp2_with (first
        | (refine qAM rfl 25 (.tmp 1) rfl _ rfl ?_; intro w1 hw; have hkb := KB.of (base := base) (qAD hw) hbz; have B4 := (qAC hw).1; replace HO := HO.below (qAD hw); replace HJ := qAt hkb HJ HOJ.out; replace HB := HB.trans hkb; replace hbz := HB.up hbz0; clear hkb hw; have c4_0 : w1.cell? ⟨_, 0, none⟩ = some (.int .i64 j.v.kind) := (B4.cell 0).trans (by rfl); have c4_1 : w1.cell? ⟨_, 1, none⟩ = some (.bool j.v.b) := B4.cell 1; have c4_2 : w1.cell? ⟨_, 2, none⟩ = some (.int .i64 j.v.i) := B4.cell 2; have c4_3 : w1.cell? ⟨_, 3, none⟩ = some (.string j.v.t) := B4.cell 3; have c4_4 : w1.cell? ⟨_, 4, none⟩ = some (.slice j.v.LA j.v.Ln j.v.Lc) := B4.cell 4; have c4_5 : w1.cell? ⟨_, 5, none⟩ = some (.slice j.v.FA j.v.Fn j.v.Fc) := B4.cell 5))
      go_ret; exact qJO.of HO HK.out HB
    · (have h65' : ¬ (65536 : Int) < (l.length : Int) := by omega); rw [if_neg h65] at hex
      by_cases hk0 : j.v.kind = 0
      · have HK : Hid (plX G (er j) l = l ++ qFD) := Lib.hid (by rw [hex, if_pos hk0]); have HKD := Lib.hid hk0; clear hk0 hex hpx; go_enter Tryz.func40, Tryz.ntmps40
        go_wp2_with (first
          | (refine qAM rfl 25 (.tmp 1) rfl _ rfl ?_; intro w1 hw; have hkb := KB.of (base := base) (qAD hw) hbz; have B4 := (qAC hw).1; replace HO := HO.below (qAD hw); replace HJ := qAt hkb HJ HOJ.out; replace HB := HB.trans hkb; replace hbz := HB.up hbz0; clear hkb hw; have c4_0 : w1.cell? ⟨_, 0, none⟩ = some (.int .i64 0) := (B4.cell 0).trans (by rw [← HKD.out]; rfl); have c4_1 : w1.cell? ⟨_, 1, none⟩ = some (.bool j.v.b) := B4.cell 1; have c4_2 : w1.cell? ⟨_, 2, none⟩ = some (.int .i64 j.v.i) := B4.cell 2; have c4_3 : w1.cell? ⟨_, 3, none⟩ = some (.string j.v.t) := B4.cell 3; have c4_4 : w1.cell? ⟨_, 4, none⟩ = some (.slice j.v.LA j.v.Ln j.v.Lc) := B4.cell 4; have c4_5 : w1.cell? ⟨_, 5, none⟩ = some (.slice j.v.FA j.v.Fn j.v.Fc) := B4.cell 5)
          | (refine qAq rfl (.tmp 17) (.const (.string ⟨#[110, 117, 108, 108]⟩)) 46 9 rfl Tryz.underlying46 Tryz.underlying9 base _ _ rfl HO ⟨#[110, 117, 108, 108]⟩ rfl (by show l.length + 4 ≤ _; omega) hbz ?_; intro v10 w10 ho10 hkb; replace HO := ho10; clear ho10; (try replace HJ := qAt hkb HJ HOJ.out); (try replace HX := qAt hkb HX HOX.out); (try replace RX := qAp hkb RX hbl); (try replace n1 := qA1 hkb n1 hbl); (try replace B4 := hkb.2 _ _ _ qCa B4); (try replace c4_4 : World.cell? _ ⟨_, 4, none⟩ = some (.slice j.v.LA j.v.Ln j.v.Lc) := B4.cell 4); (try replace c4_5 : World.cell? _ ⟨_, 5, none⟩ = some (.slice j.v.FA j.v.Fn j.v.Fc) := B4.cell 5); (try rw [HA.out] at c4_4); (try rw [HA5.out] at c4_5); (try replace HBW := HBW.trans hkb); replace HB := HB.trans hkb; clear hkb; replace hbz := HB.up hbz0))
        go_ret; exact qJO.of HO (by first | exact HK.out | (rw [HK.out]; rfl)) HB
      · by_cases hk1 : j.v.kind = 1
        · cases hb : j.v.b
          · have HK : Hid (plX G (er j) l = l ++ qEA) := Lib.hid (by rw [hex, if_neg hk0, if_pos hk1, hb]; rfl); have HKD := Lib.hid hk1; have HBB := Lib.hid hb; clear hk0 hk1 hex hpx hb; go_enter Tryz.func40, Tryz.ntmps40
            go_wp2_with (first
              | (refine qAM rfl 25 (.tmp 1) rfl _ rfl ?_; intro w1 hw; have hkb := KB.of (base := base) (qAD hw) hbz; have B4 := (qAC hw).1; replace HO := HO.below (qAD hw); replace HJ := qAt hkb HJ HOJ.out; replace HB := HB.trans hkb; replace hbz := HB.up hbz0; clear hkb hw; have c4_0 : w1.cell? ⟨_, 0, none⟩ = some (.int .i64 1) := (B4.cell 0).trans (by rw [← HKD.out]; rfl); have c4_1 : w1.cell? ⟨_, 1, none⟩ = some (.bool false) := (B4.cell 1).trans (by rw [← HBB.out]; rfl); have c4_2 : w1.cell? ⟨_, 2, none⟩ = some (.int .i64 j.v.i) := B4.cell 2; have c4_3 : w1.cell? ⟨_, 3, none⟩ = some (.string j.v.t) := B4.cell 3; have c4_4 : w1.cell? ⟨_, 4, none⟩ = some (.slice j.v.LA j.v.Ln j.v.Lc) := B4.cell 4; have c4_5 : w1.cell? ⟨_, 5, none⟩ = some (.slice j.v.FA j.v.Fn j.v.Fc) := B4.cell 5)
              | (refine qAq rfl (.tmp 25) (.const (.string ⟨#[102, 97, 108, 115, 101]⟩)) 46 9 rfl Tryz.underlying46 Tryz.underlying9 base _ _ rfl HO ⟨#[102, 97, 108, 115, 101]⟩ rfl (by show l.length + 5 ≤ _; omega) hbz ?_; intro v10 w10 ho10 hkb; replace HO := ho10; clear ho10; (try replace HJ := qAt hkb HJ HOJ.out); (try replace HX := qAt hkb HX HOX.out); (try replace RX := qAp hkb RX hbl); (try replace n1 := qA1 hkb n1 hbl); (try replace B4 := hkb.2 _ _ _ qCa B4); (try replace c4_4 : World.cell? _ ⟨_, 4, none⟩ = some (.slice j.v.LA j.v.Ln j.v.Lc) := B4.cell 4); (try replace c4_5 : World.cell? _ ⟨_, 5, none⟩ = some (.slice j.v.FA j.v.Fn j.v.Fc) := B4.cell 5); (try rw [HA.out] at c4_4); (try rw [HA5.out] at c4_5); (try replace HBW := HBW.trans hkb); replace HB := HB.trans hkb; clear hkb; replace hbz := HB.up hbz0))
            go_ret; exact qJO.of HO (by first | exact HK.out | (rw [HK.out]; rfl)) HB
          · have HK : Hid (plX G (er j) l = l ++ qGW) := Lib.hid (by rw [hex, if_neg hk0, if_pos hk1, hb]; rfl); have HKD := Lib.hid hk1; have HBB := Lib.hid hb; clear hk0 hk1 hex hpx hb; go_enter Tryz.func40, Tryz.ntmps40
            go_wp2_with (first
              | (refine qAM rfl 25 (.tmp 1) rfl _ rfl ?_; intro w1 hw; have hkb := KB.of (base := base) (qAD hw) hbz; have B4 := (qAC hw).1; replace HO := HO.below (qAD hw); replace HJ := qAt hkb HJ HOJ.out; replace HB := HB.trans hkb; replace hbz := HB.up hbz0; clear hkb hw; have c4_0 : w1.cell? ⟨_, 0, none⟩ = some (.int .i64 1) := (B4.cell 0).trans (by rw [← HKD.out]; rfl); have c4_1 : w1.cell? ⟨_, 1, none⟩ = some (.bool true) := (B4.cell 1).trans (by rw [← HBB.out]; rfl); have c4_2 : w1.cell? ⟨_, 2, none⟩ = some (.int .i64 j.v.i) := B4.cell 2; have c4_3 : w1.cell? ⟨_, 3, none⟩ = some (.string j.v.t) := B4.cell 3; have c4_4 : w1.cell? ⟨_, 4, none⟩ = some (.slice j.v.LA j.v.Ln j.v.Lc) := B4.cell 4; have c4_5 : w1.cell? ⟨_, 5, none⟩ = some (.slice j.v.FA j.v.Fn j.v.Fc) := B4.cell 5)
              | (refine qAq rfl (.tmp 23) (.const (.string ⟨#[116, 114, 117, 101]⟩)) 46 9 rfl Tryz.underlying46 Tryz.underlying9 base _ _ rfl HO ⟨#[116, 114, 117, 101]⟩ rfl (by show l.length + 4 ≤ _; omega) hbz ?_; intro v10 w10 ho10 hkb; replace HO := ho10; clear ho10; (try replace HJ := qAt hkb HJ HOJ.out); (try replace HX := qAt hkb HX HOX.out); (try replace RX := qAp hkb RX hbl); (try replace n1 := qA1 hkb n1 hbl); (try replace B4 := hkb.2 _ _ _ qCa B4); (try replace c4_4 : World.cell? _ ⟨_, 4, none⟩ = some (.slice j.v.LA j.v.Ln j.v.Lc) := B4.cell 4); (try replace c4_5 : World.cell? _ ⟨_, 5, none⟩ = some (.slice j.v.FA j.v.Fn j.v.Fc) := B4.cell 5); (try rw [HA.out] at c4_4); (try rw [HA5.out] at c4_5); (try replace HBW := HBW.trans hkb); replace HB := HB.trans hkb; clear hkb; replace hbz := HB.up hbz0))
            go_ret; exact qJO.of HO (by first | exact HK.out | (rw [HK.out]; rfl)) HB
        · by_cases hk2 : j.v.kind = 2
          · have HK : Hid (plX G (er j) l = l ++ qFt j.v.i) := Lib.hid (by rw [hex, if_neg hk0, if_neg hk1, if_pos hk2]); (have hfl : l.length + (qFt j.v.i).length ≤ 1099511627776 := by rw [hpx, if_neg hk0, if_neg hk1, if_pos hk2] at htot; exact htot); have HKD := Lib.hid hk2; clear hk0 hk1 hk2 hex hpx htot; go_enter Tryz.func40, Tryz.ntmps40
            go_wp2_with (first
              | (refine qAM rfl 25 (.tmp 1) rfl _ rfl ?_; intro w1 hw; have hkb := KB.of (base := base) (qAD hw) hbz; have B4 := (qAC hw).1; replace HO := HO.below (qAD hw); replace HJ := qAt hkb HJ HOJ.out; replace HB := HB.trans hkb; replace hbz := HB.up hbz0; clear hkb hw; have c4_0 : w1.cell? ⟨_, 0, none⟩ = some (.int .i64 2) := (B4.cell 0).trans (by rw [← HKD.out]; rfl); have c4_1 : w1.cell? ⟨_, 1, none⟩ = some (.bool j.v.b) := B4.cell 1; have c4_2 : w1.cell? ⟨_, 2, none⟩ = some (.int .i64 j.v.i) := B4.cell 2; have c4_3 : w1.cell? ⟨_, 3, none⟩ = some (.string j.v.t) := B4.cell 3; have c4_4 : w1.cell? ⟨_, 4, none⟩ = some (.slice j.v.LA j.v.Ln j.v.Lc) := B4.cell 4; have c4_5 : w1.cell? ⟨_, 5, none⟩ = some (.slice j.v.FA j.v.Fn j.v.Fc) := B4.cell 5)
              | (go_at_call 62; (with_reducible refine (qII HI.out _).mono ?_); rintro e w2 ⟨rfl, hb⟩; have hkb := KB.of (base := base) hb hbz; replace HO := HO.below hb; clear hb; (try replace HJ := qAt hkb HJ HOJ.out); (try replace HX := qAt hkb HX HOX.out); (try replace RX := qAp hkb RX hbl); (try replace n1 := qA1 hkb n1 hbl); (try replace B4 := hkb.2 _ _ _ qCa B4); (try replace c4_4 : World.cell? _ ⟨_, 4, none⟩ = some (.slice j.v.LA j.v.Ln j.v.Lc) := B4.cell 4); (try replace c4_5 : World.cell? _ ⟨_, 5, none⟩ = some (.slice j.v.FA j.v.Fn j.v.Fc) := B4.cell 5); (try rw [HA.out] at c4_4); (try rw [HA5.out] at c4_5); (try replace HBW := HBW.trans hkb); replace HB := HB.trans hkb; clear hkb; replace hbz := HB.up hbz0)
              | (refine qAq rfl (.tmp 29) (.tmp 32) 46 9 rfl Tryz.underlying46 Tryz.underlying9 base _ _ rfl HO ⟨(qFt j.v.i).toArray⟩ rfl (by show l.length + (qFt j.v.i).toArray.size ≤ _; simp; omega) hbz ?_; intro v10 w10 ho10 hkb; replace HO := ho10; clear ho10; (try replace HJ := qAt hkb HJ HOJ.out); (try replace HX := qAt hkb HX HOX.out); (try replace RX := qAp hkb RX hbl); (try replace n1 := qA1 hkb n1 hbl); (try replace B4 := hkb.2 _ _ _ qCa B4); (try replace c4_4 : World.cell? _ ⟨_, 4, none⟩ = some (.slice j.v.LA j.v.Ln j.v.Lc) := B4.cell 4); (try replace c4_5 : World.cell? _ ⟨_, 5, none⟩ = some (.slice j.v.FA j.v.Fn j.v.Fc) := B4.cell 5); (try rw [HA.out] at c4_4); (try rw [HA5.out] at c4_5); (try replace HBW := HBW.trans hkb); replace HB := HB.trans hkb; clear hkb; replace hbz := HB.up hbz0))
            go_ret; exact qJO.of HO (by first | exact HK.out | (rw [HK.out]; rfl)) HB
          · by_cases hk3 : j.v.kind = 3
            · have HK : Hid (plX G (er j) l = l ++ quo j.v.t) := Lib.hid (by rw [hex, if_neg hk0, if_neg hk1, if_neg hk2, if_pos hk3])
              have hql : l.length + 6 * j.v.t.size + 2 ≤ 70368744177664 := by
                rw [hpx, if_neg hk0, if_neg hk1, if_neg hk2, if_pos hk3] at htot; have := qDX j.v.t; omega
              have HKD := Lib.hid hk3; clear hk0 hk1 hk2 hk3 hex hpx htot; go_enter Tryz.func40, Tryz.ntmps40
              go_wp2_with (first
                | (refine qAM rfl 25 (.tmp 1) rfl _ rfl ?_; intro w1 hw; have hkb := KB.of (base := base) (qAD hw) hbz; have B4 := (qAC hw).1; replace HO := HO.below (qAD hw); replace HJ := qAt hkb HJ HOJ.out; replace HB := HB.trans hkb; replace hbz := HB.up hbz0; clear hkb hw; have c4_0 : w1.cell? ⟨_, 0, none⟩ = some (.int .i64 3) := (B4.cell 0).trans (by rw [← HKD.out]; rfl); have c4_1 : w1.cell? ⟨_, 1, none⟩ = some (.bool j.v.b) := B4.cell 1; have c4_2 : w1.cell? ⟨_, 2, none⟩ = some (.int .i64 j.v.i) := B4.cell 2; have c4_3 : w1.cell? ⟨_, 3, none⟩ = some (.string j.v.t) := B4.cell 3; have c4_4 : w1.cell? ⟨_, 4, none⟩ = some (.slice j.v.LA j.v.Ln j.v.Lc) := B4.cell 4; have c4_5 : w1.cell? ⟨_, 5, none⟩ = some (.slice j.v.FA j.v.Fn j.v.Fc) := B4.cell 5)
                | (go_at_call 63; (refine (qEV HO hbz (by exact hql)).mono ?_); rintro e w2 ⟨v10, rfl, ho10, hkb⟩; replace HO := ho10; clear ho10; (try replace HJ := qAt hkb HJ HOJ.out); (try replace HX := qAt hkb HX HOX.out); (try replace RX := qAp hkb RX hbl); (try replace n1 := qA1 hkb n1 hbl); (try replace B4 := hkb.2 _ _ _ qCa B4); (try replace c4_4 : World.cell? _ ⟨_, 4, none⟩ = some (.slice j.v.LA j.v.Ln j.v.Lc) := B4.cell 4); (try replace c4_5 : World.cell? _ ⟨_, 5, none⟩ = some (.slice j.v.FA j.v.Fn j.v.Fc) := B4.cell 5); (try rw [HA.out] at c4_4); (try rw [HA5.out] at c4_5); (try replace HBW := HBW.trans hkb); replace HB := HB.trans hkb; clear hkb; replace hbz := HB.up hbz0))
              go_ret; exact qJO.of HO HK.out HB
            · by_cases hk4 : j.v.kind = 4
              · have HK : Hid (plX G (er j) l = qFO G true (erL j.l) (l ++ [91]) ++ [93]) := Lib.hid (by rw [hex, if_neg hk0, if_neg hk1, if_neg hk2, if_neg hk3, if_pos hk4]); have HTL : Hid (l.length + (prL G true (erL j.l)).length + 2 ≤ 1099511627776) := Lib.hid (by rw [hpx, if_neg hk0, if_neg hk1, if_neg hk2, if_neg hk3, if_pos hk4] at htot; simp at htot; omega); have HKD := Lib.hid hk4; clear hk0 hk1 hk2 hk3 hk4 hex hpx htot; go_enter Tryz.func40, Tryz.ntmps40
                go_wp2_with (first
                  | (refine qAM rfl 25 (.tmp 1) rfl _ rfl ?_; intro w1 hw; have hkb := KB.of (base := base) (qAD hw) hbz; have B4 := (qAC hw).1; replace HO := HO.below (qAD hw); replace HJ := qAt hkb HJ HOJ.out; replace HB := HB.trans hkb; replace hbz := HB.up hbz0; clear hkb hw; have c4_0 : w1.cell? ⟨_, 0, none⟩ = some (.int .i64 4) := (B4.cell 0).trans (by rw [← HKD.out]; rfl); have c4_1 : w1.cell? ⟨_, 1, none⟩ = some (.bool j.v.b) := B4.cell 1; have c4_2 : w1.cell? ⟨_, 2, none⟩ = some (.int .i64 j.v.i) := B4.cell 2; have c4_3 : w1.cell? ⟨_, 3, none⟩ = some (.string j.v.t) := B4.cell 3; have c4_4 : w1.cell? ⟨_, 4, none⟩ = some (.slice j.v.LA j.v.Ln j.v.Lc) := B4.cell 4; have c4_5 : w1.cell? ⟨_, 5, none⟩ = some (.slice j.v.FA j.v.Fn j.v.Fc) := B4.cell 5)
                  | ((with_reducible refine qAm ?_); refine qAU 1 [(0, .int .u8 91)] #[.int .u8 91] ie _ (by rw [hie3]; exact qDI _) rfl 46 5 _ rfl rfl Tryz.underlying46 hie1 hie2 (by rw [hie3]; decide) (by rw [hie3]; decide) ?_; intro w9 hw; have hkb := KB.of (base := base) (qAD hw) hbz; have B9 := (qAC hw).1; replace HO := HO.below (qAD hw); clear hw; (try replace HJ := qAt hkb HJ HOJ.out); (try replace HX := qAt hkb HX HOX.out); (try replace RX := qAp hkb RX hbl); (try replace n1 := qA1 hkb n1 hbl); (try replace B4 := hkb.2 _ _ _ qCa B4); (try replace c4_4 : World.cell? _ ⟨_, 4, none⟩ = some (.slice j.v.LA j.v.Ln j.v.Lc) := B4.cell 4); (try replace c4_5 : World.cell? _ ⟨_, 5, none⟩ = some (.slice j.v.FA j.v.Fn j.v.Fc) := B4.cell 5); (try rw [HA.out] at c4_4); (try rw [HA5.out] at c4_5); (try replace HBW := HBW.trans hkb); replace HB := HB.trans hkb; clear hkb; replace hbz := HB.up hbz0)
                  | (refine qAf rfl (.tmp 42) (.tmp 43) 46 rfl Tryz.underlying46 base _ _ rfl HO _ _ [91] 1 rfl rfl (qAW.cells B9 rfl) (by first | omega | (simp; omega)) hbz ?_; clear B9; intro v10 wz ho10 hkb; replace HO := ho10; clear ho10; (try replace HJ := qAt hkb HJ HOJ.out); (try replace HX := qAt hkb HX HOX.out); (try replace RX := qAp hkb RX hbl); (try replace n1 := qA1 hkb n1 hbl); (try replace B4 := hkb.2 _ _ _ qCa B4); (try replace c4_4 : World.cell? _ ⟨_, 4, none⟩ = some (.slice j.v.LA j.v.Ln j.v.Lc) := B4.cell 4); (try replace c4_5 : World.cell? _ ⟨_, 5, none⟩ = some (.slice j.v.FA j.v.Fn j.v.Fc) := B4.cell 5); (try rw [HA.out] at c4_4); (try rw [HA5.out] at c4_5); (try replace HBW := HBW.trans hkb); replace HB := HB.trans hkb; clear hkb; replace hbz := HB.up hbz0))
                clear c4_0 c4_1 c4_2 c4_3; have HJ0 := HJ; have B40 := B4; have HB0 := HB; have WKB := KB.refl hbz
                go_loopw [0, 7] (fun bv iv wr => ∃ (q : Nat) (v1 : Value) (m : List UInt8), v1 = bv ∧ iv = .int .i64 q ∧ q ≤ j.v.Ln ∧ qCg wr base v1 m ∧ Hid (qFO G true (erL j.l) (l ++ [91]) = qFO G (q == 0) ((erL j.l).drop q) m) ∧ Hid (m.length + (prL G (q == 0) ((erL j.l).drop q)).length + 1 ≤ 1099511627776) ∧ KB base wz wr) (fun _ iv _ => j.v.Ln - (intOf iv).toNat)
                case atStart => exact ⟨0, _, l ++ [91], rfl, rfl, Nat.zero_le _, HO, Lib.hid rfl, Lib.hid (by have := HTL.out; show (l ++ [91]).length + (prL G true ((erL j.l).drop 0)).length + 1 ≤ _; simp only [List.drop_zero, List.length_append, List.length_cons, List.length_nil]; omega), WKB⟩
                case round =>
                  clear HO; obtain ⟨q, v1, m, rfl, rfl, hq, HO, HS1, HLN, hkb⟩ := hrel; replace HJ := qAt hkb HJ0 HOJ.out; replace B4 := hkb.2 _ _ _ qCa B40; replace c4_4 : World.cell? _ ⟨_, 4, none⟩ = some (.slice j.v.LA j.v.Ln j.v.Lc) := B4.cell 4; replace c4_5 : World.cell? _ ⟨_, 5, none⟩ = some (.slice j.v.FA j.v.Fn j.v.Fc) := B4.cell 5; replace HB := HB0.trans hkb; replace hbz := HB.up hbz0; have HBW := hkb; clear hkb
                  by_cases hlt : q < j.v.Ln
                  · obtain ⟨bl, off, x, hA, hx, RX, HX⟩ := qDv HJ (show q < j.l.length by have := LL.out; omega); obtain ⟨hox, hbb⟩ := HO1.out q x hx; (have hbl : bl < base := by have := hbb _ hA; simpa using this); have HOX := Lib.hid hox; have HSZ := Lib.hid (show SizeOf.sizeOf x < sz by have := qFB hx; have := SZ.out; omega); obtain ⟨hst1, hst2⟩ := qHH (G := G) (a := m) hx; (have hbd : 0 ≤ (q : Int) ∧ (q : Int) < j.v.Ln := by omega); have HA := Lib.hid hA; rw [hA] at c4_4; clear hx hA hox hbb
                    by_cases hq0 : q = 0
                    · subst hq0; rw [if_pos rfl] at hst1; rw [if_pos rfl] at hst2; have hln := HLN.out; rw [hst2] at hln; simp only [List.length_append, List.length_cons, List.length_nil] at hln; have hplb := (qDL G (er x) (m ++ G)).2.1; simp only [List.length_append, List.length_cons, List.length_nil] at hplb; have HPB : Hid ((m ++ G).length + (pr G (er x)).length ≤ qCA) := Lib.hid (by unfold qCA; simp only [List.length_append, List.length_cons, List.length_nil]; omega); have HS2 : Hid (qFO G true (erL j.l) (l ++ [91]) = qFO G (0 + 1 == 0) ((erL j.l).drop (0 + 1)) (plX G (er x) (m ++ G) ++ G)) := Lib.hid (HS1.out.trans hst1); have HLN2 : Hid ((plX G (er x) (m ++ G) ++ G).length + (prL G (0 + 1 == 0) ((erL j.l).drop (0 + 1))).length + 1 ≤ 1099511627776) := Lib.hid (by simp only [List.length_append]; omega); (have hg1 : (m).length + G.length ≤ 1099511627776 := by (try simp only [List.length_append, List.length_cons, List.length_nil]); omega); (have hg2 : (plX G (er x) (m ++ G)).length + G.length ≤ 1099511627776 := by omega); clear hst1 hst2 hln hplb; have hm1 : m.length + 1 ≤ 1099511627776 := by have := HLN.out; omega
                      go_wp2_with (first
                        | ((with_reducible refine qAR ?_); refine qAX rfl 25 (.tmp 64) rfl _ _ rfl x.cells _ RX Tryz.underlying25 rfl qAA ?_)
                        | (go_at_call 40; (refine (IH.out x base _ _ _ HSZ.out HX HOX.out HO hbz (by rw [← HG.out]; exact HPB.out)).mono ?_); rw [← HG.out]; rintro e w3 ⟨v10, rfl, ho10, hkb⟩; replace HO := ho10; clear ho10; (try replace HJ := qAt hkb HJ HOJ.out); (try replace HX := qAt hkb HX HOX.out); (try replace RX := qAp hkb RX hbl); (try replace n1 := qA1 hkb n1 hbl); (try replace B4 := hkb.2 _ _ _ qCa B4); (try replace c4_4 : World.cell? _ ⟨_, 4, none⟩ = some (.slice j.v.LA j.v.Ln j.v.Lc) := B4.cell 4); (try replace c4_5 : World.cell? _ ⟨_, 5, none⟩ = some (.slice j.v.FA j.v.Fn j.v.Fc) := B4.cell 5); (try rw [HA.out] at c4_4); (try rw [HA5.out] at c4_5); (try replace HBW := HBW.trans hkb); replace HB := HB.trans hkb; clear hkb; replace hbz := HB.up hbz0)
                        | (refine qAq rfl (.tmp 57) (.tmp 58) 46 9 rfl Tryz.underlying46 Tryz.underlying9 base _ _ rfl HO g rfl (by rw [HGL.out, ← HG.out]; exact Nat.le_trans hg1 (by decide)) hbz ?_; intro v10 w10 ho10 hkb; rw [← HG.out] at ho10; replace HO := ho10; clear ho10; (try replace HJ := qAt hkb HJ HOJ.out); (try replace HX := qAt hkb HX HOX.out); (try replace RX := qAp hkb RX hbl); (try replace n1 := qA1 hkb n1 hbl); (try replace B4 := hkb.2 _ _ _ qCa B4); (try replace c4_4 : World.cell? _ ⟨_, 4, none⟩ = some (.slice j.v.LA j.v.Ln j.v.Lc) := B4.cell 4); (try replace c4_5 : World.cell? _ ⟨_, 5, none⟩ = some (.slice j.v.FA j.v.Fn j.v.Fc) := B4.cell 5); (try rw [HA.out] at c4_4); (try rw [HA5.out] at c4_5); (try replace HBW := HBW.trans hkb); replace HB := HB.trans hkb; clear hkb; replace hbz := HB.up hbz0)
                        | (refine qAq rfl (.tmp 68) (.tmp 69) 46 9 rfl Tryz.underlying46 Tryz.underlying9 base _ _ rfl HO g rfl (by rw [HGL.out, ← HG.out]; exact Nat.le_trans hg2 (by decide)) hbz ?_; intro v10 w10 ho10 hkb; rw [← HG.out] at ho10; replace HO := ho10; clear ho10; (try replace HJ := qAt hkb HJ HOJ.out); (try replace HX := qAt hkb HX HOX.out); (try replace RX := qAp hkb RX hbl); (try replace n1 := qA1 hkb n1 hbl); (try replace B4 := hkb.2 _ _ _ qCa B4); (try replace c4_4 : World.cell? _ ⟨_, 4, none⟩ = some (.slice j.v.LA j.v.Ln j.v.Lc) := B4.cell 4); (try replace c4_5 : World.cell? _ ⟨_, 5, none⟩ = some (.slice j.v.FA j.v.Fn j.v.Fc) := B4.cell 5); (try rw [HA.out] at c4_4); (try rw [HA5.out] at c4_5); (try replace HBW := HBW.trans hkb); replace HB := HB.trans hkb; clear hkb; replace hbz := HB.up hbz0))
                      go_roundw
                      case rel => exact ⟨0 + 1, _, _, rfl, by go_num, by omega, HO, HS2, HLN2, HBW⟩
                      case measure => simp [intOf]; omega
                    · (have hq1 : (0 : Int) < (q : Int) := by omega); rw [if_neg hq0] at hst1; rw [if_neg hq0] at hst2; clear hq0; have hln := HLN.out; rw [hst2] at hln; simp only [List.length_append, List.length_cons, List.length_nil] at hln; have hplb := (qDL G (er x) ((m ++ [44]) ++ G)).2.1; simp only [List.length_append, List.length_cons, List.length_nil] at hplb; have HPB : Hid (((m ++ [44]) ++ G).length + (pr G (er x)).length ≤ qCA) := Lib.hid (by unfold qCA; simp only [List.length_append, List.length_cons, List.length_nil]; omega); have HS2 : Hid (qFO G true (erL j.l) (l ++ [91]) = qFO G (q + 1 == 0) ((erL j.l).drop (q + 1)) (plX G (er x) ((m ++ [44]) ++ G) ++ G)) := Lib.hid (HS1.out.trans hst1); have HLN2 : Hid ((plX G (er x) ((m ++ [44]) ++ G) ++ G).length + (prL G (q + 1 == 0) ((erL j.l).drop (q + 1))).length + 1 ≤ 1099511627776) := Lib.hid (by simp only [List.length_append]; omega); (have hg1 : ((m ++ [44])).length + G.length ≤ 1099511627776 := by (try simp only [List.length_append, List.length_cons, List.length_nil]); omega); (have hg2 : (plX G (er x) ((m ++ [44]) ++ G)).length + G.length ≤ 1099511627776 := by omega); clear hst1 hst2 hln hplb; have hm1 : m.length + 1 ≤ 1099511627776 := by have := HLN.out; omega
                      go_wp2_with (first
                        | ((with_reducible refine qAm ?_); refine qAU 1 [(0, .int .u8 44)] #[.int .u8 44] ie _ (by rw [hie3]; exact qDI _) rfl 46 5 _ rfl rfl Tryz.underlying46 hie1 hie2 (by rw [hie3]; decide) (by rw [hie3]; decide) ?_; intro w9 hw; have hkb := KB.of (base := base) (qAD hw) hbz; have B9 := (qAC hw).1; replace HO := HO.below (qAD hw); clear hw; (try replace HJ := qAt hkb HJ HOJ.out); (try replace HX := qAt hkb HX HOX.out); (try replace RX := qAp hkb RX hbl); (try replace n1 := qA1 hkb n1 hbl); (try replace B4 := hkb.2 _ _ _ qCa B4); (try replace c4_4 : World.cell? _ ⟨_, 4, none⟩ = some (.slice j.v.LA j.v.Ln j.v.Lc) := B4.cell 4); (try replace c4_5 : World.cell? _ ⟨_, 5, none⟩ = some (.slice j.v.FA j.v.Fn j.v.Fc) := B4.cell 5); (try rw [HA.out] at c4_4); (try rw [HA5.out] at c4_5); (try replace HBW := HBW.trans hkb); replace HB := HB.trans hkb; clear hkb; replace hbz := HB.up hbz0)
                        | (refine qAf rfl (.tmp 54) (.tmp 55) 46 rfl Tryz.underlying46 base _ _ rfl HO _ _ [44] 1 rfl rfl (qAW.cells B9 rfl) (by first | omega | (simp; omega)) hbz ?_; clear B9; intro v10 w10 ho10 hkb; replace HO := ho10; clear ho10; (try replace HJ := qAt hkb HJ HOJ.out); (try replace HX := qAt hkb HX HOX.out); (try replace RX := qAp hkb RX hbl); (try replace n1 := qA1 hkb n1 hbl); (try replace B4 := hkb.2 _ _ _ qCa B4); (try replace c4_4 : World.cell? _ ⟨_, 4, none⟩ = some (.slice j.v.LA j.v.Ln j.v.Lc) := B4.cell 4); (try replace c4_5 : World.cell? _ ⟨_, 5, none⟩ = some (.slice j.v.FA j.v.Fn j.v.Fc) := B4.cell 5); (try rw [HA.out] at c4_4); (try rw [HA5.out] at c4_5); (try replace HBW := HBW.trans hkb); replace HB := HB.trans hkb; clear hkb; replace hbz := HB.up hbz0)
                        | ((with_reducible refine qAR ?_); refine qAX rfl 25 (.tmp 64) rfl _ _ rfl x.cells _ RX Tryz.underlying25 rfl qAA ?_)
                        | (go_at_call 40; (refine (IH.out x base _ _ _ HSZ.out HX HOX.out HO hbz (by rw [← HG.out]; exact HPB.out)).mono ?_); rw [← HG.out]; rintro e w3 ⟨v10, rfl, ho10, hkb⟩; replace HO := ho10; clear ho10; (try replace HJ := qAt hkb HJ HOJ.out); (try replace HX := qAt hkb HX HOX.out); (try replace RX := qAp hkb RX hbl); (try replace n1 := qA1 hkb n1 hbl); (try replace B4 := hkb.2 _ _ _ qCa B4); (try replace c4_4 : World.cell? _ ⟨_, 4, none⟩ = some (.slice j.v.LA j.v.Ln j.v.Lc) := B4.cell 4); (try replace c4_5 : World.cell? _ ⟨_, 5, none⟩ = some (.slice j.v.FA j.v.Fn j.v.Fc) := B4.cell 5); (try rw [HA.out] at c4_4); (try rw [HA5.out] at c4_5); (try replace HBW := HBW.trans hkb); replace HB := HB.trans hkb; clear hkb; replace hbz := HB.up hbz0)
                        | (refine qAq rfl (.tmp 57) (.tmp 58) 46 9 rfl Tryz.underlying46 Tryz.underlying9 base _ _ rfl HO g rfl (by rw [HGL.out, ← HG.out]; exact Nat.le_trans hg1 (by decide)) hbz ?_; intro v10 w10 ho10 hkb; rw [← HG.out] at ho10; replace HO := ho10; clear ho10; (try replace HJ := qAt hkb HJ HOJ.out); (try replace HX := qAt hkb HX HOX.out); (try replace RX := qAp hkb RX hbl); (try replace n1 := qA1 hkb n1 hbl); (try replace B4 := hkb.2 _ _ _ qCa B4); (try replace c4_4 : World.cell? _ ⟨_, 4, none⟩ = some (.slice j.v.LA j.v.Ln j.v.Lc) := B4.cell 4); (try replace c4_5 : World.cell? _ ⟨_, 5, none⟩ = some (.slice j.v.FA j.v.Fn j.v.Fc) := B4.cell 5); (try rw [HA.out] at c4_4); (try rw [HA5.out] at c4_5); (try replace HBW := HBW.trans hkb); replace HB := HB.trans hkb; clear hkb; replace hbz := HB.up hbz0)
                        | (refine qAq rfl (.tmp 68) (.tmp 69) 46 9 rfl Tryz.underlying46 Tryz.underlying9 base _ _ rfl HO g rfl (by rw [HGL.out, ← HG.out]; exact Nat.le_trans hg2 (by decide)) hbz ?_; intro v10 w10 ho10 hkb; rw [← HG.out] at ho10; replace HO := ho10; clear ho10; (try replace HJ := qAt hkb HJ HOJ.out); (try replace HX := qAt hkb HX HOX.out); (try replace RX := qAp hkb RX hbl); (try replace n1 := qA1 hkb n1 hbl); (try replace B4 := hkb.2 _ _ _ qCa B4); (try replace c4_4 : World.cell? _ ⟨_, 4, none⟩ = some (.slice j.v.LA j.v.Ln j.v.Lc) := B4.cell 4); (try replace c4_5 : World.cell? _ ⟨_, 5, none⟩ = some (.slice j.v.FA j.v.Fn j.v.Fc) := B4.cell 5); (try rw [HA.out] at c4_4); (try rw [HA5.out] at c4_5); (try replace HBW := HBW.trans hkb); replace HB := HB.trans hkb; clear hkb; replace hbz := HB.up hbz0))
                      go_roundw
                      case rel => exact ⟨q + 1, _, _, rfl, by go_num, by omega, HO, HS2, HLN2, HBW⟩
                      case measure => simp [intOf]; omega
                  · (obtain rfl : q = j.v.Ln := by omega); clear hq hlt; have HLQ : Hid (plX G (er j) l = m ++ [93]) := Lib.hid (by rw [HK.out, HS1.out]; rw [List.drop_eq_nil_of_le (by rw [qBj]; exact Nat.le_of_eq LL.out.symm), qFO]); have hml : m.length + 1 ≤ 1099511627776 := by have := HLN.out; omega
                    go_wp2_with (first
                      | ((with_reducible refine qAm ?_); refine qAU 1 [(0, .int .u8 93)] #[.int .u8 93] ie _ (by rw [hie3]; exact qDI _) rfl 46 5 _ rfl rfl Tryz.underlying46 hie1 hie2 (by rw [hie3]; decide) (by rw [hie3]; decide) ?_; intro w9 hw; have hkb := KB.of (base := base) (qAD hw) hbz; have B9 := (qAC hw).1; replace HO := HO.below (qAD hw); clear hw; (try replace HJ := qAt hkb HJ HOJ.out); (try replace HX := qAt hkb HX HOX.out); (try replace RX := qAp hkb RX hbl); (try replace n1 := qA1 hkb n1 hbl); (try replace B4 := hkb.2 _ _ _ qCa B4); (try replace c4_4 : World.cell? _ ⟨_, 4, none⟩ = some (.slice j.v.LA j.v.Ln j.v.Lc) := B4.cell 4); (try replace c4_5 : World.cell? _ ⟨_, 5, none⟩ = some (.slice j.v.FA j.v.Fn j.v.Fc) := B4.cell 5); (try rw [HA.out] at c4_4); (try rw [HA5.out] at c4_5); (try replace HBW := HBW.trans hkb); replace HB := HB.trans hkb; clear hkb; replace hbz := HB.up hbz0)
                      | (refine qAf rfl (.tmp 71) (.tmp 72) 46 rfl Tryz.underlying46 base _ _ rfl HO _ _ [93] 1 rfl rfl (qAW.cells B9 rfl) (by first | omega | (simp; omega)) hbz ?_; clear B9; intro v10 w10 ho10 hkb; replace HO := ho10; clear ho10; (try replace HJ := qAt hkb HJ HOJ.out); (try replace HX := qAt hkb HX HOX.out); (try replace RX := qAp hkb RX hbl); (try replace n1 := qA1 hkb n1 hbl); (try replace B4 := hkb.2 _ _ _ qCa B4); (try replace c4_4 : World.cell? _ ⟨_, 4, none⟩ = some (.slice j.v.LA j.v.Ln j.v.Lc) := B4.cell 4); (try replace c4_5 : World.cell? _ ⟨_, 5, none⟩ = some (.slice j.v.FA j.v.Fn j.v.Fc) := B4.cell 5); (try rw [HA.out] at c4_4); (try rw [HA5.out] at c4_5); (try replace HBW := HBW.trans hkb); replace HB := HB.trans hkb; clear hkb; replace hbz := HB.up hbz0))
                    go_ret; exact qJO.of HO HLQ.out HB
              · have HK : Hid (plX G (er j) l = qEs G true j.ns (erL j.vs) (l ++ [123]) ++ [125]) := Lib.hid (by rw [hex, if_neg hk0, if_neg hk1, if_neg hk2, if_neg hk3, if_neg hk4]); have HTL : Hid (l.length + (prF G true j.ns (erL j.vs)).length + 2 ≤ 1099511627776) := Lib.hid (by rw [hpx, if_neg hk0, if_neg hk1, if_neg hk2, if_neg hk3, if_neg hk4] at htot; simp at htot; omega); (have q0 : (j.v.kind == 0) = false := by simpa using hk0); (have q1 : (j.v.kind == 1) = false := by simpa using hk1); (have q2 : (j.v.kind == 2) = false := by simpa using hk2); (have q3 : (j.v.kind == 3) = false := by simpa using hk3); (have q4 : (j.v.kind == 4) = false := by simpa using hk4); clear hk0 hk1 hk2 hk3 hk4 hex hpx htot; go_enter Tryz.func40, Tryz.ntmps40
                go_wp2_with (first
                  | (refine qAM rfl 25 (.tmp 1) rfl _ rfl ?_; intro w1 hw; have hkb := KB.of (base := base) (qAD hw) hbz; have B4 := (qAC hw).1; replace HO := HO.below (qAD hw); replace HJ := qAt hkb HJ HOJ.out; replace HB := HB.trans hkb; replace hbz := HB.up hbz0; clear hkb hw; have c4_0 : w1.cell? ⟨_, 0, none⟩ = some (.int .i64 j.v.kind) := (B4.cell 0).trans (by rfl); have c4_1 : w1.cell? ⟨_, 1, none⟩ = some (.bool j.v.b) := B4.cell 1; have c4_2 : w1.cell? ⟨_, 2, none⟩ = some (.int .i64 j.v.i) := B4.cell 2; have c4_3 : w1.cell? ⟨_, 3, none⟩ = some (.string j.v.t) := B4.cell 3; have c4_4 : w1.cell? ⟨_, 4, none⟩ = some (.slice j.v.LA j.v.Ln j.v.Lc) := B4.cell 4; have c4_5 : w1.cell? ⟨_, 5, none⟩ = some (.slice j.v.FA j.v.Fn j.v.Fc) := B4.cell 5)
                  | ((with_reducible refine qAm ?_); refine qAU 1 [(0, .int .u8 123)] #[.int .u8 123] ie _ (by rw [hie3]; exact qDI _) rfl 46 5 _ rfl rfl Tryz.underlying46 hie1 hie2 (by rw [hie3]; decide) (by rw [hie3]; decide) ?_; intro w9 hw; have hkb := KB.of (base := base) (qAD hw) hbz; have B9 := (qAC hw).1; replace HO := HO.below (qAD hw); clear hw; (try replace HJ := qAt hkb HJ HOJ.out); (try replace HX := qAt hkb HX HOX.out); (try replace RX := qAp hkb RX hbl); (try replace n1 := qA1 hkb n1 hbl); (try replace B4 := hkb.2 _ _ _ qCa B4); (try replace c4_4 : World.cell? _ ⟨_, 4, none⟩ = some (.slice j.v.LA j.v.Ln j.v.Lc) := B4.cell 4); (try replace c4_5 : World.cell? _ ⟨_, 5, none⟩ = some (.slice j.v.FA j.v.Fn j.v.Fc) := B4.cell 5); (try rw [HA.out] at c4_4); (try rw [HA5.out] at c4_5); (try replace HBW := HBW.trans hkb); replace HB := HB.trans hkb; clear hkb; replace hbz := HB.up hbz0)
                  | (refine qAf rfl (.tmp 74) (.tmp 75) 46 rfl Tryz.underlying46 base _ _ rfl HO _ _ [123] 1 rfl rfl (qAW.cells B9 rfl) (by first | omega | (simp; omega)) hbz ?_; clear B9; intro v10 wz ho10 hkb; replace HO := ho10; clear ho10; (try replace HJ := qAt hkb HJ HOJ.out); (try replace HX := qAt hkb HX HOX.out); (try replace RX := qAp hkb RX hbl); (try replace n1 := qA1 hkb n1 hbl); (try replace B4 := hkb.2 _ _ _ qCa B4); (try replace c4_4 : World.cell? _ ⟨_, 4, none⟩ = some (.slice j.v.LA j.v.Ln j.v.Lc) := B4.cell 4); (try replace c4_5 : World.cell? _ ⟨_, 5, none⟩ = some (.slice j.v.FA j.v.Fn j.v.Fc) := B4.cell 5); (try rw [HA.out] at c4_4); (try rw [HA5.out] at c4_5); (try replace HBW := HBW.trans hkb); replace HB := HB.trans hkb; clear hkb; replace hbz := HB.up hbz0))
                clear c4_0 c4_1 c4_2 c4_3; have HJ0 := HJ; have B40 := B4; have HB0 := HB; have WKB := KB.refl hbz
                go_loopw [0, 8] (fun bv iv wr => ∃ (q : Nat) (v1 : Value) (m : List UInt8), v1 = bv ∧ iv = .int .i64 q ∧ q ≤ j.v.Fn ∧ qCg wr base v1 m ∧ Hid (qEs G true j.ns (erL j.vs) (l ++ [123]) = qEs G (q == 0) (j.ns.drop q) ((erL j.vs).drop q) m) ∧ Hid (m.length + (prF G (q == 0) (j.ns.drop q) ((erL j.vs).drop q)).length + 1 ≤ 1099511627776) ∧ KB base wz wr) (fun _ iv _ => j.v.Fn - (intOf iv).toNat)
                case atStart => exact ⟨0, _, l ++ [123], rfl, rfl, Nat.zero_le _, HO, Lib.hid rfl, Lib.hid (by have := HTL.out; show (l ++ [123]).length + (prF G true (j.ns.drop 0) ((erL j.vs).drop 0)).length + 1 ≤ _; simp only [List.drop_zero, List.length_append, List.length_cons, List.length_nil]; omega), WKB⟩
                case round =>
                  clear HO; obtain ⟨q, v1, m, rfl, rfl, hq, HO, HS1, HLN, hkb⟩ := hrel; replace HJ := qAt hkb HJ0 HOJ.out; replace B4 := hkb.2 _ _ _ qCa B40; replace c4_4 : World.cell? _ ⟨_, 4, none⟩ = some (.slice j.v.LA j.v.Ln j.v.Lc) := B4.cell 4; replace c4_5 : World.cell? _ ⟨_, 5, none⟩ = some (.slice j.v.FA j.v.Fn j.v.Fc) := B4.cell 5; replace HB := HB0.trans hkb; replace hbz := HB.up hbz0; have HBW := hkb; clear hkb
                  by_cases hlt : q < j.v.Fn
                  · obtain ⟨bl, off, nm, x, hA5, hx, hnx, n1, RX, HX⟩ := qEI HJ (show q < j.vs.length by have := LV.out; omega); obtain ⟨hox, hbb⟩ := HO2.out q x hx; (have hbl : bl < base := by have := hbb _ hA5; simpa using this); have HOX := Lib.hid hox; have HSZ := Lib.hid (show SizeOf.sizeOf x < sz by have := qDu hx; have := SZ.out; omega); obtain ⟨hst1, hst2⟩ := qHm (G := G) (a := m) hnx hx; (have hbd : 0 ≤ (q : Int) ∧ (q : Int) < j.v.Fn := by omega); have HA5 := Lib.hid hA5; rw [hA5] at c4_5; clear hx hA5 hox hbb hnx
                    by_cases hq0 : q = 0
                    · subst hq0; rw [if_pos rfl] at hst1; rw [if_pos rfl] at hst2; rw [Nat.zero_mul, Nat.add_zero] at n1; have hln := HLN.out; rw [hst2] at hln; simp only [List.length_append, List.length_cons, List.length_nil] at hln; have hplb := (qDL G (er x) (((((m ++ G) ++ quo nm) ++ G) ++ [58]) ++ G)).2.1; simp only [List.length_append, List.length_cons, List.length_nil] at hplb; have hqs := qDX nm; have HPB : Hid ((((((m ++ G) ++ quo nm) ++ G) ++ [58]) ++ G).length + (pr G (er x)).length ≤ qCA) := Lib.hid (by unfold qCA; simp only [List.length_append, List.length_cons, List.length_nil]; omega); have HS2 : Hid (qEs G true j.ns (erL j.vs) (l ++ [123]) = qEs G (0 + 1 == 0) (j.ns.drop (0 + 1)) ((erL j.vs).drop (0 + 1)) (plX G (er x) (((((m ++ G) ++ quo nm) ++ G) ++ [58]) ++ G) ++ G)) := Lib.hid (HS1.out.trans hst1); have HLN2 : Hid ((plX G (er x) (((((m ++ G) ++ quo nm) ++ G) ++ [58]) ++ G) ++ G).length + (prF G (0 + 1 == 0) (j.ns.drop (0 + 1)) ((erL j.vs).drop (0 + 1))).length + 1 ≤ 1099511627776) := Lib.hid (by simp only [List.length_append]; omega); (have hg1 : (m).length + G.length ≤ 1099511627776 := by (try simp only [List.length_append, List.length_cons, List.length_nil]); omega); (have hg2 : (plX G (er x) (((((m ++ G) ++ quo nm) ++ G) ++ [58]) ++ G)).length + G.length ≤ 1099511627776 := by omega); (have hg3 : ((m ++ G) ++ quo nm).length + G.length ≤ 1099511627776 := by simp only [List.length_append, List.length_cons, List.length_nil]; omega); (have hg4 : ((((m ++ G) ++ quo nm) ++ G) ++ [58]).length + G.length ≤ 1099511627776 := by simp only [List.length_append, List.length_cons, List.length_nil]; omega); (have hg5 : (((m ++ G) ++ quo nm) ++ G).length + 1 ≤ 140737488355328 := by simp only [List.length_append, List.length_cons, List.length_nil]; omega); (have hqn : (m ++ G).length + 6 * nm.size + 2 ≤ 70368744177664 := by simp only [List.length_append, List.length_cons, List.length_nil]; omega); clear hst1 hst2 hln hplb hqs; have hm1 : m.length + 1 ≤ 1099511627776 := by have := HLN.out; omega
                      go_wp2_with (first
                        | ((with_reducible refine qAR ?_); refine qAX rfl 25 (.tmp 114) rfl _ _ rfl x.cells _ RX Tryz.underlying25 rfl qAA ?_)
                        | (go_at_call 40; (refine (IH.out x base _ _ _ HSZ.out HX HOX.out HO hbz (by rw [← HG.out]; exact HPB.out)).mono ?_); rw [← HG.out]; rintro e w3 ⟨v10, rfl, ho10, hkb⟩; replace HO := ho10; clear ho10; (try replace HJ := qAt hkb HJ HOJ.out); (try replace HX := qAt hkb HX HOX.out); (try replace RX := qAp hkb RX hbl); (try replace n1 := qA1 hkb n1 hbl); (try replace B4 := hkb.2 _ _ _ qCa B4); (try replace c4_4 : World.cell? _ ⟨_, 4, none⟩ = some (.slice j.v.LA j.v.Ln j.v.Lc) := B4.cell 4); (try replace c4_5 : World.cell? _ ⟨_, 5, none⟩ = some (.slice j.v.FA j.v.Fn j.v.Fc) := B4.cell 5); (try rw [HA.out] at c4_4); (try rw [HA5.out] at c4_5); (try replace HBW := HBW.trans hkb); replace HB := HB.trans hkb; clear hkb; replace hbz := HB.up hbz0)
                        | (go_at_call 63; (refine (qEV HO hbz (by exact hqn)).mono ?_); rintro e w2 ⟨v10, rfl, ho10, hkb⟩; replace HO := ho10; clear ho10; (try replace HJ := qAt hkb HJ HOJ.out); (try replace HX := qAt hkb HX HOX.out); (try replace RX := qAp hkb RX hbl); (try replace n1 := qA1 hkb n1 hbl); (try replace B4 := hkb.2 _ _ _ qCa B4); (try replace c4_4 : World.cell? _ ⟨_, 4, none⟩ = some (.slice j.v.LA j.v.Ln j.v.Lc) := B4.cell 4); (try replace c4_5 : World.cell? _ ⟨_, 5, none⟩ = some (.slice j.v.FA j.v.Fn j.v.Fc) := B4.cell 5); (try rw [HA.out] at c4_4); (try rw [HA5.out] at c4_5); (try replace HBW := HBW.trans hkb); replace HB := HB.trans hkb; clear hkb; replace hbz := HB.up hbz0)
                        | ((with_reducible refine qAm ?_); refine qAU 1 [(0, .int .u8 58)] #[.int .u8 58] ie _ (by rw [hie3]; exact qDI _) rfl 46 5 _ rfl rfl Tryz.underlying46 hie1 hie2 (by rw [hie3]; decide) (by rw [hie3]; decide) ?_; intro w9 hw; have hkb := KB.of (base := base) (qAD hw) hbz; have B9 := (qAC hw).1; replace HO := HO.below (qAD hw); clear hw; (try replace HJ := qAt hkb HJ HOJ.out); (try replace HX := qAt hkb HX HOX.out); (try replace RX := qAp hkb RX hbl); (try replace n1 := qA1 hkb n1 hbl); (try replace B4 := hkb.2 _ _ _ qCa B4); (try replace c4_4 : World.cell? _ ⟨_, 4, none⟩ = some (.slice j.v.LA j.v.Ln j.v.Lc) := B4.cell 4); (try replace c4_5 : World.cell? _ ⟨_, 5, none⟩ = some (.slice j.v.FA j.v.Fn j.v.Fc) := B4.cell 5); (try rw [HA.out] at c4_4); (try rw [HA5.out] at c4_5); (try replace HBW := HBW.trans hkb); replace HB := HB.trans hkb; clear hkb; replace hbz := HB.up hbz0)
                        | (refine qAf rfl (.tmp 103) (.tmp 104) 46 rfl Tryz.underlying46 base _ _ rfl HO _ _ [58] 1 rfl rfl (qAW.cells B9 rfl) (by exact hg5) hbz ?_; clear B9; intro v10 w10 ho10 hkb; replace HO := ho10; clear ho10; (try replace HJ := qAt hkb HJ HOJ.out); (try replace HX := qAt hkb HX HOX.out); (try replace RX := qAp hkb RX hbl); (try replace n1 := qA1 hkb n1 hbl); (try replace B4 := hkb.2 _ _ _ qCa B4); (try replace c4_4 : World.cell? _ ⟨_, 4, none⟩ = some (.slice j.v.LA j.v.Ln j.v.Lc) := B4.cell 4); (try replace c4_5 : World.cell? _ ⟨_, 5, none⟩ = some (.slice j.v.FA j.v.Fn j.v.Fc) := B4.cell 5); (try rw [HA.out] at c4_4); (try rw [HA5.out] at c4_5); (try replace HBW := HBW.trans hkb); replace HB := HB.trans hkb; clear hkb; replace hbz := HB.up hbz0)
                        | (refine qAq rfl (.tmp 89) (.tmp 90) 46 9 rfl Tryz.underlying46 Tryz.underlying9 base _ _ rfl HO g rfl (by rw [HGL.out, ← HG.out]; exact Nat.le_trans hg1 (by decide)) hbz ?_; intro v10 w10 ho10 hkb; rw [← HG.out] at ho10; replace HO := ho10; clear ho10; (try replace HJ := qAt hkb HJ HOJ.out); (try replace HX := qAt hkb HX HOX.out); (try replace RX := qAp hkb RX hbl); (try replace n1 := qA1 hkb n1 hbl); (try replace B4 := hkb.2 _ _ _ qCa B4); (try replace c4_4 : World.cell? _ ⟨_, 4, none⟩ = some (.slice j.v.LA j.v.Ln j.v.Lc) := B4.cell 4); (try replace c4_5 : World.cell? _ ⟨_, 5, none⟩ = some (.slice j.v.FA j.v.Fn j.v.Fc) := B4.cell 5); (try rw [HA.out] at c4_4); (try rw [HA5.out] at c4_5); (try replace HBW := HBW.trans hkb); replace HB := HB.trans hkb; clear hkb; replace hbz := HB.up hbz0)
                        | (refine qAq rfl (.tmp 100) (.tmp 101) 46 9 rfl Tryz.underlying46 Tryz.underlying9 base _ _ rfl HO g rfl (by rw [HGL.out, ← HG.out]; exact Nat.le_trans hg3 (by decide)) hbz ?_; intro v10 w10 ho10 hkb; rw [← HG.out] at ho10; replace HO := ho10; clear ho10; (try replace HJ := qAt hkb HJ HOJ.out); (try replace HX := qAt hkb HX HOX.out); (try replace RX := qAp hkb RX hbl); (try replace n1 := qA1 hkb n1 hbl); (try replace B4 := hkb.2 _ _ _ qCa B4); (try replace c4_4 : World.cell? _ ⟨_, 4, none⟩ = some (.slice j.v.LA j.v.Ln j.v.Lc) := B4.cell 4); (try replace c4_5 : World.cell? _ ⟨_, 5, none⟩ = some (.slice j.v.FA j.v.Fn j.v.Fc) := B4.cell 5); (try rw [HA.out] at c4_4); (try rw [HA5.out] at c4_5); (try replace HBW := HBW.trans hkb); replace HB := HB.trans hkb; clear hkb; replace hbz := HB.up hbz0)
                        | (refine qAq rfl (.tmp 106) (.tmp 107) 46 9 rfl Tryz.underlying46 Tryz.underlying9 base _ _ rfl HO g rfl (by rw [HGL.out, ← HG.out]; exact Nat.le_trans hg4 (by decide)) hbz ?_; intro v10 w10 ho10 hkb; rw [← HG.out] at ho10; replace HO := ho10; clear ho10; (try replace HJ := qAt hkb HJ HOJ.out); (try replace HX := qAt hkb HX HOX.out); (try replace RX := qAp hkb RX hbl); (try replace n1 := qA1 hkb n1 hbl); (try replace B4 := hkb.2 _ _ _ qCa B4); (try replace c4_4 : World.cell? _ ⟨_, 4, none⟩ = some (.slice j.v.LA j.v.Ln j.v.Lc) := B4.cell 4); (try replace c4_5 : World.cell? _ ⟨_, 5, none⟩ = some (.slice j.v.FA j.v.Fn j.v.Fc) := B4.cell 5); (try rw [HA.out] at c4_4); (try rw [HA5.out] at c4_5); (try replace HBW := HBW.trans hkb); replace HB := HB.trans hkb; clear hkb; replace hbz := HB.up hbz0)
                        | (refine qAq rfl (.tmp 118) (.tmp 119) 46 9 rfl Tryz.underlying46 Tryz.underlying9 base _ _ rfl HO g rfl (by rw [HGL.out, ← HG.out]; exact Nat.le_trans hg2 (by decide)) hbz ?_; intro v10 w10 ho10 hkb; rw [← HG.out] at ho10; replace HO := ho10; clear ho10; (try replace HJ := qAt hkb HJ HOJ.out); (try replace HX := qAt hkb HX HOX.out); (try replace RX := qAp hkb RX hbl); (try replace n1 := qA1 hkb n1 hbl); (try replace B4 := hkb.2 _ _ _ qCa B4); (try replace c4_4 : World.cell? _ ⟨_, 4, none⟩ = some (.slice j.v.LA j.v.Ln j.v.Lc) := B4.cell 4); (try replace c4_5 : World.cell? _ ⟨_, 5, none⟩ = some (.slice j.v.FA j.v.Fn j.v.Fc) := B4.cell 5); (try rw [HA.out] at c4_4); (try rw [HA5.out] at c4_5); (try replace HBW := HBW.trans hkb); replace HB := HB.trans hkb; clear hkb; replace hbz := HB.up hbz0))
                      go_roundw
                      case rel => exact ⟨0 + 1, _, _, rfl, by go_num, by omega, HO, HS2, HLN2, HBW⟩
                      case measure => simp [intOf]; omega
                    · (have hq1 : (0 : Int) < (q : Int) := by omega); rw [if_neg hq0] at hst1; rw [if_neg hq0] at hst2; clear hq0; have hln := HLN.out; rw [hst2] at hln; simp only [List.length_append, List.length_cons, List.length_nil] at hln; have hplb := (qDL G (er x) ((((((m ++ [44]) ++ G) ++ quo nm) ++ G) ++ [58]) ++ G)).2.1; simp only [List.length_append, List.length_cons, List.length_nil] at hplb; have hqs := qDX nm; have HPB : Hid (((((((m ++ [44]) ++ G) ++ quo nm) ++ G) ++ [58]) ++ G).length + (pr G (er x)).length ≤ qCA) := Lib.hid (by unfold qCA; simp only [List.length_append, List.length_cons, List.length_nil]; omega); have HS2 : Hid (qEs G true j.ns (erL j.vs) (l ++ [123]) = qEs G (q + 1 == 0) (j.ns.drop (q + 1)) ((erL j.vs).drop (q + 1)) (plX G (er x) ((((((m ++ [44]) ++ G) ++ quo nm) ++ G) ++ [58]) ++ G) ++ G)) := Lib.hid (HS1.out.trans hst1); have HLN2 : Hid ((plX G (er x) ((((((m ++ [44]) ++ G) ++ quo nm) ++ G) ++ [58]) ++ G) ++ G).length + (prF G (q + 1 == 0) (j.ns.drop (q + 1)) ((erL j.vs).drop (q + 1))).length + 1 ≤ 1099511627776) := Lib.hid (by simp only [List.length_append]; omega); (have hg1 : ((m ++ [44])).length + G.length ≤ 1099511627776 := by (try simp only [List.length_append, List.length_cons, List.length_nil]); omega); (have hg2 : (plX G (er x) ((((((m ++ [44]) ++ G) ++ quo nm) ++ G) ++ [58]) ++ G)).length + G.length ≤ 1099511627776 := by omega); (have hg3 : (((m ++ [44]) ++ G) ++ quo nm).length + G.length ≤ 1099511627776 := by simp only [List.length_append, List.length_cons, List.length_nil]; omega); (have hg4 : (((((m ++ [44]) ++ G) ++ quo nm) ++ G) ++ [58]).length + G.length ≤ 1099511627776 := by simp only [List.length_append, List.length_cons, List.length_nil]; omega); (have hg5 : ((((m ++ [44]) ++ G) ++ quo nm) ++ G).length + 1 ≤ 140737488355328 := by simp only [List.length_append, List.length_cons, List.length_nil]; omega); (have hqn : ((m ++ [44]) ++ G).length + 6 * nm.size + 2 ≤ 70368744177664 := by simp only [List.length_append, List.length_cons, List.length_nil]; omega); clear hst1 hst2 hln hplb hqs; have hm1 : m.length + 1 ≤ 1099511627776 := by have := HLN.out; omega
                      go_wp2_with (first
                        | ((with_reducible refine qAm ?_); refine qAU 1 [(0, .int .u8 44)] #[.int .u8 44] ie _ (by rw [hie3]; exact qDI _) rfl 46 5 _ rfl rfl Tryz.underlying46 hie1 hie2 (by rw [hie3]; decide) (by rw [hie3]; decide) ?_; intro w9 hw; have hkb := KB.of (base := base) (qAD hw) hbz; have B9 := (qAC hw).1; replace HO := HO.below (qAD hw); clear hw; (try replace HJ := qAt hkb HJ HOJ.out); (try replace HX := qAt hkb HX HOX.out); (try replace RX := qAp hkb RX hbl); (try replace n1 := qA1 hkb n1 hbl); (try replace B4 := hkb.2 _ _ _ qCa B4); (try replace c4_4 : World.cell? _ ⟨_, 4, none⟩ = some (.slice j.v.LA j.v.Ln j.v.Lc) := B4.cell 4); (try replace c4_5 : World.cell? _ ⟨_, 5, none⟩ = some (.slice j.v.FA j.v.Fn j.v.Fc) := B4.cell 5); (try rw [HA.out] at c4_4); (try rw [HA5.out] at c4_5); (try replace HBW := HBW.trans hkb); replace HB := HB.trans hkb; clear hkb; replace hbz := HB.up hbz0)
                        | (refine qAf rfl (.tmp 86) (.tmp 87) 46 rfl Tryz.underlying46 base _ _ rfl HO _ _ [44] 1 rfl rfl (qAW.cells B9 rfl) (by first | omega | (simp; omega)) hbz ?_; clear B9; intro v10 w10 ho10 hkb; replace HO := ho10; clear ho10; (try replace HJ := qAt hkb HJ HOJ.out); (try replace HX := qAt hkb HX HOX.out); (try replace RX := qAp hkb RX hbl); (try replace n1 := qA1 hkb n1 hbl); (try replace B4 := hkb.2 _ _ _ qCa B4); (try replace c4_4 : World.cell? _ ⟨_, 4, none⟩ = some (.slice j.v.LA j.v.Ln j.v.Lc) := B4.cell 4); (try replace c4_5 : World.cell? _ ⟨_, 5, none⟩ = some (.slice j.v.FA j.v.Fn j.v.Fc) := B4.cell 5); (try rw [HA.out] at c4_4); (try rw [HA5.out] at c4_5); (try replace HBW := HBW.trans hkb); replace HB := HB.trans hkb; clear hkb; replace hbz := HB.up hbz0)
                        | ((with_reducible refine qAR ?_); refine qAX rfl 25 (.tmp 114) rfl _ _ rfl x.cells _ RX Tryz.underlying25 rfl qAA ?_)
                        | (go_at_call 40; (refine (IH.out x base _ _ _ HSZ.out HX HOX.out HO hbz (by rw [← HG.out]; exact HPB.out)).mono ?_); rw [← HG.out]; rintro e w3 ⟨v10, rfl, ho10, hkb⟩; replace HO := ho10; clear ho10; (try replace HJ := qAt hkb HJ HOJ.out); (try replace HX := qAt hkb HX HOX.out); (try replace RX := qAp hkb RX hbl); (try replace n1 := qA1 hkb n1 hbl); (try replace B4 := hkb.2 _ _ _ qCa B4); (try replace c4_4 : World.cell? _ ⟨_, 4, none⟩ = some (.slice j.v.LA j.v.Ln j.v.Lc) := B4.cell 4); (try replace c4_5 : World.cell? _ ⟨_, 5, none⟩ = some (.slice j.v.FA j.v.Fn j.v.Fc) := B4.cell 5); (try rw [HA.out] at c4_4); (try rw [HA5.out] at c4_5); (try replace HBW := HBW.trans hkb); replace HB := HB.trans hkb; clear hkb; replace hbz := HB.up hbz0)
                        | (go_at_call 63; (refine (qEV HO hbz (by exact hqn)).mono ?_); rintro e w2 ⟨v10, rfl, ho10, hkb⟩; replace HO := ho10; clear ho10; (try replace HJ := qAt hkb HJ HOJ.out); (try replace HX := qAt hkb HX HOX.out); (try replace RX := qAp hkb RX hbl); (try replace n1 := qA1 hkb n1 hbl); (try replace B4 := hkb.2 _ _ _ qCa B4); (try replace c4_4 : World.cell? _ ⟨_, 4, none⟩ = some (.slice j.v.LA j.v.Ln j.v.Lc) := B4.cell 4); (try replace c4_5 : World.cell? _ ⟨_, 5, none⟩ = some (.slice j.v.FA j.v.Fn j.v.Fc) := B4.cell 5); (try rw [HA.out] at c4_4); (try rw [HA5.out] at c4_5); (try replace HBW := HBW.trans hkb); replace HB := HB.trans hkb; clear hkb; replace hbz := HB.up hbz0)
                        | ((with_reducible refine qAm ?_); refine qAU 1 [(0, .int .u8 58)] #[.int .u8 58] ie _ (by rw [hie3]; exact qDI _) rfl 46 5 _ rfl rfl Tryz.underlying46 hie1 hie2 (by rw [hie3]; decide) (by rw [hie3]; decide) ?_; intro w9 hw; have hkb := KB.of (base := base) (qAD hw) hbz; have B9 := (qAC hw).1; replace HO := HO.below (qAD hw); clear hw; (try replace HJ := qAt hkb HJ HOJ.out); (try replace HX := qAt hkb HX HOX.out); (try replace RX := qAp hkb RX hbl); (try replace n1 := qA1 hkb n1 hbl); (try replace B4 := hkb.2 _ _ _ qCa B4); (try replace c4_4 : World.cell? _ ⟨_, 4, none⟩ = some (.slice j.v.LA j.v.Ln j.v.Lc) := B4.cell 4); (try replace c4_5 : World.cell? _ ⟨_, 5, none⟩ = some (.slice j.v.FA j.v.Fn j.v.Fc) := B4.cell 5); (try rw [HA.out] at c4_4); (try rw [HA5.out] at c4_5); (try replace HBW := HBW.trans hkb); replace HB := HB.trans hkb; clear hkb; replace hbz := HB.up hbz0)
                        | (refine qAf rfl (.tmp 103) (.tmp 104) 46 rfl Tryz.underlying46 base _ _ rfl HO _ _ [58] 1 rfl rfl (qAW.cells B9 rfl) (by exact hg5) hbz ?_; clear B9; intro v10 w10 ho10 hkb; replace HO := ho10; clear ho10; (try replace HJ := qAt hkb HJ HOJ.out); (try replace HX := qAt hkb HX HOX.out); (try replace RX := qAp hkb RX hbl); (try replace n1 := qA1 hkb n1 hbl); (try replace B4 := hkb.2 _ _ _ qCa B4); (try replace c4_4 : World.cell? _ ⟨_, 4, none⟩ = some (.slice j.v.LA j.v.Ln j.v.Lc) := B4.cell 4); (try replace c4_5 : World.cell? _ ⟨_, 5, none⟩ = some (.slice j.v.FA j.v.Fn j.v.Fc) := B4.cell 5); (try rw [HA.out] at c4_4); (try rw [HA5.out] at c4_5); (try replace HBW := HBW.trans hkb); replace HB := HB.trans hkb; clear hkb; replace hbz := HB.up hbz0)
                        | (refine qAq rfl (.tmp 89) (.tmp 90) 46 9 rfl Tryz.underlying46 Tryz.underlying9 base _ _ rfl HO g rfl (by rw [HGL.out, ← HG.out]; exact Nat.le_trans hg1 (by decide)) hbz ?_; intro v10 w10 ho10 hkb; rw [← HG.out] at ho10; replace HO := ho10; clear ho10; (try replace HJ := qAt hkb HJ HOJ.out); (try replace HX := qAt hkb HX HOX.out); (try replace RX := qAp hkb RX hbl); (try replace n1 := qA1 hkb n1 hbl); (try replace B4 := hkb.2 _ _ _ qCa B4); (try replace c4_4 : World.cell? _ ⟨_, 4, none⟩ = some (.slice j.v.LA j.v.Ln j.v.Lc) := B4.cell 4); (try replace c4_5 : World.cell? _ ⟨_, 5, none⟩ = some (.slice j.v.FA j.v.Fn j.v.Fc) := B4.cell 5); (try rw [HA.out] at c4_4); (try rw [HA5.out] at c4_5); (try replace HBW := HBW.trans hkb); replace HB := HB.trans hkb; clear hkb; replace hbz := HB.up hbz0)
                        | (refine qAq rfl (.tmp 100) (.tmp 101) 46 9 rfl Tryz.underlying46 Tryz.underlying9 base _ _ rfl HO g rfl (by rw [HGL.out, ← HG.out]; exact Nat.le_trans hg3 (by decide)) hbz ?_; intro v10 w10 ho10 hkb; rw [← HG.out] at ho10; replace HO := ho10; clear ho10; (try replace HJ := qAt hkb HJ HOJ.out); (try replace HX := qAt hkb HX HOX.out); (try replace RX := qAp hkb RX hbl); (try replace n1 := qA1 hkb n1 hbl); (try replace B4 := hkb.2 _ _ _ qCa B4); (try replace c4_4 : World.cell? _ ⟨_, 4, none⟩ = some (.slice j.v.LA j.v.Ln j.v.Lc) := B4.cell 4); (try replace c4_5 : World.cell? _ ⟨_, 5, none⟩ = some (.slice j.v.FA j.v.Fn j.v.Fc) := B4.cell 5); (try rw [HA.out] at c4_4); (try rw [HA5.out] at c4_5); (try replace HBW := HBW.trans hkb); replace HB := HB.trans hkb; clear hkb; replace hbz := HB.up hbz0)
                        | (refine qAq rfl (.tmp 106) (.tmp 107) 46 9 rfl Tryz.underlying46 Tryz.underlying9 base _ _ rfl HO g rfl (by rw [HGL.out, ← HG.out]; exact Nat.le_trans hg4 (by decide)) hbz ?_; intro v10 w10 ho10 hkb; rw [← HG.out] at ho10; replace HO := ho10; clear ho10; (try replace HJ := qAt hkb HJ HOJ.out); (try replace HX := qAt hkb HX HOX.out); (try replace RX := qAp hkb RX hbl); (try replace n1 := qA1 hkb n1 hbl); (try replace B4 := hkb.2 _ _ _ qCa B4); (try replace c4_4 : World.cell? _ ⟨_, 4, none⟩ = some (.slice j.v.LA j.v.Ln j.v.Lc) := B4.cell 4); (try replace c4_5 : World.cell? _ ⟨_, 5, none⟩ = some (.slice j.v.FA j.v.Fn j.v.Fc) := B4.cell 5); (try rw [HA.out] at c4_4); (try rw [HA5.out] at c4_5); (try replace HBW := HBW.trans hkb); replace HB := HB.trans hkb; clear hkb; replace hbz := HB.up hbz0)
                        | (refine qAq rfl (.tmp 118) (.tmp 119) 46 9 rfl Tryz.underlying46 Tryz.underlying9 base _ _ rfl HO g rfl (by rw [HGL.out, ← HG.out]; exact Nat.le_trans hg2 (by decide)) hbz ?_; intro v10 w10 ho10 hkb; rw [← HG.out] at ho10; replace HO := ho10; clear ho10; (try replace HJ := qAt hkb HJ HOJ.out); (try replace HX := qAt hkb HX HOX.out); (try replace RX := qAp hkb RX hbl); (try replace n1 := qA1 hkb n1 hbl); (try replace B4 := hkb.2 _ _ _ qCa B4); (try replace c4_4 : World.cell? _ ⟨_, 4, none⟩ = some (.slice j.v.LA j.v.Ln j.v.Lc) := B4.cell 4); (try replace c4_5 : World.cell? _ ⟨_, 5, none⟩ = some (.slice j.v.FA j.v.Fn j.v.Fc) := B4.cell 5); (try rw [HA.out] at c4_4); (try rw [HA5.out] at c4_5); (try replace HBW := HBW.trans hkb); replace HB := HB.trans hkb; clear hkb; replace hbz := HB.up hbz0))
                      go_roundw
                      case rel => exact ⟨q + 1, _, _, rfl, by go_num, by omega, HO, HS2, HLN2, HBW⟩
                      case measure => simp [intOf]; omega
                  · (obtain rfl : q = j.v.Fn := by omega); clear hq hlt; have HLQ : Hid (plX G (er j) l = m ++ [125]) := Lib.hid (by rw [HK.out, HS1.out]; rw [List.drop_eq_nil_of_le (by rw [LN.out]; exact Nat.le_of_eq LV.out.symm), qEs]); have hml : m.length + 1 ≤ 1099511627776 := by have := HLN.out; omega
                    go_wp2_with (first
                      | ((with_reducible refine qAm ?_); refine qAU 1 [(0, .int .u8 125)] #[.int .u8 125] ie _ (by rw [hie3]; exact qDI _) rfl 46 5 _ rfl rfl Tryz.underlying46 hie1 hie2 (by rw [hie3]; decide) (by rw [hie3]; decide) ?_; intro w9 hw; have hkb := KB.of (base := base) (qAD hw) hbz; have B9 := (qAC hw).1; replace HO := HO.below (qAD hw); clear hw; (try replace HJ := qAt hkb HJ HOJ.out); (try replace HX := qAt hkb HX HOX.out); (try replace RX := qAp hkb RX hbl); (try replace n1 := qA1 hkb n1 hbl); (try replace B4 := hkb.2 _ _ _ qCa B4); (try replace c4_4 : World.cell? _ ⟨_, 4, none⟩ = some (.slice j.v.LA j.v.Ln j.v.Lc) := B4.cell 4); (try replace c4_5 : World.cell? _ ⟨_, 5, none⟩ = some (.slice j.v.FA j.v.Fn j.v.Fc) := B4.cell 5); (try rw [HA.out] at c4_4); (try rw [HA5.out] at c4_5); (try replace HBW := HBW.trans hkb); replace HB := HB.trans hkb; clear hkb; replace hbz := HB.up hbz0)
                      | (refine qAf rfl (.tmp 121) (.tmp 122) 46 rfl Tryz.underlying46 base _ _ rfl HO _ _ [125] 1 rfl rfl (qAW.cells B9 rfl) (by first | omega | (simp; omega)) hbz ?_; clear B9; intro v10 w10 ho10 hkb; replace HO := ho10; clear ho10; (try replace HJ := qAt hkb HJ HOJ.out); (try replace HX := qAt hkb HX HOX.out); (try replace RX := qAp hkb RX hbl); (try replace n1 := qA1 hkb n1 hbl); (try replace B4 := hkb.2 _ _ _ qCa B4); (try replace c4_4 : World.cell? _ ⟨_, 4, none⟩ = some (.slice j.v.LA j.v.Ln j.v.Lc) := B4.cell 4); (try replace c4_5 : World.cell? _ ⟨_, 5, none⟩ = some (.slice j.v.FA j.v.Fn j.v.Fc) := B4.cell 5); (try rw [HA.out] at c4_4); (try rw [HA5.out] at c4_5); (try replace HBW := HBW.trans hkb); replace HB := HB.trans hkb; clear hkb; replace hbz := HB.up hbz0))
                    go_ret; exact qJO.of HO HLQ.out HB
theorem qLF {j : JV} {base : Nat} {v : Value} {l : List UInt8} {g : ByteArray} {w : World} (hj : qAi w j) (ho : Off (fun q => base ≤ q) j) (hO : qCg w base v l) (hb : base ≤ w.heap.size) (hl : l.length + (pr g.data.toList (er j)).length ≤ qCA) :
    Calls Tryz.prog 40 #[v, .agg j.cells, .string g] w (qJO base (plX g.data.toList (er j) l) w) := qP3 _ g j base v l w (Nat.lt_succ_self _) hj ho hO hb hl
end
end Go.Proofs.YtnjhmnolngdfaaaGreatDoor
namespace Go.Proofs.YtnjhmnolngdfaaaGreatDoor
section
open Go.RowKit Go.PlainAid
def KW (B b : Nat) (w w' : World) : Prop := Below B w w' ∧ ∀ (g : Nat) (T : TypeId) (arr : Array Value), T ≠ 5 → g ≠ b → qAW w g T arr → qAW w' g T arr
theorem KW.trans {B b : Nat} {x y z : World} (h : KW B b x y) (k : KW B b y z) : KW B b x z := ⟨h.1.trans k.1, fun g T arr hT hg hI => k.2 g T arr hT hg (h.2 g T arr hT hg hI)⟩
theorem KW.of {B b : Nat} {w w' : World} (h : Below w.heap.size w w') (hB : B ≤ w.heap.size) : KW B b w w' := ⟨h.mono hB, fun g T arr _ _ hI => qAW.below hI h hI.lt⟩
theorem KW.refl {B b : Nat} {w : World} (hB : B ≤ w.heap.size) : KW B b w w := KW.of (Below.refl _ _) hB
theorem KW.up {B b : Nat} {w w' : World} (h : KW B b w w') {n : Nat} (hn : n ≤ w.heap.size) : n ≤ w'.heap.size := Nat.le_trans hn h.1.size
theorem KW.set {B b : Nat} (w : World) (hb : B ≤ b) (j : Nat) (v : Value) : KW B b w (w.setCell ⟨b, j, none⟩ v) :=
  ⟨(Below.refl B w).setCell (p := ⟨b, j, none⟩) hb v, fun g T arr _ hg hI => (Below.heap_setCell w ⟨b, j, none⟩ v g (fun e => hg e)).trans hI⟩
theorem KW.grown {B b : Nat} {w w' : World} {v : Value} {n : Nat} {xs : List Value} (hO : w.ownsRowF B 5 1 v n xs) (h : w.grownBy w' v.ownBlock) (hB : B ≤ w.heap.size) : KW B b w w' := by
  refine ⟨(Below.refl B w).grown h hB fun k hk => (hO.lt k hk).1, fun g T arr hT _ hI => ?_⟩; refine (h.block g hI.lt fun e => ?_).trans hI; rcases hO.2 with ⟨rfl, _⟩ | ⟨g2, cap, cur, fz, rfl, _, hg, _⟩
  · cases e
  · have e2 : g = g2 := Option.some.inj e; subst e2; have h4 : w.heap[g]? = some (.cells arr T (0, 0)) := hI; rw [h4] at hg; cases hg; exact hT rfl
theorem qLB {B b : Nat} {bs : List Value} {w : World} (h : IsB B b bs w) (hB : B ≤ w.heap.size) : Calls Tryz.prog 87 #[At b] w fun e w' => e = .returned (.tuple #[]) ∧ BAt B b bs w' ∧ KW B b w w' := by
  rcases h with h | h
  · refine (qEl h.cell0 h.shape h.frozen0).mono ?_; rintro e w' ⟨rfl, rfl⟩; exact ⟨rfl, h.used _, KW.set w h.1 0 _⟩
  · refine (qFL h.cell0).mono ?_; rintro e w' ⟨rfl, rfl⟩; exact ⟨rfl, h, KW.refl hB⟩
theorem qHG {B b : Nat} {bs : List Value} {w : World} (h : BAt B b bs w) : ∃ ao cap, B ≤ b ∧ w.heap[b]? = some (.cells #[At b, .slice ao bs.length cap] 76 (0, 0)) ∧ w.ownsRowF B 5 1 (.slice ao bs.length cap) bs.length bs ∧ (Value.slice ao bs.length cap).ownBlock ≠ some b := by
  obtain ⟨hBb, v, hbk, hown, hne⟩ := h; rcases hown.2 with ⟨hv, h0⟩ | ⟨g, cap, cur, fz, hv, _⟩
  · subst hv; rw [h0] at *; exact ⟨none, 0, hBb, hbk, hown, hne⟩
  · subst hv; exact ⟨_, _, hBb, hbk, hown, hne⟩
theorem qHK {w : World} {B : Nat} {v : Value} {n : Nat} {xs : List Value} (h : w.ownsRowF B 5 1 v n xs) : ∃ g cap, v = .slice g n cap := by
  rcases h.2 with ⟨hv, h0⟩ | ⟨g, cap, cur, fz, hv, _⟩
  · exact ⟨none, 0, by rw [hv, h0]⟩
  · exact ⟨_, _, hv⟩
theorem qHp {w : World} {g : Nat} {t : TypeId} {v : Value} (h : qAW w g t #[v]) {j : Nat} {u : Value} (hu : [v][j]? = some u) : w.cell? ((⟨g, 0, none⟩ : Addr).add j) = some u := by
  (have hadd : (⟨g, 0, none⟩ : Addr).add j = ⟨g, j, none⟩ := by unfold Addr.add; split <;> simp_all); rw [hadd, qAW.cell h]
  simpa using hu
theorem qMK {ops : Array Oper} {rest : List Oper} {o : Oper} {a : Act} {w : World} {Q : Exit → Act → World → Prop} (hgd : o.guard = none) (s x : Operand) (t : TypeId) (ho : o.op = .call { callee := .builtin .append, args := #[s, x], argTypes := #[t, t] }) (ht : Tryz.prog.underlying t = some (.slice 5))
    (B : Nat) (v : Value) (n : Nat) (xs : List Value) (hs : a.eval s = v) (hown : w.ownsRowF B 5 1 v n xs) (g c : Nat) (p : Value) (ty : TypeId) (hx : a.eval x = .slice (some ⟨g, 0, none⟩) 1 c) (IB : qAW w g ty #[p]) (h1 : p.oneCell' = true) (hn : n + 1 ≤ 140737488355328) (hB : B ≤ w.heap.size)
    (h : ∀ v' w', w'.ownsRowF B 5 1 v' (n + 1) (xs ++ [p]) → w.grownBy w' v.ownBlock → wpList Tryz.prog ops Q rest (a.put o.dst v') w') : wpList Tryz.prog ops Q (o :: rest) a w := by
  obtain ⟨ie, hie1, hie2, hie3, hie4⟩ := qC2; refine Go.wpList_append_ownF w hgd s x t ho B 5 ie _ 1 1 ht hie1 hie2 hie3 hie4 rfl (by decide) v n xs hs hown ⟨g, 0, none⟩ 1 c [p] hx rfl (fun j u hu => qHp IB hu) (fun u hu => by rw [List.mem_singleton.1 hu]; exact h1) (by unfold maxLen; omega) (by omega) hB ?_; intro v' w' h2 h3 _; exact h v' w' h2 h3
def qCF : Nat := 70368744177664
theorem qND : ∃ ie, Tryz.prog.info? 5 = some ie ∧ ie.zero = some (.int .u8 0) ∧ ie.size = 1 ∧ ie.bytes = 1 := qC2
theorem qA3 {B b : Nat} {acc : List UInt8} {c : UInt8} {n : Int} {w : World} (hn : n = (c.toNat : Int)) (h : IsB B b (Lib.byteCells acc) w) (hlen : acc.length + 1 ≤ qCF) (hB : B ≤ w.heap.size) :
    Calls Tryz.prog 70 #[At b, .int .u8 n] w fun e w' => e = .returned .nilIface ∧ IsB B b (Lib.byteCells (acc ++ [c])) w' ∧ KW B b w w' := by
  obtain ⟨ie, hie1, hie2, hie3, hie4⟩ := qND; have hL : (Lib.byteCells acc).length = acc.length := Lib.byteCells_length acc; unfold qCF at hlen; have HN := Lib.hid hn; clear hn; go_enter Tryz.func70, Tryz.ntmps70
  go_wp2_with (first
    | (go_at_call 87; (with_reducible refine (qLB h hB).mono ?_); rintro e w1 ⟨rfl, h1, hb1⟩; obtain ⟨ao, cap, hBb, hbk, hown, hne⟩ := qHG h1; rw [hL] at hbk hown hne; have hB1 := hb1.up hB; have c1 : w1.cell? ⟨b, 1, none⟩ = some (.slice ao acc.length cap) := (by rw [Lib.cell_of_heap hbk]; rfl))
    | ((with_reducible refine qAm ?_); refine qAU 1 [(0, .int .u8 n)] #[.int .u8 n] ie _ (by rw [hie3]; exact qDI _) rfl 46 5 _ rfl rfl Tryz.underlying46 hie1 hie2 (by rw [hie3]; decide) (by rw [hie3]; decide) ?_; intro w2 hw; have B9 := (qAC hw).1; have hb2 := qAD hw; have hk2 := KW.of (b := b) hb2 hB1; have hB2 := hk2.up hB1; have hlt : b < w1.heap.size := (Array.getElem?_eq_some_iff.1 hbk).1; have hbk2 : w2.heap[b]? = some (.cells #[At b, .slice ao acc.length cap] 76 (0, 0)) := (hb2.block b hlt).trans hbk; have hown2 : w2.ownsRowF B 5 1 (.slice ao acc.length cap) acc.length (Lib.byteCells acc) := hown.kept (row := none) ⟨hb2.os, hb2.tape, hb2.output, hb2.size, fun k hk _ => hb2.block k hk⟩ (by cases hv : (Value.slice ao acc.length cap).ownBlock <;> simp); clear hw hb2 c1)
    | (refine qMK rfl (.tmp 11) (.tmp 13) 46 rfl Tryz.underlying46 B _ acc.length _ rfl hown2 _ _ (.int .u8 n) _ rfl B9 rfl (by omega) hB2 ?_; intro v3 w3 hown3 hgrow3; have hk3 := KW.grown (b := b) hown2 hgrow3 hB2; have hbk3 : w3.heap[b]? = some (.cells #[At b, .slice ao acc.length cap] 76 (0, 0)) := (hgrow3.block b (Array.getElem?_eq_some_iff.1 hbk2).1 (fun e => hne e.symm)).trans hbk2; obtain ⟨g3, cap3, rfl⟩ := qHK hown3; have HO3 := Lib.hid hown3; have HG := Lib.hid hgrow3; clear hown3 hgrow3 B9; have d1 : w3.cell? ⟨b, 1, none⟩ = some (.slice ao acc.length cap) := (by rw [Lib.cell_of_heap hbk3]; rfl); have f1 : w3.frozen? ⟨b, 1, none⟩ = false := Lib.frozen_of_heap hbk3 1))
  go_ret; refine ⟨rfl, Or.inr ?_, ((hb1.trans hk2).trans hk3).trans (KW.set w3 hBb 1 _)⟩; refine Lib.BuilderAtF.put (T := 76) (e := 5) hBb hbk3 (bs' := Lib.byteCells (acc ++ [c])) ?_ (by decide); have h3 := HO3.out; rw [HN.out] at h3; rw [Lib.byteCells_length, List.length_append, Lib.byteCells_append]; exact h3
theorem qCY {B b : Nat} {acc : List UInt8} {s : ByteArray} {w : World} (h : IsB B b (Lib.byteCells acc) w) (hlen : acc.length + s.size ≤ qCF) (hB : B ≤ w.heap.size) :
    Calls Tryz.prog 66 #[At b, .string s] w fun e w' => e = .returned (.tuple #[.int .i64 s.size, .nilIface]) ∧ IsB B b (Lib.byteCells (acc ++ s.data.toList)) w' ∧ KW B b w w' := by
  obtain ⟨ie, hie1, hie2, hie3, hie4⟩ := qND; have hL : (Lib.byteCells acc).length = acc.length := Lib.byteCells_length acc; unfold qCF at hlen; go_enter Tryz.func66, Tryz.ntmps66
  go_wp2_with (first
    | (go_at_call 87; (with_reducible refine (qLB h hB).mono ?_); rintro e w1 ⟨rfl, h1, hb1⟩; obtain ⟨ao, cap, hBb, hbk, hown, hne⟩ := qHG h1; rw [hL] at hbk hown hne; have hB1 := hb1.up hB; have c1 : w1.cell? ⟨b, 1, none⟩ = some (.slice ao acc.length cap) := (by rw [Lib.cell_of_heap hbk]; rfl))
    | (refine Go.Lib.wpList_append_own_stringF _ rfl (.tmp 12) (.tmp 13) 46 9 rfl B 5 ie Tryz.underlying46 Tryz.underlying9 hie1 hie2 hie3 hie4 _ acc.length _ rfl hown s rfl (by unfold maxLen; omega) (by omega) hB1 ?_; intro v3 w3 hown3 hgrow3 _; have hk3 := KW.grown (b := b) hown hgrow3 hB1; have hbk3 : w3.heap[b]? = some (.cells #[At b, .slice ao acc.length cap] 76 (0, 0)) := (hgrow3.block b (Array.getElem?_eq_some_iff.1 hbk).1 (fun e => hne e.symm)).trans hbk; obtain ⟨g3, cap3, rfl⟩ := qHK hown3; have HO3 := Lib.hid hown3; have HG := Lib.hid hgrow3; clear hown3 hgrow3 c1; have d1 : w3.cell? ⟨b, 1, none⟩ = some (.slice ao acc.length cap) := (by rw [Lib.cell_of_heap hbk3]; rfl); have f1 : w3.frozen? ⟨b, 1, none⟩ = false := Lib.frozen_of_heap hbk3 1))
  go_ret2; refine ⟨rfl, Or.inr ?_, (hb1.trans hk3).trans (KW.set w3 hBb 1 _)⟩; refine Lib.BuilderAtF.put (T := 76) (e := 5) hBb hbk3 (bs' := Lib.byteCells (acc ++ s.data.toList)) ?_ (by decide); have h3 := HO3.out; rw [Lib.byteCells_length, List.length_append, Lib.byteCells_append, show s.data.toList.length = s.size by simp]; exact h3
end
end Go.Proofs.YtnjhmnolngdfaaaGreatDoor
namespace Go.Proofs.YtnjhmnolngdfaaaGreatDoor
section
open Go.RowKit Go.PlainAid
abbrev qF1 (w : World) : Prop := w.cell? ⟨7, 15, none⟩ = some (.int .u8 4)
theorem qQV {w : World} (h : qF1 w) : Calls Tryz.prog 148 #[.int .u64 16] w fun e w' => e = .returned (.int .i64 4) ∧ w = w' := by
  (have key : IntKind.u64.wrap (bits BinOp.and IntKind.u64 16 (IntKind.u64.wrap (-16)) * 285870213051353865) / 288230376151711744 = 15 := by kernel_rfl); go_enter Tryz.func148, Tryz.ntmps148; go_wp2; go_ret; exact ⟨rfl, rfl⟩
theorem qPR {w : World} (h : qF1 w) : Calls Tryz.prog 136 #[.int .u64 16] w fun e w' => e = .returned (.int .i64 4) ∧ w = w' := by
  go_enter Tryz.func136, Tryz.ntmps136
  go_wp2_with (first
    | (go_at_call 148; (with_reducible refine (qQV h).mono ?_); rintro e w2 ⟨rfl, rfl⟩))
  go_ret; exact ⟨rfl, rfl⟩
theorem qOW {w : World} : Calls Tryz.prog 135 #[.int .i64 16] w fun e w' => e = .returned (.bool true) ∧ w = w' := by
  go_enter Tryz.func135, Tryz.ntmps135; go_wp2; go_ret; exact ⟨rfl, rfl⟩
theorem qIQ {ops : Array Oper} {rest : List Oper} {o : Oper} {a : Act} {w : World} {Q : Exit → Act → World → Prop} (hgd : o.guard = none) (x : Operand) (t u : TypeId) (ho : o.op = .convert t u x) (ht : Tryz.prog.underlying t = some (.slice 5)) (hu : Tryz.prog.underlying u = some .string)
    (g off c : Nat) (l : List UInt8) (hx : a.eval x = .slice (some ⟨g, off, none⟩) l.length c) (hc : ∀ (j : Nat) (hj : j < l.length), w.cell? ⟨g, off + j, none⟩ = some (.int .u8 (l[j].toNat : Int)))
    (h : wpList Tryz.prog ops Q rest (a.put o.dst (.string ⟨l.toArray⟩)) w) : wpList Tryz.prog ops Q (o :: rest) a w := by
  have hrun : (convert t u (.slice (some ⟨g, off, none⟩) l.length c)).run Tryz.prog w = .ok (.string ⟨l.toArray⟩) w := by
    (refine run_convert_bytes_back w t u 5 ⟨g, off, none⟩ c l ht Tryz.underlying5 hu fun j hj => ?_); (have hadd : (⟨g, off, none⟩ : Addr).add j = ⟨g, off + j, none⟩ := by unfold Addr.add; split <;> simp_all); rw [hadd]; exact hc j hj
  (refine wpList_plain hgd fun _ hK => ?_); unfold Oper.wp execOp; simp only [ho, hx, Sem.run_bind, hrun, Result.andThen_ok, Sem.run_pure]; exact hK _ _ h
def D36 : ByteArray := ⟨#[48, 49, 50, 51, 52, 53, 54, 55, 56, 57, 97, 98, 99, 100, 101, 102, 103, 104, 105, 106, 107, 108, 109, 110, 111, 112, 113, 114, 115, 116, 117, 118, 119, 120, 121, 122]⟩
theorem qOu : ∀ d : Nat, d < 16 → bt D36 d = ((hx d).toNat : Int) := by decide
theorem qPr {d : Nat} (hd : d < 16) (h : d < D36.size) : Value.int .u8 ((D36[d]'h).toNat : Int) = .int .u8 ((hx d).toNat : Int) := by rw [get_bt D36 d h, qOu d hd]
def qNC : Array Value := Array.replicate 65 (.int .u8 0)
theorem qNh (w : World) : (zeroValue 167).run Tryz.prog w = .ok (.agg qNC) w := by kernel_rfl
theorem qOF {w : World} (h : qF1 w) {d : Nat} (hd : d < 16) : Calls Tryz.prog 110 #[.slice none 0 0, .int .u64 d, .int .i64 16, .bool false, .bool false] w fun e w' => e = .returned (.tuple #[.slice none 0 0, .string ⟨#[hx d]⟩]) ∧ Below w.heap.size w w' := by
 have HB := Below.refl w.heap.size w; (have hd1 : ¬ ((d : Nat) : Int) ≥ 16 := by omega); (have hd2 : ((d : Nat) : Int) < 16 := by omega); have hbs := get_bt D36; go_enter Tryz.func110, Tryz.ntmps110
 go_wp2_with (first
  | ((with_reducible refine qAG ?_); refine qAE rfl 167 rfl _ qNh ?_; intro w1 hw; have hb := qAD hw; have B12 := qAI hw; replace h := qAB hb h; replace HB := zT HB hb; clear hb hw)
  | (go_at_call 135; (with_reducible refine qOW.mono ?_); rintro e w2 ⟨rfl, rfl⟩)
  | (go_at_call 136; (with_reducible refine (qPR h).mono ?_); rintro e w2 ⟨rfl, rfl⟩))
 go_loopw [1, 13] (fun uv iv wr => uv = .int .u64 d ∧ iv = .int .i64 65 ∧ w1 = wr) (fun _ _ _ => 0)
 case atStart => exact ⟨rfl, rfl, rfl⟩
 case round =>
  obtain ⟨rfl, rfl, rfl⟩ := hrel
  go_wp2_with (first
   | ((with_reducible refine qAF ?_); refine qAs rfl 5 (.tmp 63) (.tmp 62) rfl w.heap.size 64 rfl (.int .u8 ((hx d).toNat : Int)) (qPr hd (by show d < 36; omega)) _ qNC B12 (by decide) (by kernel_rfl) rfl ?_; intro w5 hw; have B13 := qAQ hw B12; have hb5 := (qAN hw (Nat.le_refl _) HB).1; have c64 : w5.cell? ⟨w.heap.size, 64, none⟩ = some (.int .u8 ((hx d).toNat : Int)) := (B13.cell 64); clear hw B12)
   | ((with_reducible refine qCQ ?_); refine qIQ rfl (.tmp 100) 46 9 rfl Tryz.underlying46 Tryz.underlying9 w.heap.size 64 1 [hx d] rfl (fun j hj => by (obtain rfl : j = 0 := by simp at hj; exact hj); exact c64) ?_))
  go_ret2; exact ⟨rfl, hb5⟩
end
end Go.Proofs.YtnjhmnolngdfaaaGreatDoor
namespace Go.Proofs.YtnjhmnolngdfaaaGreatDoor
section
open Go.RowKit Go.PlainAid
theorem qPj {w : World} (h : qF1 w) {d : Nat} (hd : d < 16) : Calls Tryz.prog 89 #[.int .i64 d, .int .i64 16] w fun e w' => e = .returned (.string ⟨#[hx d]⟩) ∧ Below w.heap.size w w' := by
  (have hd0 : ¬ ((d : Nat) : Int) < 0 := by omega); (have hd1 : IntKind.u64.wrap ((d : Nat) : Int) = (d : Nat) := by rw [IntKind.wrap_u64]; omega); go_enter Tryz.func89, Tryz.ntmps89
  go_wp2_with (first
    | (go_at_call 110; (with_reducible refine (qOF h hd).mono ?_); rintro e w2 ⟨rfl, hb⟩))
  go_ret; exact ⟨rfl, hb⟩
theorem qOA {w : World} (h : qF1 w) {d : Nat} (hd : d < 16) : Calls Tryz.prog 68 #[.int .i64 d, .int .i64 16] w fun e w' => e = .returned (.string ⟨#[hx d]⟩) ∧ Below w.heap.size w w' := by
  go_enter Tryz.func68, Tryz.ntmps68
  go_wp2_with (first
    | (go_at_call 89; (with_reducible refine (qPj h hd).mono ?_); rintro e w2 ⟨rfl, hb⟩))
  go_ret; exact ⟨rfl, hb⟩
theorem qOS : ∀ n : Nat, n < 256 → bits BinOp.and IntKind.u8 (n : Int) 15 = ((n % 16 : Nat) : Int) := by decide +kernel
theorem qQG {q : Nat} (h : q < 2) : Lib.decDigits q = [hx q] := by
  rcases (show q = 0 ∨ q = 1 by omega) with rfl | rfl <;> decide +kernel
theorem IsB.low {B b : Nat} {acc : List UInt8} {w w' : World} (h : IsB B b (Lib.byteCells acc) w) (hb : Below w.heap.size w w') : IsB B b (Lib.byteCells acc) w' := by
  have key : ∀ p, Lib.BuilderAtF 76 5 B b p (Lib.byteCells acc) w → Lib.BuilderAtF 76 5 B b p (Lib.byteCells acc) w' := by
    intro p ⟨h1, v, h2, h3, h4⟩; refine ⟨h1, v, (hb.block b (Array.getElem?_eq_some_iff.1 h2).1).trans h2, ?_, h4⟩; exact h3.kept (row := none) ⟨hb.os, hb.tape, hb.output, hb.size, fun k hk _ => hb.block k hk⟩ (by cases hv : v.ownBlock <;> simp)
  exact h.imp (key _) (key _)
def TlV (B b : Nat) (l : List UInt8) (w : World) (e : Ending) (w' : World) : Prop := e = .returned (.tuple #[]) ∧ IsB B b (Lib.byteCells l) w' ∧ KW B b w w'
theorem qLK {s : ByteArray} {k : Nat} (h : k < s.size) : qFv (s.data.toList.take (k + 1)) = qFv (s.data.toList.take k) ++ qb s[k] := qHJ s k h
theorem qFF {B b : Nat} {acc : List UInt8} {s : ByteArray} {w : World} (h : IsB B b (Lib.byteCells acc) w) (hlen : acc.length + 6 * s.size + 2 ≤ qCF) (hB : B ≤ w.heap.size) (hT : qF1 w) (hg : 7 < B) :
    Calls Tryz.prog 69 #[At b, .string s] w (TlV B b (acc ++ quo s) w) := by
  have hbs := get_bt s; have HI := h; have hbz := hB; have HK := KW.refl (b := b) hB; have HL := Lib.hid hlen; have HLN := Lib.hid (show acc.length + 1 ≤ qCF by unfold qCF at *; omega); clear hlen; go_enter Tryz.func69, Tryz.ntmps69
  go_wp2_with (first
    | (go_at_call 70; (refine (qA3 (c := 34) rfl HI (by first | exact HLN.out | (simp; omega)) hbz).mono ?_); rintro e w3 ⟨rfl, hi3, hk3⟩; replace HI := hi3; replace HK := HK.trans hk3; replace hbz := hk3.up hbz; clear hi3 hk3))
  clear HLN
  go_loopw [10] (fun iv wr => ∃ (k : Nat) (l1 : List UInt8), iv = .int .i64 k ∧ k ≤ s.size ∧ IsB B b (Lib.byteCells l1) wr ∧ Hid (l1 = acc ++ 34 :: qFv (s.data.toList.take k)) ∧ KW B b w wr) (fun iv _ => s.size - (intOf iv).toNat)
  case atStart => exact ⟨0, acc ++ [34], rfl, Nat.zero_le _, HI, Lib.hid (by simp [qFv]), HK⟩
  case round =>
    clear HI HK hbz; obtain ⟨k, l1, rfl, hk, HI, HL1, HK⟩ := hrel; have hbz := HK.up hB
    have hl1 : l1.length ≤ acc.length + 1 + 6 * k := by
      rw [HL1.out, List.length_append, List.length_cons]; have := qGe (s.data.toList.take k); rw [List.length_take] at this; omega
    have hTr : qF1 wr := by
      show wr.cell? _ = _; rw [World.cell?_of_block (HK.1.block _ hg)]; exact hT
    by_cases hlt : k < s.size
    · (have hlt' : (k : Int) < (s.size : Int) := by omega); (have hk0 : ¬ (k : Int) < 0 := by omega); have b0 := bt_nonneg s k; have b1 := bt_le s k; have hqt := qLK hlt; obtain ⟨c, hc⟩ : ∃ c, c = s[k] := ⟨_, rfl⟩; (have hcb : bt s k = (c.toNat : Int) := by rw [hc, ← get_bt s k hlt]); rw [← hc] at hqt; have HC := Lib.hid hcb; (have hll : l1.length + 6 ≤ qCF := by have := HL.out; unfold qCF at *; omega); have HLL := Lib.hid hll; have HLN := Lib.hid (show l1.length + 1 ≤ qCF by omega); have HQ : Hid (l1 ++ qb c = acc ++ 34 :: qFv (s.data.toList.take (k + 1))) := Lib.hid (by rw [hqt, HL1.out]; simp); have HLT := Lib.hid hlt; have HW : Hid (wrap64 ((k : Nat) : Int) = (k : Int) ∧ wrap64 ((k : Int) + 1) = ((k + 1 : Nat) : Int)) := Lib.hid (by have := HL.out; unfold qCF at this; unfold wrap64; omega); clear hqt hc hll
      by_cases h1 : bt s k = 34 ∨ bt s k = 92
      · have HQB : Hid (qb c = [92, c]) := Lib.hid (by unfold qb; rw [if_pos (by omega)]); rcases h1 with h1 | h1
        · (have q34 : (bt s k == 34) = true := by rw [h1]; rfl); (have q92 : (bt s k == 92) = false := by rw [h1]; rfl); clear h1 hcb; have HONE := Lib.hid True.intro
          go_wp2_with (first
            | (go_at_call 70; (have hone := HONE.out; clear HONE); (refine (qA3 (c := 92) rfl HI (by first | exact HLN.out | (have := HLL.out; unfold qCF at *; simp; omega)) hbz).mono ?_); rintro e w3 ⟨rfl, hi3, hk3⟩; replace HI := hi3; replace HK := HK.trans hk3; replace hbz := hk3.up hbz; clear hi3 hk3)
            | (go_at_call 70; (refine (qA3 (c := c) HC.out HI (by first | exact HLN.out | (have := HLL.out; unfold qCF at *; simp; omega)) hbz).mono ?_); rintro e w3 ⟨rfl, hi3, hk3⟩; replace HI := hi3; replace HK := HK.trans hk3; replace hbz := hk3.up hbz; clear hi3 hk3))
          go_roundw
          case rel => exact ⟨k + 1, _, by first | go_num | rw [HW.out.2], by (have := HLT.out; omega), HI, Lib.hid (by rw [← HQ.out, HQB.out]; simp), HK⟩
          case measure =>
            have := HLT.out; (try rw [HW.out.2]); simp [intOf]; omega
        · (have q34 : (bt s k == 34) = false := by rw [h1]; rfl); (have q92 : (bt s k == 92) = true := by rw [h1]; rfl); clear h1 hcb; have HONE := Lib.hid True.intro
          go_wp2_with (first
            | (go_at_call 70; (have hone := HONE.out; clear HONE); (refine (qA3 (c := 92) rfl HI (by first | exact HLN.out | (have := HLL.out; unfold qCF at *; simp; omega)) hbz).mono ?_); rintro e w3 ⟨rfl, hi3, hk3⟩; replace HI := hi3; replace HK := HK.trans hk3; replace hbz := hk3.up hbz; clear hi3 hk3)
            | (go_at_call 70; (refine (qA3 (c := c) HC.out HI (by first | exact HLN.out | (have := HLL.out; unfold qCF at *; simp; omega)) hbz).mono ?_); rintro e w3 ⟨rfl, hi3, hk3⟩; replace HI := hi3; replace HK := HK.trans hk3; replace hbz := hk3.up hbz; clear hi3 hk3))
          go_roundw
          case rel => exact ⟨k + 1, _, by first | go_num | rw [HW.out.2], by (have := HLT.out; omega), HI, Lib.hid (by rw [← HQ.out, HQB.out]; simp), HK⟩
          case measure =>
            have := HLT.out; (try rw [HW.out.2]); simp [intOf]; omega
      · (have q34 : (bt s k == 34) = false := by simp; omega); have q92 : (bt s k == 92) = false := by simp; omega
        by_cases h8 : bt s k = 8
        · have HQB : Hid (qb c = [92, 98]) := Lib.hid (by unfold qb; rw [if_neg (by omega)]; simp [show c.toNat = 8 by omega]); clear hcb h1 q34 q92; have HONE := Lib.hid True.intro
          go_wp2_with (first
            | (go_at_call 70; (have hone := HONE.out; clear HONE); (refine (qA3 (c := 92) rfl HI (by first | exact HLN.out | (have := HLL.out; unfold qCF at *; simp; omega)) hbz).mono ?_); rintro e w3 ⟨rfl, hi3, hk3⟩; replace HI := hi3; replace HK := HK.trans hk3; replace hbz := hk3.up hbz; clear hi3 hk3)
            | (go_at_call 70; (refine (qA3 (c := 98) rfl HI (by first | exact HLN.out | (have := HLL.out; unfold qCF at *; simp; omega)) hbz).mono ?_); rintro e w3 ⟨rfl, hi3, hk3⟩; replace HI := hi3; replace HK := HK.trans hk3; replace hbz := hk3.up hbz; clear hi3 hk3))
          go_roundw
          case rel => exact ⟨k + 1, _, by first | go_num | rw [HW.out.2], by (have := HLT.out; omega), HI, Lib.hid (by rw [← HQ.out, HQB.out]; simp), HK⟩
          case measure =>
            have := HLT.out; (try rw [HW.out.2]); simp [intOf]; omega
        · by_cases h9 : bt s k = 9
          · have HQB : Hid (qb c = [92, 116]) := Lib.hid (by unfold qb; rw [if_neg (by omega)]; simp [show c.toNat = 9 by omega]); clear hcb h1 q34 q92; have HONE := Lib.hid True.intro
            go_wp2_with (first
              | (go_at_call 70; (have hone := HONE.out; clear HONE); (refine (qA3 (c := 92) rfl HI (by first | exact HLN.out | (have := HLL.out; unfold qCF at *; simp; omega)) hbz).mono ?_); rintro e w3 ⟨rfl, hi3, hk3⟩; replace HI := hi3; replace HK := HK.trans hk3; replace hbz := hk3.up hbz; clear hi3 hk3)
              | (go_at_call 70; (refine (qA3 (c := 116) rfl HI (by first | exact HLN.out | (have := HLL.out; unfold qCF at *; simp; omega)) hbz).mono ?_); rintro e w3 ⟨rfl, hi3, hk3⟩; replace HI := hi3; replace HK := HK.trans hk3; replace hbz := hk3.up hbz; clear hi3 hk3))
            go_roundw
            case rel => exact ⟨k + 1, _, by first | go_num | rw [HW.out.2], by (have := HLT.out; omega), HI, Lib.hid (by rw [← HQ.out, HQB.out]; simp), HK⟩
            case measure =>
              have := HLT.out; (try rw [HW.out.2]); simp [intOf]; omega
          · by_cases h10 : bt s k = 10
            · have HQB : Hid (qb c = [92, 110]) := Lib.hid (by unfold qb; rw [if_neg (by omega)]; simp [show c.toNat = 10 by omega]); clear hcb h1 q34 q92; have HONE := Lib.hid True.intro
              go_wp2_with (first
                | (go_at_call 70; (have hone := HONE.out; clear HONE); (refine (qA3 (c := 92) rfl HI (by first | exact HLN.out | (have := HLL.out; unfold qCF at *; simp; omega)) hbz).mono ?_); rintro e w3 ⟨rfl, hi3, hk3⟩; replace HI := hi3; replace HK := HK.trans hk3; replace hbz := hk3.up hbz; clear hi3 hk3)
                | (go_at_call 70; (refine (qA3 (c := 110) rfl HI (by first | exact HLN.out | (have := HLL.out; unfold qCF at *; simp; omega)) hbz).mono ?_); rintro e w3 ⟨rfl, hi3, hk3⟩; replace HI := hi3; replace HK := HK.trans hk3; replace hbz := hk3.up hbz; clear hi3 hk3))
              go_roundw
              case rel => exact ⟨k + 1, _, by first | go_num | rw [HW.out.2], by (have := HLT.out; omega), HI, Lib.hid (by rw [← HQ.out, HQB.out]; simp), HK⟩
              case measure =>
                have := HLT.out; (try rw [HW.out.2]); simp [intOf]; omega
            · by_cases h12 : bt s k = 12
              · have HQB : Hid (qb c = [92, 102]) := Lib.hid (by unfold qb; rw [if_neg (by omega)]; simp [show c.toNat = 12 by omega]); clear hcb h1 q34 q92; have HONE := Lib.hid True.intro
                go_wp2_with (first
                  | (go_at_call 70; (have hone := HONE.out; clear HONE); (refine (qA3 (c := 92) rfl HI (by first | exact HLN.out | (have := HLL.out; unfold qCF at *; simp; omega)) hbz).mono ?_); rintro e w3 ⟨rfl, hi3, hk3⟩; replace HI := hi3; replace HK := HK.trans hk3; replace hbz := hk3.up hbz; clear hi3 hk3)
                  | (go_at_call 70; (refine (qA3 (c := 102) rfl HI (by first | exact HLN.out | (have := HLL.out; unfold qCF at *; simp; omega)) hbz).mono ?_); rintro e w3 ⟨rfl, hi3, hk3⟩; replace HI := hi3; replace HK := HK.trans hk3; replace hbz := hk3.up hbz; clear hi3 hk3))
                go_roundw
                case rel => exact ⟨k + 1, _, by first | go_num | rw [HW.out.2], by (have := HLT.out; omega), HI, Lib.hid (by rw [← HQ.out, HQB.out]; simp), HK⟩
                case measure =>
                  have := HLT.out; (try rw [HW.out.2]); simp [intOf]; omega
              · by_cases h13 : bt s k = 13
                · have HQB : Hid (qb c = [92, 114]) := Lib.hid (by unfold qb; rw [if_neg (by omega)]; simp [show c.toNat = 13 by omega]); clear hcb h1 q34 q92; have HONE := Lib.hid True.intro
                  go_wp2_with (first
                    | (go_at_call 70; (have hone := HONE.out; clear HONE); (refine (qA3 (c := 92) rfl HI (by first | exact HLN.out | (have := HLL.out; unfold qCF at *; simp; omega)) hbz).mono ?_); rintro e w3 ⟨rfl, hi3, hk3⟩; replace HI := hi3; replace HK := HK.trans hk3; replace hbz := hk3.up hbz; clear hi3 hk3)
                    | (go_at_call 70; (refine (qA3 (c := 114) rfl HI (by first | exact HLN.out | (have := HLL.out; unfold qCF at *; simp; omega)) hbz).mono ?_); rintro e w3 ⟨rfl, hi3, hk3⟩; replace HI := hi3; replace HK := HK.trans hk3; replace hbz := hk3.up hbz; clear hi3 hk3))
                  go_roundw
                  case rel => exact ⟨k + 1, _, by first | go_num | rw [HW.out.2], by (have := HLT.out; omega), HI, Lib.hid (by rw [← HQ.out, HQB.out]; simp), HK⟩
                  case measure =>
                    have := HLT.out; (try rw [HW.out.2]); simp [intOf]; omega
                · by_cases h32 : bt s k < 32
                  · by_cases hge8 : 8 ≤ bt s k
                    · (have h11 : bt s k = 11 ∨ 13 < bt s k := by omega); rcases h11 with h11 | h13
                      · obtain ⟨n, hn⟩ : ∃ n, n = c.toNat := ⟨_, rfl⟩; rw [← hn] at hcb; (have hn32 : n < 32 := by omega); have HQB : Hid (qb c = [92, 117, 48, 48, hx (n / 16), hx (n % 16)]) := Lib.hid (by unfold qb; rw [hn, if_neg (by omega), if_neg (by omega), if_neg (by omega), if_neg (by omega), if_neg (by omega), if_neg (by omega), if_pos (by omega)]); obtain ⟨q, hq⟩ : ∃ q, q = n / 16 := ⟨_, rfl⟩; obtain ⟨r, hr⟩ : ∃ r, r = n % 16 := ⟨_, rfl⟩; (have hq2 : q < 2 := by omega); (have hr16 : r < 16 := by omega); (have h16 : bt s k / 16 = (q : Int) := by rw [hcb]; omega); (have hand : bits BinOp.and IntKind.u8 (bt s k) 15 = (r : Int) := by rw [hcb, qOS n (by omega), hr]); rw [← hq, ← hr] at HQB; have HQ2 := Lib.hid hq2; have HR2 := Lib.hid hr16; (obtain hq0 : q = 0 := by omega); (obtain hr0 : r = 11 := by omega); clear hn hcb h1 hq hr; subst hq0; subst hr0
                        go_wp2_with (first
                          | (go_at_call 90; (refine (Tryz.strconv_Itoa_small 0 (by have := HQ2.out; omega) _).mono ?_); rintro e w3 ⟨rfl, rfl⟩; rw [qQG HQ2.out])
                          | (go_at_call 68; (refine (qOA hTr HR2.out).mono ?_); rintro e w3 ⟨rfl, hb⟩; replace HI := IsB.low HI hb; replace HK := HK.trans (KW.of hb hbz); replace hbz := Nat.le_trans hbz hb.size; clear hb)
                          | (go_at_call 66; (refine (qCY HI (by have := HLL.out; unfold qCF at *; simp [ByteArray.size_append, ByteArray.size]; omega) hbz).mono ?_); rintro e w3 ⟨rfl, hi3, hk3⟩; replace HI := hi3; replace HK := HK.trans hk3; replace hbz := hk3.up hbz; clear hi3 hk3))
                        go_roundw
                        case rel => exact ⟨k + 1, _, by first | go_num | rw [HW.out.2], by (have := HLT.out; omega), HI, Lib.hid (by rw [← HQ.out, HQB.out]; simp), HK⟩
                        case measure =>
                          have := HLT.out; (try rw [HW.out.2]); simp [intOf]; omega
                      · (have hn13 : ¬ bt s k ≤ 13 := by omega); obtain ⟨n, hn⟩ : ∃ n, n = c.toNat := ⟨_, rfl⟩; rw [← hn] at hcb; (have hn32 : n < 32 := by omega); have HQB : Hid (qb c = [92, 117, 48, 48, hx (n / 16), hx (n % 16)]) := Lib.hid (by unfold qb; rw [hn, if_neg (by omega), if_neg (by omega), if_neg (by omega), if_neg (by omega), if_neg (by omega), if_neg (by omega), if_pos (by omega)]); obtain ⟨q, hq⟩ : ∃ q, q = n / 16 := ⟨_, rfl⟩; obtain ⟨r, hr⟩ : ∃ r, r = n % 16 := ⟨_, rfl⟩; (have hq2 : q < 2 := by omega); (have hr16 : r < 16 := by omega); (have h16 : bt s k / 16 = (q : Int) := by rw [hcb]; omega); (have hand : bits BinOp.and IntKind.u8 (bt s k) 15 = (r : Int) := by rw [hcb, qOS n (by omega), hr]); rw [← hq, ← hr] at HQB; have HQ2 := Lib.hid hq2; have HR2 := Lib.hid hr16; clear hn hcb h1 hq hr
                        go_wp2_with (first
                          | (go_at_call 90; (refine (Tryz.strconv_Itoa_small q (by have := HQ2.out; omega) _).mono ?_); rintro e w3 ⟨rfl, rfl⟩; rw [qQG HQ2.out])
                          | (go_at_call 68; (refine (qOA hTr HR2.out).mono ?_); rintro e w3 ⟨rfl, hb⟩; replace HI := IsB.low HI hb; replace HK := HK.trans (KW.of hb hbz); replace hbz := Nat.le_trans hbz hb.size; clear hb)
                          | (go_at_call 66; (refine (qCY HI (by have := HLL.out; unfold qCF at *; simp [ByteArray.size_append, ByteArray.size]; omega) hbz).mono ?_); rintro e w3 ⟨rfl, hi3, hk3⟩; replace HI := hi3; replace HK := HK.trans hk3; replace hbz := hk3.up hbz; clear hi3 hk3))
                        go_roundw
                        case rel => exact ⟨k + 1, _, by first | go_num | rw [HW.out.2], by (have := HLT.out; omega), HI, Lib.hid (by rw [← HQ.out, HQB.out]; simp), HK⟩
                        case measure =>
                          have := HLT.out; (try rw [HW.out.2]); simp [intOf]; omega
                    · obtain ⟨n, hn⟩ : ∃ n, n = c.toNat := ⟨_, rfl⟩; rw [← hn] at hcb; (have hn32 : n < 32 := by omega); have HQB : Hid (qb c = [92, 117, 48, 48, hx (n / 16), hx (n % 16)]) := Lib.hid (by unfold qb; rw [hn, if_neg (by omega), if_neg (by omega), if_neg (by omega), if_neg (by omega), if_neg (by omega), if_neg (by omega), if_pos (by omega)]); obtain ⟨q, hq⟩ : ∃ q, q = n / 16 := ⟨_, rfl⟩; obtain ⟨r, hr⟩ : ∃ r, r = n % 16 := ⟨_, rfl⟩; (have hq2 : q < 2 := by omega); (have hr16 : r < 16 := by omega); (have h16 : bt s k / 16 = (q : Int) := by rw [hcb]; omega); (have hand : bits BinOp.and IntKind.u8 (bt s k) 15 = (r : Int) := by rw [hcb, qOS n (by omega), hr]); rw [← hq, ← hr] at HQB; have HQ2 := Lib.hid hq2; have HR2 := Lib.hid hr16; clear hn hcb h1 hq hr
                      go_wp2_with (first
                        | (go_at_call 90; (refine (Tryz.strconv_Itoa_small q (by have := HQ2.out; omega) _).mono ?_); rintro e w3 ⟨rfl, rfl⟩; rw [qQG HQ2.out])
                        | (go_at_call 68; (refine (qOA hTr HR2.out).mono ?_); rintro e w3 ⟨rfl, hb⟩; replace HI := IsB.low HI hb; replace HK := HK.trans (KW.of hb hbz); replace hbz := Nat.le_trans hbz hb.size; clear hb)
                        | (go_at_call 66; (refine (qCY HI (by have := HLL.out; unfold qCF at *; simp [ByteArray.size_append, ByteArray.size]; omega) hbz).mono ?_); rintro e w3 ⟨rfl, hi3, hk3⟩; replace HI := hi3; replace HK := HK.trans hk3; replace hbz := hk3.up hbz; clear hi3 hk3))
                      go_roundw
                      case rel => exact ⟨k + 1, _, by first | go_num | rw [HW.out.2], by (have := HLT.out; omega), HI, Lib.hid (by rw [← HQ.out, HQB.out]; simp), HK⟩
                      case measure =>
                        have := HLT.out; (try rw [HW.out.2]); simp [intOf]; omega
                  · have HQB : Hid (qb c = [c]) := Lib.hid (by unfold qb; rw [if_neg (by omega), if_neg (by omega), if_neg (by omega), if_neg (by omega), if_neg (by omega), if_neg (by omega), if_neg (by omega)]); (have hn13 : ¬ bt s k ≤ 13 := by omega); (have hge8 : 8 ≤ bt s k := by omega); clear hcb h1
                    go_wp2_with (first
                      | (go_at_call 70; (refine (qA3 (c := c) HC.out HI (by first | exact HLN.out | (have := HLL.out; unfold qCF at *; simp; omega)) hbz).mono ?_); rintro e w3 ⟨rfl, hi3, hk3⟩; replace HI := hi3; replace HK := HK.trans hk3; replace hbz := hk3.up hbz; clear hi3 hk3))
                    go_roundw
                    case rel => exact ⟨k + 1, _, by first | go_num | rw [HW.out.2], by (have := HLT.out; omega), HI, Lib.hid (by rw [← HQ.out, HQB.out]), HK⟩
                    case measure =>
                      have := HLT.out; (try rw [HW.out.2]); simp [intOf]; omega
    · (obtain rfl : k = s.size := by omega); (have hlt' : ¬ ((s.size : Nat) : Int) < (s.size : Int) := by omega); have HLN := Lib.hid (show l1.length + 1 ≤ qCF by have := HL.out; unfold qCF at *; omega)
      go_wp2_with (first
        | (go_at_call 70; (refine (qA3 (c := 34) rfl HI (by first | exact HLN.out | (simp; omega)) hbz).mono ?_); rintro e w3 ⟨rfl, hi3, hk3⟩; replace HI := hi3; replace HK := HK.trans hk3; replace hbz := hk3.up hbz; clear hi3 hk3))
      go_end0
      refine ⟨rfl, ?_, HK⟩; have h3 := HI; rw [HL1.out, List.take_of_length_le (by simp)] at h3; unfold quo
      simpa using h3
end
end Go.Proofs.YtnjhmnolngdfaaaGreatDoor
namespace Go.Proofs.YtnjhmnolngdfaaaGreatDoor
section
open Go.RowKit Go.PlainAid
abbrev qL4 (W : World) : Prop := Lib.TabIs Tryz.prog W "internal/strconv.uint64pow10" .u64 Lib.pow10Tab
theorem qGQ : ∀ (k x : Nat), x < k → dig x = Lib.decDigits x
  | 0, x, h => by omega
  | k + 1, x, h => by
    by_cases hx : x < 10
    · rw [qGG hx, Lib.decDigits, dif_pos hx]
    · rw [qHd hx, Lib.decDigits, dif_neg hx, qGQ k (x / 10) (by omega)]
theorem qMU (n : Int) : Lib.itoa n = qFt n := by
  unfold Lib.itoa qFt
  split
  · rw [qGQ (n.natAbs + 1) n.natAbs (by omega)]
  · rw [qGQ (n.natAbs + 1) n.natAbs (by omega), show n.toNat = n.natAbs by omega]
mutual
def Kok : JT → Prop
  | .mk k b i t l ns vs => 0 ≤ k ∧ k ≤ 5 ∧ qLr l ∧ qLr vs
def qLr : List JT → Prop
  | [] => True
  | x :: r => Kok x ∧ qLr r
end
theorem qJY {l : List JV} (h : qLr (erL l)) {i : Nat} {x : JV} (hx : l[i]? = some x) : Kok (er x) := by
  induction l generalizing i with
  | nil => simp at hx
  | cons y r ih =>
    unfold erL qLr at h
    cases i with
    | zero =>
      (have e : y = x := by simpa using hx); rw [← e]; exact h.1
    | succ i => exact ih h.2 (i := i) (by simpa using hx)
theorem qKd {j : JV} (h : Kok (er j)) : 0 ≤ j.v.kind ∧ j.v.kind ≤ 5 ∧ (∀ (i : Nat) (x : JV), j.l[i]? = some x → Kok (er x)) ∧ (∀ (i : Nat) (x : JV), j.vs[i]? = some x → Kok (er x)) := by
  rw [qBs] at h; unfold Kok at h; exact ⟨h.1, h.2.1, fun i x hx => qJY h.2.2.1 hx, fun i x hx => qJY h.2.2.2 hx⟩
theorem KW.bes {B b : Nat} {w w' : World} (h : KW B b w w') : Bes (fun q => B ≤ q) w w' := ⟨h.1.os, h.1.tape, h.1.output, h.1.size, fun k hk hn => h.1.block k (by omega)⟩
theorem qEn {B b : Nat} {w w' : World} (h : KW B b w w') {j : JV} (hj : qAi w j) (ho : Off (fun q => B ≤ q) j) : qAi w' j := qAi.bes h.bes hj ho
theorem IsB.lt {B b : Nat} {bs : List Value} {w : World} (h : IsB B b bs w) : b < w.heap.size := by
  rcases h with ⟨_, v, h2, _⟩ | ⟨_, v, h2, _⟩
  · exact (Array.getElem?_eq_some_iff.1 h2).1
  · exact (Array.getElem?_eq_some_iff.1 h2).1
theorem qH3 {w w' : World} {k : Nat} {os : Array Obj} (h : w' = Sort.grow (w.drewN k) os) : Below w.heap.size w w' := by subst h; exact Lib.below_grow _ w (Nat.le_refl _) k os
theorem qO3 : 52 ≠ 5 := by decide
theorem qQH : (44 : Int) = (((44 : UInt8).toNat : Nat) : Int) := rfl
theorem qQJ : (58 : Int) = (((58 : UInt8).toNat : Nat) : Int) := rfl
theorem qQW : (91 : Int) = (((91 : UInt8).toNat : Nat) : Int) := rfl
theorem qQe : (93 : Int) = (((93 : UInt8).toNat : Nat) : Int) := rfl
theorem qPz : (123 : Int) = (((123 : UInt8).toNat : Nat) : Int) := rfl
theorem qPs : (125 : Int) = (((125 : UInt8).toNat : Nat) : Int) := rfl
theorem qDB {w : World} {g : Nat} {t : TypeId} {nm : ByteArray} {x : JV} (h : qAW w g t (qBB (nm, x))) : w.cell? ⟨g, 0, none⟩ = some (.string nm) := by
  rw [qAW.cell h]; simp [qBB]
theorem qOG (sz : Nat) : ∀ (j : JV) (B b : Nat) (acc : List UInt8) (w : World), SizeOf.sizeOf j < sz → qAi w j → Off (fun q => B ≤ q) j → Kok (er j) → IsB B b (Lib.byteCells acc) w → B ≤ w.heap.size → (∀ W, Below B w W → qL4 W ∧ qF1 W) → 7 < B → acc.length + (pr [] (er j)).length ≤ qCA →
    Calls Tryz.prog 43 #[At b, .agg j.cells] w (TlV B b (plX [] (er j) acc) w) := by
  induction sz with
  | zero => intro j B b acc w h; omega
  | succ sz ih =>
    intro j B b acc w hsz HJ hoj hko h hB hT hg htot; obtain ⟨l1, l2, l3, l4, l5⟩ := qCI HJ; (have hi64 : I64 j.v.i := by obtain ⟨v, _, _, _⟩ := j; unfold qAi at HJ; exact HJ.1.2.1); obtain ⟨o1, o2⟩ := qHN hoj; obtain ⟨kk0, kk5, ko1, ko2⟩ := qKd hko; have HI64 := Lib.hid hi64; have HOJ := Lib.hid hoj; have HO1 := Lib.hid o1; have HO2 := Lib.hid o2; have HK1 := Lib.hid ko1; have HK2 := Lib.hid ko2; have LL := Lib.hid l1; have LV := Lib.hid l2; have LN := Lib.hid l3; have SZ := Lib.hid hsz; have IH := Lib.hid ih; have HT := Lib.hid hT; have HG := Lib.hid hg; have HJ0 := Lib.hid HJ; have HI := h; have hbz := hB; have HK := KW.refl (b := b) hB; have hb0 := IsB.lt h
    have hex : plX [] (er j) acc = if 65536 < acc.length then acc
        else if j.v.kind = 0 then acc ++ qFD else if j.v.kind = 1 then acc ++ (if j.v.b = true then qGW else qEA) else if j.v.kind = 2 then acc ++ qFt j.v.i else if j.v.kind = 3 then acc ++ quo j.v.t
        else if j.v.kind = 4 then qFO [] true (erL j.l) (acc ++ [91]) ++ [93] else qEs [] true j.ns (erL j.vs) (acc ++ [123]) ++ [125] := by rw [qBs]; unfold plX; rfl
    have hpx : pr [] (er j) = if j.v.kind = 0 then qFD else if j.v.kind = 1 then (if j.v.b = true then qGW else qEA) else if j.v.kind = 2 then qFt j.v.i else if j.v.kind = 3 then quo j.v.t
        else if j.v.kind = 4 then 91 :: (prL [] true (erL j.l) ++ [93]) else 123 :: (prF [] true j.ns (erL j.vs) ++ [125]) := by rw [qBs]; unfold pr; rfl
    unfold qCA at htot; clear ih l1 l2 l3 hsz hoj hi64 o1 o2 ko1 ko2 hko hT hg
    by_cases h65 : 65536 < acc.length
    · have HX0 : Hid (plX [] (er j) acc = acc) := Lib.hid (by rw [hex, if_pos h65]); (have h65' : (65536 : Int) < (acc.length : Int) := by omega); clear hex hpx; go_enter Tryz.func43, Tryz.ntmps43
      go_wp2_with (first
        | (refine qAM rfl 25 (.tmp 1) rfl _ rfl ?_; intro w1 hw; have hb := qAD hw; have B4 := (qAC hw).1; replace HI := IsB.low HI hb; replace HJ := HJ.below hb; replace HK := HK.trans (KW.of hb hbz); replace hbz := Nat.le_trans hbz hb.size; clear hb hw; have c4_0 : w1.cell? ⟨_, 0, none⟩ = some (.int .i64 j.v.kind) := (B4.cell 0).trans (by rfl); have c4_1 : w1.cell? ⟨_, 1, none⟩ = some (.bool j.v.b) := B4.cell 1; have c4_2 : w1.cell? ⟨_, 2, none⟩ = some (.int .i64 j.v.i) := B4.cell 2; have c4_3 : w1.cell? ⟨_, 3, none⟩ = some (.string j.v.t) := B4.cell 3; have c4_4 : w1.cell? ⟨_, 4, none⟩ = some (.slice j.v.LA j.v.Ln j.v.Lc) := B4.cell 4; have c4_5 : w1.cell? ⟨_, 5, none⟩ = some (.slice j.v.FA j.v.Fn j.v.Fc) := B4.cell 5)
        | (go_at_call 44; (refine (Tryz.Builder_Len_f B b _ _ HI).mono ?_); rintro e w3 ⟨rfl, rfl⟩; rw [Lib.byteCells_length]))
      (first | go_end0 | go_ret); exact ⟨rfl, by rw [HX0.out]; exact HI, HK⟩
    · (have h65' : ¬ (65536 : Int) < (acc.length : Int) := by omega); rw [if_neg h65] at hex
      by_cases hk0 : j.v.kind = 0
      · have HKD := Lib.hid hk0; have HX0 : Hid (plX [] (er j) acc = acc ++ qFD) := Lib.hid (by rw [hex, if_pos hk0]); have HTT : Hid (acc.length + (qFD).length ≤ 1099511627776) := Lib.hid (by rw [hpx, if_pos hk0] at htot; exact htot); clear hk0 hex hpx kk0 kk5; go_enter Tryz.func43, Tryz.ntmps43
        go_wp2_with (first
          | (refine qAM rfl 25 (.tmp 1) rfl _ rfl ?_; intro w1 hw; have hb := qAD hw; have B4 := (qAC hw).1; replace HI := IsB.low HI hb; replace HJ := HJ.below hb; replace HK := HK.trans (KW.of hb hbz); replace hbz := Nat.le_trans hbz hb.size; clear hb hw; have c4_0 : w1.cell? ⟨_, 0, none⟩ = some (.int .i64 0) := (B4.cell 0).trans (by rw [← HKD.out]; rfl); have c4_1 : w1.cell? ⟨_, 1, none⟩ = some (.bool j.v.b) := B4.cell 1; have c4_2 : w1.cell? ⟨_, 2, none⟩ = some (.int .i64 j.v.i) := B4.cell 2; have c4_3 : w1.cell? ⟨_, 3, none⟩ = some (.string j.v.t) := B4.cell 3; have c4_4 : w1.cell? ⟨_, 4, none⟩ = some (.slice j.v.LA j.v.Ln j.v.Lc) := B4.cell 4; have c4_5 : w1.cell? ⟨_, 5, none⟩ = some (.slice j.v.FA j.v.Fn j.v.Fc) := B4.cell 5)
          | (go_at_call 44; (refine (Tryz.Builder_Len_f B b _ _ HI).mono ?_); rintro e w3 ⟨rfl, rfl⟩; rw [Lib.byteCells_length])
          | (go_at_call 66; (refine (qCY HI (by have := HTT.out; unfold qCF; show acc.length + 4 ≤ _; have e : qFD.length = 4 := rfl; omega) hbz).mono ?_); rintro e w3 ⟨rfl, hi3, hk3⟩; replace HI := hi3; replace HK := HK.trans hk3; replace hbz := hk3.up hbz; clear hi3 hk3))
        go_end0
        exact ⟨rfl, by rw [HX0.out]; exact HI, HK⟩
      · by_cases hk1 : j.v.kind = 1
        · have HKD := Lib.hid hk1; cases hb : j.v.b
          · have HX0 : Hid (plX [] (er j) acc = acc ++ qEA) := Lib.hid (by rw [hex, if_neg hk0, if_pos hk1, hb]; rfl); have HTT : Hid (acc.length + 5 ≤ 1099511627776) := Lib.hid (by rw [hpx, if_neg hk0, if_pos hk1, hb] at htot; exact htot); have HBB := Lib.hid hb; clear hk0 hk1 hex hpx kk0 kk5 hb; go_enter Tryz.func43, Tryz.ntmps43
            go_wp2_with (first
              | (refine qAM rfl 25 (.tmp 1) rfl _ rfl ?_; intro w1 hw; have hb := qAD hw; have B4 := (qAC hw).1; replace HI := IsB.low HI hb; replace HJ := HJ.below hb; replace HK := HK.trans (KW.of hb hbz); replace hbz := Nat.le_trans hbz hb.size; clear hb hw; have c4_0 : w1.cell? ⟨_, 0, none⟩ = some (.int .i64 1) := (B4.cell 0).trans (by rw [← HKD.out]; rfl); have c4_1 : w1.cell? ⟨_, 1, none⟩ = some (.bool false) := (B4.cell 1).trans (by rw [← HBB.out]; rfl); have c4_2 : w1.cell? ⟨_, 2, none⟩ = some (.int .i64 j.v.i) := B4.cell 2; have c4_3 : w1.cell? ⟨_, 3, none⟩ = some (.string j.v.t) := B4.cell 3; have c4_4 : w1.cell? ⟨_, 4, none⟩ = some (.slice j.v.LA j.v.Ln j.v.Lc) := B4.cell 4; have c4_5 : w1.cell? ⟨_, 5, none⟩ = some (.slice j.v.FA j.v.Fn j.v.Fc) := B4.cell 5)
              | (go_at_call 44; (refine (Tryz.Builder_Len_f B b _ _ HI).mono ?_); rintro e w3 ⟨rfl, rfl⟩; rw [Lib.byteCells_length])
              | (go_at_call 67; (refine (Tryz.strconv_FormatBool false _).mono ?_); rintro e w3 ⟨rfl, rfl⟩)
              | (go_at_call 66; (refine (qCY HI (by have := HTT.out; unfold qCF; show acc.length + 5 ≤ _; omega) hbz).mono ?_); rintro e w3 ⟨rfl, hi3, hk3⟩; replace HI := hi3; replace HK := HK.trans hk3; replace hbz := hk3.up hbz; clear hi3 hk3))
            go_end0
            exact ⟨rfl, by rw [HX0.out]; exact HI, HK⟩
          · have HX0 : Hid (plX [] (er j) acc = acc ++ qGW) := Lib.hid (by rw [hex, if_neg hk0, if_pos hk1, hb]; rfl); have HTT : Hid (acc.length + 4 ≤ 1099511627776) := Lib.hid (by rw [hpx, if_neg hk0, if_pos hk1, hb] at htot; exact htot); have HBB := Lib.hid hb; clear hk0 hk1 hex hpx kk0 kk5 hb; go_enter Tryz.func43, Tryz.ntmps43
            go_wp2_with (first
              | (refine qAM rfl 25 (.tmp 1) rfl _ rfl ?_; intro w1 hw; have hb := qAD hw; have B4 := (qAC hw).1; replace HI := IsB.low HI hb; replace HJ := HJ.below hb; replace HK := HK.trans (KW.of hb hbz); replace hbz := Nat.le_trans hbz hb.size; clear hb hw; have c4_0 : w1.cell? ⟨_, 0, none⟩ = some (.int .i64 1) := (B4.cell 0).trans (by rw [← HKD.out]; rfl); have c4_1 : w1.cell? ⟨_, 1, none⟩ = some (.bool true) := (B4.cell 1).trans (by rw [← HBB.out]; rfl); have c4_2 : w1.cell? ⟨_, 2, none⟩ = some (.int .i64 j.v.i) := B4.cell 2; have c4_3 : w1.cell? ⟨_, 3, none⟩ = some (.string j.v.t) := B4.cell 3; have c4_4 : w1.cell? ⟨_, 4, none⟩ = some (.slice j.v.LA j.v.Ln j.v.Lc) := B4.cell 4; have c4_5 : w1.cell? ⟨_, 5, none⟩ = some (.slice j.v.FA j.v.Fn j.v.Fc) := B4.cell 5)
              | (go_at_call 44; (refine (Tryz.Builder_Len_f B b _ _ HI).mono ?_); rintro e w3 ⟨rfl, rfl⟩; rw [Lib.byteCells_length])
              | (go_at_call 67; (refine (Tryz.strconv_FormatBool true _).mono ?_); rintro e w3 ⟨rfl, rfl⟩)
              | (go_at_call 66; (refine (qCY HI (by have := HTT.out; unfold qCF; show acc.length + 4 ≤ _; omega) hbz).mono ?_); rintro e w3 ⟨rfl, hi3, hk3⟩; replace HI := hi3; replace HK := HK.trans hk3; replace hbz := hk3.up hbz; clear hi3 hk3))
            go_end0
            exact ⟨rfl, by rw [HX0.out]; exact HI, HK⟩
        · by_cases hk2 : j.v.kind = 2
          · have HKD := Lib.hid hk2; have HX0 : Hid (plX [] (er j) acc = acc ++ qFt j.v.i) := Lib.hid (by rw [hex, if_neg hk0, if_neg hk1, if_pos hk2]); have HTT : Hid (acc.length + (qFt j.v.i).length ≤ 1099511627776) := Lib.hid (by rw [hpx, if_neg hk0, if_neg hk1, if_pos hk2] at htot; exact htot); clear hk0 hk1 hk2 hex hpx kk0 kk5; go_enter Tryz.func43, Tryz.ntmps43
            go_wp2_with (first
              | (refine qAM rfl 25 (.tmp 1) rfl _ rfl ?_; intro w1 hw; have hb := qAD hw; have B4 := (qAC hw).1; replace HI := IsB.low HI hb; replace HJ := HJ.below hb; replace HK := HK.trans (KW.of hb hbz); replace hbz := Nat.le_trans hbz hb.size; clear hb hw; have c4_0 : w1.cell? ⟨_, 0, none⟩ = some (.int .i64 2) := (B4.cell 0).trans (by rw [← HKD.out]; rfl); have c4_1 : w1.cell? ⟨_, 1, none⟩ = some (.bool j.v.b) := B4.cell 1; have c4_2 : w1.cell? ⟨_, 2, none⟩ = some (.int .i64 j.v.i) := B4.cell 2; have c4_3 : w1.cell? ⟨_, 3, none⟩ = some (.string j.v.t) := B4.cell 3; have c4_4 : w1.cell? ⟨_, 4, none⟩ = some (.slice j.v.LA j.v.Ln j.v.Lc) := B4.cell 4; have c4_5 : w1.cell? ⟨_, 5, none⟩ = some (.slice j.v.FA j.v.Fn j.v.Fc) := B4.cell 5)
              | (go_at_call 44; (refine (Tryz.Builder_Len_f B b _ _ HI).mono ?_); rintro e w3 ⟨rfl, rfl⟩; rw [Lib.byteCells_length])
              | (go_at_call 68; (refine (Tryz.strconv_FormatInt_10 _ HI64.out.1 HI64.out.2 _ (HT.out _ HK.1).1).mono ?_); rintro e w3 ⟨rfl, kk, os, hw⟩; have hb := qH3 hw; rw [qMU]; replace HI := IsB.low HI hb; replace HJ := HJ.below hb; (try replace HX := HX.below hb); replace HK := HK.trans (KW.of hb hbz); replace hbz := Nat.le_trans hbz hb.size; clear hb hw)
              | (go_at_call 66; (refine (qCY HI (by have := HTT.out; unfold qCF; show acc.length + (qFt j.v.i).toArray.size ≤ _; simp; omega) hbz).mono ?_); rintro e w3 ⟨rfl, hi3, hk3⟩; replace HI := hi3; replace HK := HK.trans hk3; replace hbz := hk3.up hbz; clear hi3 hk3))
            go_end0
            exact ⟨rfl, by rw [HX0.out]; exact HI, HK⟩
          · by_cases hk3 : j.v.kind = 3
            · have HKD := Lib.hid hk3; have HX0 : Hid (plX [] (er j) acc = acc ++ quo j.v.t) := Lib.hid (by rw [hex, if_neg hk0, if_neg hk1, if_neg hk2, if_pos hk3]); have HTT : Hid (acc.length + (quo j.v.t).length ≤ 1099511627776) := Lib.hid (by rw [hpx, if_neg hk0, if_neg hk1, if_neg hk2, if_pos hk3] at htot; exact htot); have HQS := Lib.hid (qDX j.v.t); clear hk0 hk1 hk2 hk3 hex hpx kk0 kk5; go_enter Tryz.func43, Tryz.ntmps43
              go_wp2_with (first
                | (refine qAM rfl 25 (.tmp 1) rfl _ rfl ?_; intro w1 hw; have hb := qAD hw; have B4 := (qAC hw).1; replace HI := IsB.low HI hb; replace HJ := HJ.below hb; replace HK := HK.trans (KW.of hb hbz); replace hbz := Nat.le_trans hbz hb.size; clear hb hw; have c4_0 : w1.cell? ⟨_, 0, none⟩ = some (.int .i64 3) := (B4.cell 0).trans (by rw [← HKD.out]; rfl); have c4_1 : w1.cell? ⟨_, 1, none⟩ = some (.bool j.v.b) := B4.cell 1; have c4_2 : w1.cell? ⟨_, 2, none⟩ = some (.int .i64 j.v.i) := B4.cell 2; have c4_3 : w1.cell? ⟨_, 3, none⟩ = some (.string j.v.t) := B4.cell 3; have c4_4 : w1.cell? ⟨_, 4, none⟩ = some (.slice j.v.LA j.v.Ln j.v.Lc) := B4.cell 4; have c4_5 : w1.cell? ⟨_, 5, none⟩ = some (.slice j.v.FA j.v.Fn j.v.Fc) := B4.cell 5)
                | (go_at_call 44; (refine (Tryz.Builder_Len_f B b _ _ HI).mono ?_); rintro e w3 ⟨rfl, rfl⟩; rw [Lib.byteCells_length])
                | (go_at_call 69; (refine (qFF HI (by have := HTT.out; have := HQS.out; unfold qCF; omega) hbz (HT.out _ HK.1).2 HG.out).mono ?_); rintro e w3 ⟨rfl, hi3, hk3⟩; replace HI := hi3; replace HK := HK.trans hk3; replace hbz := hk3.up hbz; clear hi3 hk3))
              go_end0
              exact ⟨rfl, by rw [HX0.out]; exact HI, HK⟩
            · by_cases hk4 : j.v.kind = 4
              · have HKD := Lib.hid hk4; have HX0 : Hid (plX [] (er j) acc = qFO [] true (erL j.l) (acc ++ [91]) ++ [93]) := Lib.hid (by rw [hex, if_neg hk0, if_neg hk1, if_neg hk2, if_neg hk3, if_pos hk4]); have HTT : Hid (acc.length + (prL [] true (erL j.l)).length + 2 ≤ 1099511627776) := Lib.hid (by rw [hpx, if_neg hk0, if_neg hk1, if_neg hk2, if_neg hk3, if_pos hk4] at htot; simp only [List.length_cons, List.length_append, List.length_nil] at htot; omega); clear hk0 hk1 hk2 hk3 hk4 hex hpx kk0 kk5; go_enter Tryz.func43, Tryz.ntmps43
                go_wp2_with (first
                  | (refine qAM rfl 25 (.tmp 1) rfl _ rfl ?_; intro w1 hw; have hb := qAD hw; have B4 := (qAC hw).1; replace HI := IsB.low HI hb; replace HJ := HJ.below hb; replace HK := HK.trans (KW.of hb hbz); replace hbz := Nat.le_trans hbz hb.size; clear hb hw; have c4_0 : w1.cell? ⟨_, 0, none⟩ = some (.int .i64 4) := (B4.cell 0).trans (by rw [← HKD.out]; rfl); have c4_1 : w1.cell? ⟨_, 1, none⟩ = some (.bool j.v.b) := B4.cell 1; have c4_2 : w1.cell? ⟨_, 2, none⟩ = some (.int .i64 j.v.i) := B4.cell 2; have c4_3 : w1.cell? ⟨_, 3, none⟩ = some (.string j.v.t) := B4.cell 3; have c4_4 : w1.cell? ⟨_, 4, none⟩ = some (.slice j.v.LA j.v.Ln j.v.Lc) := B4.cell 4; have c4_5 : w1.cell? ⟨_, 5, none⟩ = some (.slice j.v.FA j.v.Fn j.v.Fc) := B4.cell 5)
                  | (go_at_call 44; (refine (Tryz.Builder_Len_f B b _ _ HI).mono ?_); rintro e w3 ⟨rfl, rfl⟩; rw [Lib.byteCells_length])
                  | (go_at_call 70; ((with_reducible refine (qA3 (n := 91) (c := 91) qQW HI (by have := HTT.out; unfold qCF; omega) hbz).mono ?_); (rintro e w3 ⟨rfl, hi3, hk3⟩; replace HI := hi3; replace HJ := qEn hk3 HJ HOJ.out; replace B4 := hk3.2 _ _ _ qCa (Nat.ne_of_gt hb0) B4; replace c4_4 : World.cell? _ ⟨_, 4, none⟩ = some (.slice j.v.LA j.v.Ln j.v.Lc) := B4.cell 4; replace c4_5 : World.cell? _ ⟨_, 5, none⟩ = some (.slice j.v.FA j.v.Fn j.v.Fc) := B4.cell 5; replace HK := HK.trans hk3; replace hbz := hk3.up hbz; clear hi3 hk3))))
                clear c4_0 c4_1 c4_2 c4_3 c4_4 c4_5 B4
                go_loopw [44] (fun iv wr => ∃ (q : Nat) (m : List UInt8), q ≤ j.v.Ln ∧ iv = .int .i64 q ∧ IsB B b (Lib.byteCells m) wr ∧ Hid (plX [] (er j) acc = qFO [] (q == 0) ((erL j.l).drop q) m ++ [93]) ∧ Hid (m.length + (prL [] (q == 0) ((erL j.l).drop q)).length + 1 ≤ 1099511627776) ∧ KW B b w wr) (fun iv _ => j.v.Ln - (intOf iv).toNat)
                case atStart => exact ⟨0, acc ++ [91], Nat.zero_le _, rfl, HI, Lib.hid (by rw [HX0.out]; rfl), Lib.hid (by have h1 := HTT.out; simp only [List.drop_zero, List.length_append, List.length_cons, List.length_nil]; show acc.length + (0 + 1) + (prL [] true (erL j.l)).length + 1 ≤ _; omega), HK⟩
                case round =>
                  clear HI HK hbz HJ; obtain ⟨q, m, hq, rfl, HI, HS1, HLN, HK⟩ := hrel; have hbz := HK.up hB; have HJ := qEn HK HJ0.out HOJ.out; have hbr := IsB.lt HI
                  by_cases hlt : q < j.v.Ln
                  · obtain ⟨bl, off, x, hA, hx, RX, HX⟩ := qDv HJ (show q < j.l.length by have := LL.out; omega); have HSZ := Lib.hid (show SizeOf.sizeOf x < sz by have := qFB hx; have := SZ.out; omega); have HOX := Lib.hid (HO1.out q x hx).1; have HKX := Lib.hid (HK1.out q x hx); obtain ⟨hst1, hst2⟩ := qHH (G := []) (a := m) hx; simp only [List.append_nil, List.nil_append] at hst1 hst2; (have hbd : 0 ≤ (q : Int) ∧ (q : Int) < j.v.Ln := by omega); (have hlt2 : (q : Int) < j.v.Ln := by omega); have HA := Lib.hid hA; have HLT := Lib.hid hlt; have HW : Hid (wrap64 ((q : Int) + 1) = ((q + 1 : Nat) : Int)) := Lib.hid (by have := hlt; have := l4; unfold wrap64; omega); clear hx hA; rw [HA.out]
                    by_cases hq0 : q = 0
                    · subst hq0; rw [if_pos rfl] at hst1 hst2; have hln := HLN.out; rw [hst2] at hln; (try simp only [List.length_append, List.length_cons, List.length_nil] at hln); have hplb := (qDL [] (er x) m).2.1; (try simp only [List.length_append, List.length_cons, List.length_nil] at hplb); have HPB : Hid (m.length + (pr [] (er x)).length ≤ qCA) := Lib.hid (by unfold qCA; (try simp only [List.length_append, List.length_cons, List.length_nil]); omega); have HS2 : Hid (plX [] (er j) acc = qFO [] (0 + 1 == 0) ((erL j.l).drop (0 + 1)) (plX [] (er x) m) ++ [93]) := Lib.hid (by rw [HS1.out, hst1]); have HLN2 : Hid ((plX [] (er x) m).length + (prL [] (0 + 1 == 0) ((erL j.l).drop (0 + 1))).length + 1 ≤ 1099511627776) := Lib.hid (by omega); have HM1 : Hid (m.length + 1 ≤ qCF) := Lib.hid (by unfold qCF; omega); clear hst1 hst2 hln hplb
                      go_wp2_with (first
                        | ((with_reducible refine qAR ?_); refine qAX rfl 25 (.tmp 47) rfl _ _ rfl x.cells _ RX Tryz.underlying25 rfl qAA ?_)
                        | ((with_reducible refine qAG ?_); refine qAE rfl 25 rfl _ qAY ?_; intro w5 hw; have hb5 := qAD hw; have B8 := qAI hw; clear hw)
                        | ((with_reducible refine qAF ?_); refine qAH rfl 25 (.tmp 5) (.tmp 48) rfl _ _ rfl rfl _ _ B8 qAA rfl (qAP _) ?_; intro w6 hw; have hb := (qAN hw (Nat.le_refl _) hb5).1; have B6 := qAQ hw B8; clear hb5 B8; replace HI := IsB.low HI hb; replace HX := HX.below hb; replace HK := HK.trans (KW.of hb hbz); replace hbz := Nat.le_trans hbz hb.size; clear hb hw)
                        | ((with_reducible refine qAR ?_); refine qAL rfl 25 (.tmp 5) rfl _ rfl _ _ _ B6 Tryz.underlying25 rfl qAA ?_)
                        | (go_at_call 43; (refine (IH.out x B b _ _ HSZ.out HX HOX.out HKX.out HI hbz (fun W hW => HT.out W (HK.1.trans hW)) HG.out HPB.out).mono ?_); rintro e w3 ⟨rfl, hi3, hk3⟩; replace HI := hi3; replace HK := HK.trans hk3; replace hbz := hk3.up hbz; clear hi3 hk3))
                      go_roundw
                      case rel => exact ⟨0 + 1, _, by have := HLT.out; omega, by first | go_num | rw [HW.out], HI, HS2, HLN2, HK⟩
                      case measure =>
                        have := HLT.out; (try rw [HW.out]); simp [intOf]; try omega
                    · (have hq1 : (0 : Int) < (q : Int) := by omega); rw [if_neg hq0] at hst1 hst2; clear hq0; have hln := HLN.out; rw [hst2] at hln; (try simp only [List.length_append, List.length_cons, List.length_nil] at hln); have hplb := (qDL [] (er x) (m ++ [44])).2.1; (try simp only [List.length_append, List.length_cons, List.length_nil] at hplb); have HPB : Hid ((m ++ [44]).length + (pr [] (er x)).length ≤ qCA) := Lib.hid (by unfold qCA; (try simp only [List.length_append, List.length_cons, List.length_nil]); omega); have HS2 : Hid (plX [] (er j) acc = qFO [] (q + 1 == 0) ((erL j.l).drop (q + 1)) (plX [] (er x) (m ++ [44])) ++ [93]) := Lib.hid (by rw [HS1.out, hst1]); have HLN2 : Hid ((plX [] (er x) (m ++ [44])).length + (prL [] (q + 1 == 0) ((erL j.l).drop (q + 1))).length + 1 ≤ 1099511627776) := Lib.hid (by omega); have HM1 : Hid (m.length + 1 ≤ qCF) := Lib.hid (by unfold qCF; omega); clear hst1 hst2 hln hplb
                      go_wp2_with (first
                        | ((with_reducible refine qAR ?_); refine qAX rfl 25 (.tmp 47) rfl _ _ rfl x.cells _ RX Tryz.underlying25 rfl qAA ?_)
                        | ((with_reducible refine qAG ?_); refine qAE rfl 25 rfl _ qAY ?_; intro w5 hw; have hb5 := qAD hw; have B8 := qAI hw; clear hw)
                        | ((with_reducible refine qAF ?_); refine qAH rfl 25 (.tmp 5) (.tmp 48) rfl _ _ rfl rfl _ _ B8 qAA rfl (qAP _) ?_; intro w6 hw; have hb := (qAN hw (Nat.le_refl _) hb5).1; have B6 := qAQ hw B8; clear hb5 B8; replace HI := IsB.low HI hb; replace HX := HX.below hb; replace HK := HK.trans (KW.of hb hbz); replace hbz := Nat.le_trans hbz hb.size; clear hb hw)
                        | ((with_reducible refine qAR ?_); refine qAL rfl 25 (.tmp 5) rfl _ rfl _ _ _ B6 Tryz.underlying25 rfl qAA ?_)
                        | (go_at_call 70; ((with_reducible refine (qA3 (n := 44) (c := 44) qQH HI (by exact HM1.out) hbz).mono ?_); (rintro e w3 ⟨rfl, hi3, hk3⟩; replace HI := hi3; replace HX := qEn hk3 HX HOX.out; replace B6 := hk3.2 _ _ _ qCa (Nat.ne_of_gt hbr) B6; replace HK := HK.trans hk3; replace hbz := hk3.up hbz; clear hi3 hk3)))
                        | (go_at_call 43; (refine (IH.out x B b _ _ HSZ.out HX HOX.out HKX.out HI hbz (fun W hW => HT.out W (HK.1.trans hW)) HG.out HPB.out).mono ?_); rintro e w3 ⟨rfl, hi3, hk3⟩; replace HI := hi3; replace HK := HK.trans hk3; replace hbz := hk3.up hbz; clear hi3 hk3))
                      go_roundw
                      case rel => exact ⟨q + 1, _, by have := HLT.out; omega, by first | go_num | rw [HW.out], HI, HS2, HLN2, HK⟩
                      case measure =>
                        have := HLT.out; (try rw [HW.out]); simp [intOf]; try omega
                  · (obtain rfl : q = j.v.Ln := by omega); have HS2 : Hid (plX [] (er j) acc = m ++ [93]) := Lib.hid (by rw [HS1.out, List.drop_eq_nil_of_le (by rw [qBj]; exact Nat.le_of_eq LL.out.symm), qFO]); have HM1 : Hid (m.length + 1 ≤ qCF) := Lib.hid (by have := HLN.out; unfold qCF; omega); (have hlt2 : ¬ ((j.v.Ln : Nat) : Int) < j.v.Ln := by omega); clear hlt hq
                    go_wp2_with (first
                      | (go_at_call 70; ((with_reducible refine (qA3 (n := 93) (c := 93) qQe HI (by exact HM1.out) hbz).mono ?_); (rintro e w3 ⟨rfl, hi3, hk3⟩; replace HI := hi3; replace HK := HK.trans hk3; replace hbz := hk3.up hbz; clear hi3 hk3))))
                    go_end0
                    exact ⟨rfl, by rw [HS2.out]; exact HI, HK⟩
              · have HX0 : Hid (plX [] (er j) acc = qEs [] true j.ns (erL j.vs) (acc ++ [123]) ++ [125]) := Lib.hid (by rw [hex, if_neg hk0, if_neg hk1, if_neg hk2, if_neg hk3, if_neg hk4]); have HTT : Hid (acc.length + (prF [] true j.ns (erL j.vs)).length + 2 ≤ 1099511627776) := Lib.hid (by rw [hpx, if_neg hk0, if_neg hk1, if_neg hk2, if_neg hk3, if_neg hk4] at htot; simp only [List.length_cons, List.length_append, List.length_nil] at htot; omega); (have hk5 : j.v.kind = 5 := by omega); have HKD := Lib.hid hk5; clear hk0 hk1 hk2 hk3 hk4 hk5 hex hpx kk0 kk5; go_enter Tryz.func43, Tryz.ntmps43
                go_wp2_with (first
                  | (refine qAM rfl 25 (.tmp 1) rfl _ rfl ?_; intro w1 hw; have hb := qAD hw; have B4 := (qAC hw).1; replace HI := IsB.low HI hb; replace HJ := HJ.below hb; replace HK := HK.trans (KW.of hb hbz); replace hbz := Nat.le_trans hbz hb.size; clear hb hw; have c4_0 : w1.cell? ⟨_, 0, none⟩ = some (.int .i64 5) := (B4.cell 0).trans (by rw [← HKD.out]; rfl); have c4_1 : w1.cell? ⟨_, 1, none⟩ = some (.bool j.v.b) := B4.cell 1; have c4_2 : w1.cell? ⟨_, 2, none⟩ = some (.int .i64 j.v.i) := B4.cell 2; have c4_3 : w1.cell? ⟨_, 3, none⟩ = some (.string j.v.t) := B4.cell 3; have c4_4 : w1.cell? ⟨_, 4, none⟩ = some (.slice j.v.LA j.v.Ln j.v.Lc) := B4.cell 4; have c4_5 : w1.cell? ⟨_, 5, none⟩ = some (.slice j.v.FA j.v.Fn j.v.Fc) := B4.cell 5)
                  | (go_at_call 44; (refine (Tryz.Builder_Len_f B b _ _ HI).mono ?_); rintro e w3 ⟨rfl, rfl⟩; rw [Lib.byteCells_length])
                  | (go_at_call 70; ((with_reducible refine (qA3 (n := 123) (c := 123) qPz HI (by have := HTT.out; unfold qCF; omega) hbz).mono ?_); (rintro e w3 ⟨rfl, hi3, hk3⟩; replace HI := hi3; replace HJ := qEn hk3 HJ HOJ.out; replace B4 := hk3.2 _ _ _ qCa (Nat.ne_of_gt hb0) B4; replace c4_4 : World.cell? _ ⟨_, 4, none⟩ = some (.slice j.v.LA j.v.Ln j.v.Lc) := B4.cell 4; replace c4_5 : World.cell? _ ⟨_, 5, none⟩ = some (.slice j.v.FA j.v.Fn j.v.Fc) := B4.cell 5; replace HK := HK.trans hk3; replace hbz := hk3.up hbz; clear hi3 hk3))))
                clear c4_0 c4_1 c4_2 c4_3 c4_4 c4_5 B4
                go_loopw [66] (fun iv wr => ∃ (q : Nat) (m : List UInt8), q ≤ j.v.Fn ∧ iv = .int .i64 q ∧ IsB B b (Lib.byteCells m) wr ∧ Hid (plX [] (er j) acc = qEs [] (q == 0) (j.ns.drop q) ((erL j.vs).drop q) m ++ [125]) ∧ Hid (m.length + (prF [] (q == 0) (j.ns.drop q) ((erL j.vs).drop q)).length + 1 ≤ 1099511627776) ∧ KW B b w wr) (fun iv _ => j.v.Fn - (intOf iv).toNat)
                case atStart => exact ⟨0, acc ++ [123], Nat.zero_le _, rfl, HI, Lib.hid (by rw [HX0.out]; rfl), Lib.hid (by have h1 := HTT.out; simp only [List.drop_zero, List.length_append, List.length_cons, List.length_nil]; show acc.length + (0 + 1) + (prF [] true j.ns (erL j.vs)).length + 1 ≤ _; omega), HK⟩
                case round =>
                  clear HI HK hbz HJ; obtain ⟨q, m, hq, rfl, HI, HS1, HLN, HK⟩ := hrel; have hbz := HK.up hB; have HJ := qEn HK HJ0.out HOJ.out; have hbr := IsB.lt HI
                  by_cases hlt : q < j.v.Fn
                  · obtain ⟨bl, off, nm, x, hA, hx, hnx, n1, RX, HX⟩ := qEI HJ (show q < j.vs.length by have := LV.out; omega); have HSZ := Lib.hid (show SizeOf.sizeOf x < sz by have := qDu hx; have := SZ.out; omega); have HOX := Lib.hid (HO2.out q x hx).1; have HKX := Lib.hid (HK2.out q x hx); have FC : wr.rangeAt bl (off + q * 7) (qBB (nm, x)).toList := qDw n1 RX; obtain ⟨hst1, hst2⟩ := qHm (G := []) (a := m) hnx hx; simp only [List.append_nil, List.nil_append] at hst1 hst2; (have hbd : 0 ≤ (q : Int) ∧ (q : Int) < j.v.Fn := by omega); (have hlt2 : (q : Int) < j.v.Fn := by omega); have HA := Lib.hid hA; have HLT := Lib.hid hlt; have HW : Hid (wrap64 ((q : Int) + 1) = ((q + 1 : Nat) : Int)) := Lib.hid (by have := hlt; have := l5; unfold wrap64; omega); clear hx hA hnx n1; rw [HA.out]
                    by_cases hq0 : q = 0
                    · subst hq0; rw [if_pos rfl] at hst1 hst2; have hln := HLN.out; rw [hst2] at hln; (try simp only [List.length_append, List.length_cons, List.length_nil] at hln); have hplb := (qDL [] (er x) ((m ++ quo nm) ++ [58])).2.1; (try simp only [List.length_append, List.length_cons, List.length_nil] at hplb); have hqs := qDX nm; have HPB : Hid (((m ++ quo nm) ++ [58]).length + (pr [] (er x)).length ≤ qCA) := Lib.hid (by unfold qCA; (try simp only [List.length_append, List.length_cons, List.length_nil]); omega); have HS2 : Hid (plX [] (er j) acc = qEs [] (0 + 1 == 0) (j.ns.drop (0 + 1)) ((erL j.vs).drop (0 + 1)) (plX [] (er x) ((m ++ quo nm) ++ [58])) ++ [125]) := Lib.hid (by rw [HS1.out, hst1]); have HLN2 : Hid ((plX [] (er x) ((m ++ quo nm) ++ [58])).length + (prF [] (0 + 1 == 0) (j.ns.drop (0 + 1)) ((erL j.vs).drop (0 + 1))).length + 1 ≤ 1099511627776) := Lib.hid (by omega); have HQN : Hid (m.length + 6 * nm.size + 2 ≤ qCF) := Lib.hid (by unfold qCF; (try simp only [List.length_append, List.length_cons, List.length_nil]); omega); have HC1 : Hid ((m ++ quo nm).length + 1 ≤ qCF) := Lib.hid (by unfold qCF; (try simp only [List.length_append, List.length_cons, List.length_nil]); omega); have HM1 : Hid (m.length + 1 ≤ qCF) := Lib.hid (by unfold qCF; omega); clear hst1 hst2 hln hplb hqs
                      go_wp2_with (first
                        | ((with_reducible refine qAR ?_); refine qAX rfl 52 (.tmp 69) rfl _ _ rfl (qBB (nm, x)) _ FC Tryz.underlying52 rfl qAV ?_)
                        | ((with_reducible refine qAG ?_); refine qAE rfl 52 rfl _ qCh ?_; intro w5 hw; have hb5 := qAD hw; have B8 := qAI hw; clear hw)
                        | ((with_reducible refine qAF ?_); refine qAH rfl 52 (.tmp 7) (.tmp 70) rfl _ _ rfl rfl _ _ B8 qAV rfl (qAw _) ?_; intro w6 hw; have hb := (qAN hw (Nat.le_refl _) hb5).1; have B7 : qAW w6 _ 52 (qBB (nm, x)) := qAQ hw B8; clear hb5 B8; replace HI := IsB.low HI hb; replace HX := HX.below hb; replace HK := HK.trans (KW.of hb hbz); replace hbz := Nat.le_trans hbz hb.size; clear hb hw; have n7 := qDB B7; have RV := qBE B7)
                        | ((with_reducible refine qAR ?_); refine qAX rfl 25 (.tmp 82) rfl _ _ rfl x.cells _ RV Tryz.underlying25 rfl qAA ?_)
                        | (go_at_call 69; (refine (qFF HI (by exact HQN.out) hbz (HT.out _ HK.1).2 HG.out).mono ?_); rintro e w3 ⟨rfl, hi3, hk3⟩; replace HI := hi3; replace HX := qEn hk3 HX HOX.out; replace B7 := hk3.2 _ _ _ qO3 (Nat.ne_of_gt hbr) B7; replace n7 := qDB B7; replace RV := qBE B7; replace HK := HK.trans hk3; replace hbz := hk3.up hbz; clear hi3 hk3)
                        | (go_at_call 70; ((with_reducible refine (qA3 (n := 58) (c := 58) qQJ HI (by exact HC1.out) hbz).mono ?_); (rintro e w3 ⟨rfl, hi3, hk3⟩; replace HI := hi3; replace HX := qEn hk3 HX HOX.out; replace B7 := hk3.2 _ _ _ qO3 (Nat.ne_of_gt hbr) B7; replace n7 := qDB B7; replace RV := qBE B7; replace HK := HK.trans hk3; replace hbz := hk3.up hbz; clear hi3 hk3)))
                        | (go_at_call 43; (refine (IH.out x B b _ _ HSZ.out HX HOX.out HKX.out HI hbz (fun W hW => HT.out W (HK.1.trans hW)) HG.out HPB.out).mono ?_); rintro e w3 ⟨rfl, hi3, hk3⟩; replace HI := hi3; replace HK := HK.trans hk3; replace hbz := hk3.up hbz; clear hi3 hk3))
                      go_roundw
                      case rel => exact ⟨0 + 1, _, by have := HLT.out; omega, by first | go_num | rw [HW.out], HI, HS2, HLN2, HK⟩
                      case measure =>
                        have := HLT.out; (try rw [HW.out]); simp [intOf]; try omega
                    · (have hq1 : (0 : Int) < (q : Int) := by omega); rw [if_neg hq0] at hst1 hst2; clear hq0; have hln := HLN.out; rw [hst2] at hln; (try simp only [List.length_append, List.length_cons, List.length_nil] at hln); have hplb := (qDL [] (er x) (((m ++ [44]) ++ quo nm) ++ [58])).2.1; (try simp only [List.length_append, List.length_cons, List.length_nil] at hplb); have hqs := qDX nm; have HPB : Hid ((((m ++ [44]) ++ quo nm) ++ [58]).length + (pr [] (er x)).length ≤ qCA) := Lib.hid (by unfold qCA; (try simp only [List.length_append, List.length_cons, List.length_nil]); omega); have HS2 : Hid (plX [] (er j) acc = qEs [] (q + 1 == 0) (j.ns.drop (q + 1)) ((erL j.vs).drop (q + 1)) (plX [] (er x) (((m ++ [44]) ++ quo nm) ++ [58])) ++ [125]) := Lib.hid (by rw [HS1.out, hst1]); have HLN2 : Hid ((plX [] (er x) (((m ++ [44]) ++ quo nm) ++ [58])).length + (prF [] (q + 1 == 0) (j.ns.drop (q + 1)) ((erL j.vs).drop (q + 1))).length + 1 ≤ 1099511627776) := Lib.hid (by omega); have HQN : Hid ((m ++ [44]).length + 6 * nm.size + 2 ≤ qCF) := Lib.hid (by unfold qCF; (try simp only [List.length_append, List.length_cons, List.length_nil]); omega); have HC1 : Hid (((m ++ [44]) ++ quo nm).length + 1 ≤ qCF) := Lib.hid (by unfold qCF; (try simp only [List.length_append, List.length_cons, List.length_nil]); omega); have HM1 : Hid (m.length + 1 ≤ qCF) := Lib.hid (by unfold qCF; omega); clear hst1 hst2 hln hplb hqs
                      go_wp2_with (first
                        | ((with_reducible refine qAR ?_); refine qAX rfl 52 (.tmp 69) rfl _ _ rfl (qBB (nm, x)) _ FC Tryz.underlying52 rfl qAV ?_)
                        | ((with_reducible refine qAG ?_); refine qAE rfl 52 rfl _ qCh ?_; intro w5 hw; have hb5 := qAD hw; have B8 := qAI hw; clear hw)
                        | ((with_reducible refine qAF ?_); refine qAH rfl 52 (.tmp 7) (.tmp 70) rfl _ _ rfl rfl _ _ B8 qAV rfl (qAw _) ?_; intro w6 hw; have hb := (qAN hw (Nat.le_refl _) hb5).1; have B7 : qAW w6 _ 52 (qBB (nm, x)) := qAQ hw B8; clear hb5 B8; replace HI := IsB.low HI hb; replace HX := HX.below hb; replace HK := HK.trans (KW.of hb hbz); replace hbz := Nat.le_trans hbz hb.size; clear hb hw; have n7 := qDB B7; have RV := qBE B7)
                        | ((with_reducible refine qAR ?_); refine qAX rfl 25 (.tmp 82) rfl _ _ rfl x.cells _ RV Tryz.underlying25 rfl qAA ?_)
                        | (go_at_call 70; ((with_reducible refine (qA3 (n := 44) (c := 44) qQH HI (by exact HM1.out) hbz).mono ?_); (rintro e w3 ⟨rfl, hi3, hk3⟩; replace HI := hi3; replace HX := qEn hk3 HX HOX.out; replace B7 := hk3.2 _ _ _ qO3 (Nat.ne_of_gt hbr) B7; replace n7 := qDB B7; replace RV := qBE B7; replace HK := HK.trans hk3; replace hbz := hk3.up hbz; clear hi3 hk3)))
                        | (go_at_call 69; (refine (qFF HI (by exact HQN.out) hbz (HT.out _ HK.1).2 HG.out).mono ?_); rintro e w3 ⟨rfl, hi3, hk3⟩; replace HI := hi3; replace HX := qEn hk3 HX HOX.out; replace B7 := hk3.2 _ _ _ qO3 (Nat.ne_of_gt hbr) B7; replace n7 := qDB B7; replace RV := qBE B7; replace HK := HK.trans hk3; replace hbz := hk3.up hbz; clear hi3 hk3)
                        | (go_at_call 70; ((with_reducible refine (qA3 (n := 58) (c := 58) qQJ HI (by exact HC1.out) hbz).mono ?_); (rintro e w3 ⟨rfl, hi3, hk3⟩; replace HI := hi3; replace HX := qEn hk3 HX HOX.out; replace B7 := hk3.2 _ _ _ qO3 (Nat.ne_of_gt hbr) B7; replace n7 := qDB B7; replace RV := qBE B7; replace HK := HK.trans hk3; replace hbz := hk3.up hbz; clear hi3 hk3)))
                        | (go_at_call 43; (refine (IH.out x B b _ _ HSZ.out HX HOX.out HKX.out HI hbz (fun W hW => HT.out W (HK.1.trans hW)) HG.out HPB.out).mono ?_); rintro e w3 ⟨rfl, hi3, hk3⟩; replace HI := hi3; replace HK := HK.trans hk3; replace hbz := hk3.up hbz; clear hi3 hk3))
                      go_roundw
                      case rel => exact ⟨q + 1, _, by have := HLT.out; omega, by first | go_num | rw [HW.out], HI, HS2, HLN2, HK⟩
                      case measure =>
                        have := HLT.out; (try rw [HW.out]); simp [intOf]; try omega
                  · (obtain rfl : q = j.v.Fn := by omega); have HS2 : Hid (plX [] (er j) acc = m ++ [125]) := Lib.hid (by rw [HS1.out, List.drop_eq_nil_of_le (by rw [LN.out]; exact Nat.le_of_eq LV.out.symm), qEs]); have HM1 : Hid (m.length + 1 ≤ qCF) := Lib.hid (by have := HLN.out; unfold qCF; omega); (have hlt2 : ¬ ((j.v.Fn : Nat) : Int) < j.v.Fn := by omega); clear hlt hq
                    go_wp2_with (first
                      | (go_at_call 70; ((with_reducible refine (qA3 (n := 125) (c := 125) qPs HI (by exact HM1.out) hbz).mono ?_); (rintro e w3 ⟨rfl, hi3, hk3⟩; replace HI := hi3; replace HK := HK.trans hk3; replace hbz := hk3.up hbz; clear hi3 hk3))))
                    go_end0
                    exact ⟨rfl, by rw [HS2.out]; exact HI, HK⟩
theorem qI0 {j : JV} {B b : Nat} {acc : List UInt8} {w : World} (HJ : qAi w j) (ho : Off (fun q => B ≤ q) j) (hk : Kok (er j)) (h : IsB B b (Lib.byteCells acc) w) (hB : B ≤ w.heap.size) (hT : ∀ W, Below B w W → qL4 W ∧ qF1 W) (hg : 7 < B) (hl : acc.length + (pr [] (er j)).length ≤ qCA) :
    Calls Tryz.prog 43 #[At b, .agg j.cells] w (TlV B b (plX [] (er j) acc) w) := qOG _ j B b acc w (Nat.lt_succ_self _) HJ ho hk h hB hT hg hl
end
end Go.Proofs.YtnjhmnolngdfaaaGreatDoor
