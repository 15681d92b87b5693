/- Layer 2: a value. -/
import Derived.Test.YtnjhmnolngdfaaaGreatDoorQ14
import Derived.Test.YtnjhmnolngdfaaaGreatDoorQZip
set_option linter.unusedVariables false
set_option linter.unusedSimpArgs false
set_option maxHeartbeats 16000000
set_option maxRecDepth 100000
namespace Go.Proofs.YtnjhmnolngdfaaaGreatDoor
open Go.RowKit Go.PlainAid
theorem qAn {P : Program} {ops : Array Oper} {rest : List Oper} {o : Oper} {a : Act} {w : World} {Q : Exit → Act → World → Prop} (hgd : o.guard = none) (ty : TypeId) (x : Operand) (ho : o.op = .box ty x) (v : Value) (hx : a.eval x = v) (h1 : v.oneCell' = true)
    (h : ∀ w', Hid (w' = w.alloc (.cells #[v] ty)) → wpList P ops Q rest (a.put o.dst (.pointer (some ⟨w.heap.size, 0, none⟩))) w') : wpList P ops Q (o :: rest) a w :=
  wpList_plain hgd fun _ hK => by
    (have hc : v.cells = #[v] := by cases v <;> first | rfl | cases h1); unfold Oper.wp execOp; simp [ho, hx]; exact hK _ _ (h _ (by rw [← hc]; rfl))
theorem qHA {P : Program} {ops : Array Oper} {rest : List Oper} {o : Oper} {a : Act} {w : World} {Q : Exit → Act → World → Prop} (hgd : o.guard = none) (ty : TypeId) (ho : o.op = .makeMap ty none)
    (h : ∀ w', Hid (w' = w.alloc (.map #[] 0)) → wpList P ops Q rest (a.put o.dst (.map (some w.heap.size))) w') : wpList P ops Q (o :: rest) a w :=
  wpList_plain hgd fun _ hK => by
    unfold Oper.wp execOp; simp [ho, run_makeMap]; exact hK _ _ (h _ rfl)
theorem qF6 {P : Program} {ops : Array Oper} {rest : List Oper} {o o2 : Oper} {a : Act} {w : World} {Q : Exit → Act → World → Prop} (d : Tmp) (hgd : o.guard = none) (hdst : o.dst = some d) (ty : TypeId) (ho : o.op = .alloc ty) (hgd2 : o2.guard = none) (y : Operand) (ho2 : o2.op = .store ty (.tmp d) y) (z : Value) (hz : ∀ w, (zeroValue ty).run P w = .ok z w)
    (hz1 : z.oneCell' = true) (v : Value) (hx : (a.put o.dst (.pointer (some ⟨w.heap.size, 0, none⟩))).eval (.tmp d) = .pointer (some ⟨w.heap.size, 0, none⟩)) (hy : (a.put o.dst (.pointer (some ⟨w.heap.size, 0, none⟩))).eval y = v)
    (hi : (P.info? ty).map (·.size) = some 1) (h1 : v.oneCell' = true)
    (h : ∀ w', Hid (w' = w.alloc (.cells #[v] ty)) → wpList P ops Q rest ((a.put o.dst (.pointer (some ⟨w.heap.size, 0, none⟩))).put o2.dst undef) w') : wpList P ops Q (o :: o2 :: rest) a w := by
  (have hzc : z.cells = #[z] := by cases z <;> first | rfl | cases hz1); (refine wpList_plain hgd fun _ hK => ?_); unfold Oper.wp execOp; simp [ho, Instr.alloc, Sem.run_bind, hz, newVar, hzc]; refine hK _ _ ?_; (refine qAs hgd2 ty (.tmp d) y ho2 w.heap.size 0 hx v hy ty #[z] (qAW.new _ _ _) (by simp) hi h1 fun w1 hw1 => ?_); refine h _ ?_; have e := hw1.out; subst e; exact World.setRow_alloc_new w #[z] #[v] ty
theorem qDc {w w' : World} (h : Hid (w' = w.alloc (.map #[] 0))) : qFr w' w.heap.size 0 [] ∧ w'.heap.size = w.heap.size + 1 ∧ Below w.heap.size w w' := by
  have e := h.out; subst e; exact ⟨qFr.new w, by simp, (Below.refl _ _).alloc (Nat.le_refl _) _⟩
theorem qFr.below {w w' : World} {m n : Nat} {ns : List ByteArray} {k : Nat} (h : qFr w m n ns) (hb : Below k w w') (hk : m < k) : qFr w' m n ns := by
  have hl := h.lt; obtain ⟨D, ⟨es, clock, hbk, F, hs, hD⟩, h2⟩ := h; exact ⟨D, ⟨es, clock, (hb.block m hk).trans hbk, F, hs, hD⟩, h2⟩
theorem qAZ {w w' : World} {z : Array Value} {t : TypeId} (h : Hid (w' = w.alloc (.cells z t))) : w'.heap.size = w.heap.size + 1 := (qAC h).2.1
theorem Mv.put {r g : Nat} {w a w' : World} {arr : Array Value} (h : Mv r w a) (hw : Hid (w' = a.setRow g arr)) (hg : w.heap.size ≤ g) : Mv r w w' := by
  have hb := Bes.row (X := fun q => q = g) hw rfl; exact Bes.trans h hb (fun _ e => e) (fun q hq e => by have e2 : q = g := e; omega)
theorem Mv.fr {r b0 : Nat} {w a w' : World} (h : Mv r w a) (hf : Fr b0 r a w') (hg : w.heap.size ≤ b0) : Mv r w w' :=
  Bes.trans h hf (fun _ e => e) (fun q hq e => e.elim id (fun e => by omega))
def qBG (k : Int) (b : Bool) (i : Int) (t : ByteArray) : JV := .mk ⟨k, b, i, t, none, 0, 0, none, 0, 0⟩ [] [] []
theorem qDT (w w0 : World) {k i : Int} {b : Bool} {t : ByteArray} (hk : I64 k) (hi : I64 i) (ht : t.size ≤ qAy) : qAi w (qBG k b i t) ∧ er (qBG k b i t) = .mk k b i t [] [] [] ∧ Off (fun q => q < w0.heap.size) (qBG k b i t) := by
  refine ⟨?_, by unfold qBG er erL; rfl, ?_⟩
  · unfold qBG qAi; refine ⟨⟨hk, hi, ht, rfl, rfl, rfl, qPw, (by decide : 0 * 96 ≤ qAy), ?_⟩, ?_, ?_⟩
    · unfold qBA; exact True.intro
    · unfold qBf; exact True.intro
    · unfold qBf; exact True.intro
  · unfold qBG Off; refine ⟨fun h => absurd rfl h, fun h => absurd rfl h, ?_, ?_⟩ <;> (unfold qCd; exact True.intro)
theorem qKh : I64 1 := by unfold I64; decide
theorem qLO : I64 2 := by unfold I64; decide
theorem qOU : I64 3 := by unfold I64; decide
theorem qGS {s : ByteArray} {i : Nat} {x : Int} {k : Nat} (h : qBo s i = .ok x k) : I64 x := by
 have key : ∀ {neg : Bool} {j : Nat}, qCm s neg i j = .ok x k → I64 x := fun {neg j} h => by
  unfold qCm at h
  split at h
  ·cases h
  ·rename_i h1
   split at h
   ·cases h
   ·rename_i h2; injection h with h3 _; have h0 := qBk (s := s) (j := j) (by simpa using h1); unfold I64; cases neg <;> simp at h3 <;> omega
 unfold qBo at h
 split at h
 ·exact key h
 ·exact key h
theorem qI8 {s : ByteArray} {d i : Nat} (h : pk s i = 110) : qAJ s d i = (qBF s qF0 4 i).map fun _ => qJf := by unfold qAJ; rw [if_pos h]
theorem qI3 {s : ByteArray} {d i : Nat} (h : pk s i = 116) : qAJ s d i = (qBF s qFz 4 i).map fun _ => qFu true := by unfold qAJ; rw [if_neg (by omega), if_pos h]
theorem qGk {s : ByteArray} {d i : Nat} (h : pk s i = 102) : qAJ s d i = (qBF s qDt 5 i).map fun _ => qFu false := by unfold qAJ; rw [if_neg (by omega), if_neg (by omega), if_pos h]
theorem qG2 {s : ByteArray} {d i : Nat} (h : pk s i = 45 ∨ qBa (pk s i) = true) : qAJ s d i = (qBo s i).map qOD := by
  (have hr : pk s i ≤ 57 := by rcases h with h | h; omega; unfold qBa at h; simp at h; omega); unfold qAJ; rw [if_neg (by omega), if_neg (by omega), if_neg (by omega), if_pos h]
theorem qJM {s : ByteArray} {d i : Nat} (h : pk s i = 34) : qAJ s d i = (qBK s i).map qKb := by
  unfold qAJ; rw [if_neg (by omega), if_neg (by omega), if_neg (by omega), if_neg (by rw [h]; decide), if_pos h]
theorem qMt {s : ByteArray} {d i : Nat} (h1 : pk s i ≠ 110) (h2 : pk s i ≠ 116) (h3 : pk s i ≠ 102) (h4 : ¬ (pk s i = 45 ∨ qBa (pk s i) = true)) (h5 : pk s i ≠ 34) (h6 : pk s i ≠ 91) (h7 : pk s i ≠ 123) : qAJ s d i = .bad 3 i := by
  unfold qAJ; rw [if_neg h1, if_neg h2, if_neg h3, if_neg h4, if_neg h5, if_pos ⟨h6, h7⟩]
theorem qI9 {s : ByteArray} {i : Nat} (h : pk s i = 91 ∨ pk s i = 123) : qAJ s 0 i = .bad 4 i := by
  unfold qAJ; rw [if_neg (by omega), if_neg (by omega), if_neg (by omega), if_neg (by rcases h with h | h <;> rw [h] <;> decide), if_neg (by omega), if_neg (by omega)]
theorem qJL {s : ByteArray} {d i : Nat} (h : pk s i = 91) : qAJ s (d + 1) i = (qAx s 93 (qAo (qAJ s d)) i []).map qJx := by
  conv => lhs; unfold qAJ
  rw [if_neg (by omega), if_neg (by omega), if_neg (by omega), if_neg (by rw [h]; decide), if_neg (by omega), if_neg (by omega)]; show (if pk s i = 91 then _ else _) = _; rw [if_pos h]
theorem qMp {s : ByteArray} {d i : Nat} (h : pk s i = 123) : qAJ s (d + 1) i = (qAx s 125 (qAg s (qAJ s d)) i ([], [])).map qOk := by
  conv => lhs; unfold qAJ
  rw [if_neg (by omega), if_neg (by omega), if_neg (by omega), if_neg (by rw [h]; decide), if_neg (by omega), if_neg (by omega)]; show (if pk s i = 91 then _ else _) = _; rw [if_neg (by omega)]
theorem qId {t : Int} {A : Option Addr} {n c : Nat} {B : Option Addr} {m e : Nat} : (KC t (.slice A n c) (.slice B m e)).all (·.oneCell') = true := by simp [KC, Value.oneCell']
theorem qMQ {r : Nat} {s : ByteArray} {b0 b1 gv gr gd : Nat} {dep : Int} {k : Nat} {arr : Array Value} {A : Option Addr} {c : Nat} {acc : List JV} {w : World}
    (h : LK r s b0 b1 gv gr gd dep 25 6 k arr (.slice A acc.length c) acc.length (qDK acc) acc w) (hb : acc.length ≤ 65536) : qAi w (qBy A c acc) ∧ Off (fun q => q < b1) (qBy A c acc) := by
  obtain ⟨A', c', he, hj, _⟩ := qD7 h.own rfl (fun x hx => (h.els x hx).1) (by unfold qAy; omega); injection he with e1 _ e3; subst e1 e3; refine ⟨hj, ?_⟩; unfold qBy Off; refine ⟨fun _ a ha e => ?_, fun h => absurd rfl h, qCi fun x hx => Off.mono (fun q e => Or.inl e) (h.els x hx).2, by unfold qCd; exact True.intro⟩; have h1 := qFI h.own a ha; have e2 : a.block < b1 := e; omega
theorem qN1 {r : Nat} {s : ByteArray} {b0 b1 gv gr gd : Nat} {dep : Int} {k : Nat} {arr : Array Value} {A : Option Addr} {c : Nat} {acc : List JV} {L : List (ByteArray × JV)} {w : World}
    (h : LK r s b0 b1 gv gr gd dep 52 7 k arr (.slice A acc.length c) acc.length (qCB L) acc w) (hL : L.length = acc.length) (hA : acc = L.map (·.2)) (hn : ∀ p ∈ L, p.1.size ≤ qAy) (hb : acc.length ≤ 65536) : qAi w (qDD A c L) ∧ Off (fun q => q < b1) (qDD A c L) := by
  (have hm : ∀ p ∈ L, p.2 ∈ acc := fun p hp => by rw [hA]; exact List.mem_map.2 ⟨p, hp, rfl⟩); obtain ⟨A', c', he, hj⟩ := qGu h.own hL.symm (fun p hp => ⟨hn p hp, (h.els _ (hm p hp)).1⟩) (by unfold qAy; omega); injection he with e1 _ e3; subst e1 e3; refine ⟨hj, ?_⟩; unfold qDD Off; refine ⟨fun h => absurd rfl h, fun _ a ha e => ?_, by unfold qCd; exact True.intro, qCi fun x hx => ?_⟩
  · have h1 := qFI h.own a ha; have e2 : a.block < b1 := e; omega
  · rw [← hA] at hx; exact Off.mono (fun q e => Or.inl e) (h.els x hx).2
theorem qG3 {d : Nat} (hd : d ≤ 32) (hin : ∀ e, d = e + 1 → qEW e) : qEW d := by
 intro w r s i h hG hi hs; have HR := h; have HM := Mv.refl r w; (have h4w : ∀ {wa wb : World}, True := fun {_ _} => trivial); clear h4w
 by_cases q1 : pk s i = 110
 ·cases ho : qBF s qF0 4 i with
  | bad c p =>
   have HO := Lib.hid ho; have HK : Hid (qAJ s d i = .bad c p) := Lib.hid (by rw [qI8 q1]; rw [ho]; rfl); clear ho; go_enter Tryz.func38, Tryz.ntmps38
   go_wp2_with (first
    | (refine qAn rfl 68 (.tmp 0) rfl (At r) rfl rfl ?_; intro wa hw; have hb := qAD hw; have B2 := (qAC hw).1; have hsa := Lib.hid (qAC hw).2.1; clear hw; replace HR := HR.below hb; replace HM := HM.trans (Mv.of hb); have n2 := Nat.ne_of_gt h.lt; clear hb)
    | (refine qAn rfl 3 (.tmp 1) rfl (.int .i64 _) rfl rfl ?_; intro wb hw; have hb := qAD hw; have B3 := (qAC hw).1; have hsb := Lib.hid (qAC hw).2.1; clear hw; have n3 := Nat.ne_of_gt HR.lt; replace B2 := zI B2 hb; replace HR := HR.below hb; replace HM := HM.trans (Mv.of hb); clear hb)
    | ((with_reducible refine qAG ?_); refine qAE rfl 25 rfl _ qAY ?_; intro wc hw; have hb := qAD hw; have B4 := qAI hw; have hsc := Lib.hid (qAZ hw); clear hw; have n4 := Nat.ne_of_gt HR.lt; replace B2 := zI B2 hb; replace B3 := zI B3 hb; replace HR := HR.below hb; replace HM := HM.trans (Mv.of hb); clear hb; have c1 := HR.c1; have cr := B2.cell 0; have cd := B3.cell 0)
    | (go_at_call 55; (with_reducible refine (qBC HR).mono ?_); rintro e w1 ⟨rfl, hb⟩; have hm := Mv.of (r := r) hb; have hr4 := HR.below hb; clear hb; replace B2 := B2.mv hm n2; replace B3 := B3.mv hm n3; replace B4 := B4.mv hm n4; replace HM := HM.trans hm; replace HR := hr4; clear hm hr4; replace c1 := HR.c1; replace cr := B2.cell 0; replace cd := B3.cell 0)
    | (go_at_call 56; (have HG4 := hG.mv HM); refine (qCO qF0 HR hi hs (by decide)).mono ?_; rw [show qF0.size = 4 from rfl, HO.out]; rintro e w4 ⟨hm, ⟨g, rfl, hg⟩⟩; replace HM := HM.trans hm))
   exact ⟨rfl, Got.bad HK.out HM ⟨g, rfl, hg⟩⟩
  | ok x k =>
   have HO := Lib.hid ho; have HK : Hid (qAJ s d i = .ok (qJf) k) := Lib.hid (by rw [qI8 q1]; rw [ho]; rfl); clear ho; go_enter Tryz.func38, Tryz.ntmps38
   go_wp2_with (first
    | (refine qAn rfl 68 (.tmp 0) rfl (At r) rfl rfl ?_; intro wa hw; have hb := qAD hw; have B2 := (qAC hw).1; have hsa := Lib.hid (qAC hw).2.1; clear hw; replace HR := HR.below hb; replace HM := HM.trans (Mv.of hb); have n2 := Nat.ne_of_gt h.lt; clear hb)
    | (refine qAn rfl 3 (.tmp 1) rfl (.int .i64 _) rfl rfl ?_; intro wb hw; have hb := qAD hw; have B3 := (qAC hw).1; have hsb := Lib.hid (qAC hw).2.1; clear hw; have n3 := Nat.ne_of_gt HR.lt; replace B2 := zI B2 hb; replace HR := HR.below hb; replace HM := HM.trans (Mv.of hb); clear hb)
    | ((with_reducible refine qAG ?_); refine qAE rfl 25 rfl _ qAY ?_; intro wc hw; have hb := qAD hw; have B4 := qAI hw; have hsc := Lib.hid (qAZ hw); clear hw; have n4 := Nat.ne_of_gt HR.lt; replace B2 := zI B2 hb; replace B3 := zI B3 hb; replace HR := HR.below hb; replace HM := HM.trans (Mv.of hb); clear hb; have c1 := HR.c1; have cr := B2.cell 0; have cd := B3.cell 0)
    | (go_at_call 55; (with_reducible refine (qBC HR).mono ?_); rintro e w1 ⟨rfl, hb⟩; have hm := Mv.of (r := r) hb; have hr4 := HR.below hb; clear hb; replace B2 := B2.mv hm n2; replace B3 := B3.mv hm n3; replace B4 := B4.mv hm n4; replace HM := HM.trans hm; replace HR := hr4; clear hm hr4; replace c1 := HR.c1; replace cr := B2.cell 0; replace cd := B3.cell 0)
    | (go_at_call 56; (have HG4 := hG.mv HM); refine (qCO qF0 HR hi hs (by decide)).mono ?_; rw [show qF0.size = 4 from rfl, HO.out]; rintro e w4 ⟨hm, rfl, hr4⟩; replace B2 := B2.mv hm n2; replace B3 := B3.mv hm n3; replace B4 := B4.mv hm n4; replace HM := HM.trans hm; replace HR := hr4; clear hm hr4; replace c1 := HR.c1; replace cr := B2.cell 0; replace cd := B3.cell 0)
    | ((with_reducible refine qAF ?_); refine qAH rfl 25 (.tmp 4) (.tmp 16) rfl _ (qBG 0 false 0 ⟨#[]⟩).cells rfl rfl _ _ B4 qAA rfl (qAP _) ?_; intro w5 hw; have h45 : w.heap.size ≤ wb.heap.size := (by have := hsa.out; have := hsb.out; omega); replace HR := Bes.box (Bes.row (X := fun q => q = wb.heap.size) hw rfl) HR (fun e => n4 (by have e2 : r = wb.heap.size := e; exact e2.symm)); replace HM := HM.put hw h45; replace B4 := qAQ hw B4; clear hw h45))
   refine bodyPost_ret (qAb rfl _ _ wb.heap.size 25 (qBG 0 false 0 ⟨#[]⟩).cells _ rfl B4 Tryz.underlying25 rfl qAA) rfl ?_; exact Got.ok HK.out HM ⟨_, rfl, qDT _ _ mi0 mi0 mze⟩ HR
 ·by_cases q2 : pk s i = 116
  ·cases ho : qBF s qFz 4 i with
   | bad c p =>
    have HO := Lib.hid ho; have HK : Hid (qAJ s d i = .bad c p) := Lib.hid (by rw [qI3 q2]; rw [ho]; rfl); clear ho; go_enter Tryz.func38, Tryz.ntmps38
    go_wp2_with (first
     | (refine qAn rfl 68 (.tmp 0) rfl (At r) rfl rfl ?_; intro wa hw; have hb := qAD hw; have B2 := (qAC hw).1; have hsa := Lib.hid (qAC hw).2.1; clear hw; replace HR := HR.below hb; replace HM := HM.trans (Mv.of hb); have n2 := Nat.ne_of_gt h.lt; clear hb)
     | (refine qAn rfl 3 (.tmp 1) rfl (.int .i64 _) rfl rfl ?_; intro wb hw; have hb := qAD hw; have B3 := (qAC hw).1; have hsb := Lib.hid (qAC hw).2.1; clear hw; have n3 := Nat.ne_of_gt HR.lt; replace B2 := zI B2 hb; replace HR := HR.below hb; replace HM := HM.trans (Mv.of hb); clear hb)
     | ((with_reducible refine qAG ?_); refine qAE rfl 25 rfl _ qAY ?_; intro wc hw; have hb := qAD hw; have B4 := qAI hw; have hsc := Lib.hid (qAZ hw); clear hw; have n4 := Nat.ne_of_gt HR.lt; replace B2 := zI B2 hb; replace B3 := zI B3 hb; replace HR := HR.below hb; replace HM := HM.trans (Mv.of hb); clear hb; have c1 := HR.c1; have cr := B2.cell 0; have cd := B3.cell 0)
     | (go_at_call 55; (with_reducible refine (qBC HR).mono ?_); rintro e w1 ⟨rfl, hb⟩; have hm := Mv.of (r := r) hb; have hr4 := HR.below hb; clear hb; replace B2 := B2.mv hm n2; replace B3 := B3.mv hm n3; replace B4 := B4.mv hm n4; replace HM := HM.trans hm; replace HR := hr4; clear hm hr4; replace c1 := HR.c1; replace cr := B2.cell 0; replace cd := B3.cell 0)
     | (go_at_call 56; (have HG4 := hG.mv HM); refine (qCO qFz HR hi hs (by decide)).mono ?_; rw [show qFz.size = 4 from rfl, HO.out]; rintro e w4 ⟨hm, ⟨g, rfl, hg⟩⟩; replace HM := HM.trans hm))
    exact ⟨rfl, Got.bad HK.out HM ⟨g, rfl, hg⟩⟩
   | ok x k =>
    have HO := Lib.hid ho; have HK : Hid (qAJ s d i = .ok (qFu true) k) := Lib.hid (by rw [qI3 q2]; rw [ho]; rfl); clear ho; go_enter Tryz.func38, Tryz.ntmps38
    go_wp2_with (first
     | (refine qAn rfl 68 (.tmp 0) rfl (At r) rfl rfl ?_; intro wa hw; have hb := qAD hw; have B2 := (qAC hw).1; have hsa := Lib.hid (qAC hw).2.1; clear hw; replace HR := HR.below hb; replace HM := HM.trans (Mv.of hb); have n2 := Nat.ne_of_gt h.lt; clear hb)
     | (refine qAn rfl 3 (.tmp 1) rfl (.int .i64 _) rfl rfl ?_; intro wb hw; have hb := qAD hw; have B3 := (qAC hw).1; have hsb := Lib.hid (qAC hw).2.1; clear hw; have n3 := Nat.ne_of_gt HR.lt; replace B2 := zI B2 hb; replace HR := HR.below hb; replace HM := HM.trans (Mv.of hb); clear hb)
     | ((with_reducible refine qAG ?_); refine qAE rfl 25 rfl _ qAY ?_; intro wc hw; have hb := qAD hw; have B4 := qAI hw; have hsc := Lib.hid (qAZ hw); clear hw; have n4 := Nat.ne_of_gt HR.lt; replace B2 := zI B2 hb; replace B3 := zI B3 hb; replace HR := HR.below hb; replace HM := HM.trans (Mv.of hb); clear hb; have c1 := HR.c1; have cr := B2.cell 0; have cd := B3.cell 0)
     | (go_at_call 55; (with_reducible refine (qBC HR).mono ?_); rintro e w1 ⟨rfl, hb⟩; have hm := Mv.of (r := r) hb; have hr4 := HR.below hb; clear hb; replace B2 := B2.mv hm n2; replace B3 := B3.mv hm n3; replace B4 := B4.mv hm n4; replace HM := HM.trans hm; replace HR := hr4; clear hm hr4; replace c1 := HR.c1; replace cr := B2.cell 0; replace cd := B3.cell 0)
     | (go_at_call 56; (have HG4 := hG.mv HM); refine (qCO qFz HR hi hs (by decide)).mono ?_; rw [show qFz.size = 4 from rfl, HO.out]; rintro e w4 ⟨hm, rfl, hr4⟩; replace B2 := B2.mv hm n2; replace B3 := B3.mv hm n3; replace B4 := B4.mv hm n4; replace HM := HM.trans hm; replace HR := hr4; clear hm hr4; replace c1 := HR.c1; replace cr := B2.cell 0; replace cd := B3.cell 0)
     | ((with_reducible refine qAF ?_); refine qAH rfl 25 (.tmp 4) (.tmp 22) rfl _ (qBG 1 true 0 ⟨#[]⟩).cells rfl rfl _ _ B4 qAA rfl (qAP _) ?_; intro w5 hw; have h45 : w.heap.size ≤ wb.heap.size := (by have := hsa.out; have := hsb.out; omega); replace HR := Bes.box (Bes.row (X := fun q => q = wb.heap.size) hw rfl) HR (fun e => n4 (by have e2 : r = wb.heap.size := e; exact e2.symm)); replace HM := HM.put hw h45; replace B4 := qAQ hw B4; clear hw h45))
    refine bodyPost_ret (qAb rfl _ _ wb.heap.size 25 (qBG 1 true 0 ⟨#[]⟩).cells _ rfl B4 Tryz.underlying25 rfl qAA) rfl ?_; exact Got.ok HK.out HM ⟨_, rfl, qDT _ _ qKh mi0 mze⟩ HR
  ·by_cases q3 : pk s i = 102
   ·cases ho : qBF s qDt 5 i with
    | bad c p =>
     have HO := Lib.hid ho; have HK : Hid (qAJ s d i = .bad c p) := Lib.hid (by rw [qGk q3]; rw [ho]; rfl); clear ho; go_enter Tryz.func38, Tryz.ntmps38
     go_wp2_with (first
      | (refine qAn rfl 68 (.tmp 0) rfl (At r) rfl rfl ?_; intro wa hw; have hb := qAD hw; have B2 := (qAC hw).1; have hsa := Lib.hid (qAC hw).2.1; clear hw; replace HR := HR.below hb; replace HM := HM.trans (Mv.of hb); have n2 := Nat.ne_of_gt h.lt; clear hb)
      | (refine qAn rfl 3 (.tmp 1) rfl (.int .i64 _) rfl rfl ?_; intro wb hw; have hb := qAD hw; have B3 := (qAC hw).1; have hsb := Lib.hid (qAC hw).2.1; clear hw; have n3 := Nat.ne_of_gt HR.lt; replace B2 := zI B2 hb; replace HR := HR.below hb; replace HM := HM.trans (Mv.of hb); clear hb)
      | ((with_reducible refine qAG ?_); refine qAE rfl 25 rfl _ qAY ?_; intro wc hw; have hb := qAD hw; have B4 := qAI hw; have hsc := Lib.hid (qAZ hw); clear hw; have n4 := Nat.ne_of_gt HR.lt; replace B2 := zI B2 hb; replace B3 := zI B3 hb; replace HR := HR.below hb; replace HM := HM.trans (Mv.of hb); clear hb; have c1 := HR.c1; have cr := B2.cell 0; have cd := B3.cell 0)
      | (go_at_call 55; (with_reducible refine (qBC HR).mono ?_); rintro e w1 ⟨rfl, hb⟩; have hm := Mv.of (r := r) hb; have hr4 := HR.below hb; clear hb; replace B2 := B2.mv hm n2; replace B3 := B3.mv hm n3; replace B4 := B4.mv hm n4; replace HM := HM.trans hm; replace HR := hr4; clear hm hr4; replace c1 := HR.c1; replace cr := B2.cell 0; replace cd := B3.cell 0)
      | (go_at_call 56; (have HG4 := hG.mv HM); refine (qCO qDt HR hi hs (by decide)).mono ?_; rw [show qDt.size = 5 from rfl, HO.out]; rintro e w4 ⟨hm, ⟨g, rfl, hg⟩⟩; replace HM := HM.trans hm))
     exact ⟨rfl, Got.bad HK.out HM ⟨g, rfl, hg⟩⟩
    | ok x k =>
     have HO := Lib.hid ho; have HK : Hid (qAJ s d i = .ok (qFu false) k) := Lib.hid (by rw [qGk q3]; rw [ho]; rfl); clear ho; go_enter Tryz.func38, Tryz.ntmps38
     go_wp2_with (first
      | (refine qAn rfl 68 (.tmp 0) rfl (At r) rfl rfl ?_; intro wa hw; have hb := qAD hw; have B2 := (qAC hw).1; have hsa := Lib.hid (qAC hw).2.1; clear hw; replace HR := HR.below hb; replace HM := HM.trans (Mv.of hb); have n2 := Nat.ne_of_gt h.lt; clear hb)
      | (refine qAn rfl 3 (.tmp 1) rfl (.int .i64 _) rfl rfl ?_; intro wb hw; have hb := qAD hw; have B3 := (qAC hw).1; have hsb := Lib.hid (qAC hw).2.1; clear hw; have n3 := Nat.ne_of_gt HR.lt; replace B2 := zI B2 hb; replace HR := HR.below hb; replace HM := HM.trans (Mv.of hb); clear hb)
      | ((with_reducible refine qAG ?_); refine qAE rfl 25 rfl _ qAY ?_; intro wc hw; have hb := qAD hw; have B4 := qAI hw; have hsc := Lib.hid (qAZ hw); clear hw; have n4 := Nat.ne_of_gt HR.lt; replace B2 := zI B2 hb; replace B3 := zI B3 hb; replace HR := HR.below hb; replace HM := HM.trans (Mv.of hb); clear hb; have c1 := HR.c1; have cr := B2.cell 0; have cd := B3.cell 0)
      | (go_at_call 55; (with_reducible refine (qBC HR).mono ?_); rintro e w1 ⟨rfl, hb⟩; have hm := Mv.of (r := r) hb; have hr4 := HR.below hb; clear hb; replace B2 := B2.mv hm n2; replace B3 := B3.mv hm n3; replace B4 := B4.mv hm n4; replace HM := HM.trans hm; replace HR := hr4; clear hm hr4; replace c1 := HR.c1; replace cr := B2.cell 0; replace cd := B3.cell 0)
      | (go_at_call 56; (have HG4 := hG.mv HM); refine (qCO qDt HR hi hs (by decide)).mono ?_; rw [show qDt.size = 5 from rfl, HO.out]; rintro e w4 ⟨hm, rfl, hr4⟩; replace B2 := B2.mv hm n2; replace B3 := B3.mv hm n3; replace B4 := B4.mv hm n4; replace HM := HM.trans hm; replace HR := hr4; clear hm hr4; replace c1 := HR.c1; replace cr := B2.cell 0; replace cd := B3.cell 0)
      | ((with_reducible refine qAF ?_); refine qAH rfl 25 (.tmp 4) (.tmp 28) rfl _ (qBG 1 false 0 ⟨#[]⟩).cells rfl rfl _ _ B4 qAA rfl (qAP _) ?_; intro w5 hw; have h45 : w.heap.size ≤ wb.heap.size := (by have := hsa.out; have := hsb.out; omega); replace HR := Bes.box (Bes.row (X := fun q => q = wb.heap.size) hw rfl) HR (fun e => n4 (by have e2 : r = wb.heap.size := e; exact e2.symm)); replace HM := HM.put hw h45; replace B4 := qAQ hw B4; clear hw h45))
     refine bodyPost_ret (qAb rfl _ _ wb.heap.size 25 (qBG 1 false 0 ⟨#[]⟩).cells _ rfl B4 Tryz.underlying25 rfl qAA) rfl ?_; exact Got.ok HK.out HM ⟨_, rfl, qDT _ _ qKh mi0 mze⟩ HR
   ·by_cases q4 : pk s i = 45
    ·have hnum : pk s i = 45 ∨ qBa (pk s i) = true := .inl q4
     cases ho : qBo s i with
     | bad c p =>
      have HO := Lib.hid ho; have HK : Hid (qAJ s d i = .bad c p) := Lib.hid (by rw [qG2 hnum]; rw [ho]; rfl); clear ho; go_enter Tryz.func38, Tryz.ntmps38
      go_wp2_with (first
       | (refine qAn rfl 68 (.tmp 0) rfl (At r) rfl rfl ?_; intro wa hw; have hb := qAD hw; have B2 := (qAC hw).1; have hsa := Lib.hid (qAC hw).2.1; clear hw; replace HR := HR.below hb; replace HM := HM.trans (Mv.of hb); have n2 := Nat.ne_of_gt h.lt; clear hb)
       | (refine qAn rfl 3 (.tmp 1) rfl (.int .i64 _) rfl rfl ?_; intro wb hw; have hb := qAD hw; have B3 := (qAC hw).1; have hsb := Lib.hid (qAC hw).2.1; clear hw; have n3 := Nat.ne_of_gt HR.lt; replace B2 := zI B2 hb; replace HR := HR.below hb; replace HM := HM.trans (Mv.of hb); clear hb)
       | ((with_reducible refine qAG ?_); refine qAE rfl 25 rfl _ qAY ?_; intro wc hw; have hb := qAD hw; have B4 := qAI hw; have hsc := Lib.hid (qAZ hw); clear hw; have n4 := Nat.ne_of_gt HR.lt; replace B2 := zI B2 hb; replace B3 := zI B3 hb; replace HR := HR.below hb; replace HM := HM.trans (Mv.of hb); clear hb; have c1 := HR.c1; have cr := B2.cell 0; have cd := B3.cell 0)
       | (go_at_call 55; (with_reducible refine (qBC HR).mono ?_); rintro e w1 ⟨rfl, hb⟩; have hm := Mv.of (r := r) hb; have hr4 := HR.below hb; clear hb; replace B2 := B2.mv hm n2; replace B3 := B3.mv hm n3; replace B4 := B4.mv hm n4; replace HM := HM.trans hm; replace HR := hr4; clear hm hr4; replace c1 := HR.c1; replace cr := B2.cell 0; replace cd := B3.cell 0)
       | (go_at_call 57; (have HG4 := hG.mv HM); refine (qDj HR HG4 hi hs).mono ?_; rw [HO.out]; rintro e w4 ⟨hm, ⟨g, rfl, hg⟩⟩; replace HM := HM.trans hm))
      exact ⟨rfl, Got.bad HK.out HM ⟨g, rfl, hg⟩⟩
     | ok x k =>
      have HO := Lib.hid ho; have HK : Hid (qAJ s d i = .ok (qOD x) k) := Lib.hid (by rw [qG2 hnum]; rw [ho]; rfl); have hxi := qGS ho; clear ho; go_enter Tryz.func38, Tryz.ntmps38
      go_wp2_with (first
       | (refine qAn rfl 68 (.tmp 0) rfl (At r) rfl rfl ?_; intro wa hw; have hb := qAD hw; have B2 := (qAC hw).1; have hsa := Lib.hid (qAC hw).2.1; clear hw; replace HR := HR.below hb; replace HM := HM.trans (Mv.of hb); have n2 := Nat.ne_of_gt h.lt; clear hb)
       | (refine qAn rfl 3 (.tmp 1) rfl (.int .i64 _) rfl rfl ?_; intro wb hw; have hb := qAD hw; have B3 := (qAC hw).1; have hsb := Lib.hid (qAC hw).2.1; clear hw; have n3 := Nat.ne_of_gt HR.lt; replace B2 := zI B2 hb; replace HR := HR.below hb; replace HM := HM.trans (Mv.of hb); clear hb)
       | ((with_reducible refine qAG ?_); refine qAE rfl 25 rfl _ qAY ?_; intro wc hw; have hb := qAD hw; have B4 := qAI hw; have hsc := Lib.hid (qAZ hw); clear hw; have n4 := Nat.ne_of_gt HR.lt; replace B2 := zI B2 hb; replace B3 := zI B3 hb; replace HR := HR.below hb; replace HM := HM.trans (Mv.of hb); clear hb; have c1 := HR.c1; have cr := B2.cell 0; have cd := B3.cell 0)
       | (go_at_call 55; (with_reducible refine (qBC HR).mono ?_); rintro e w1 ⟨rfl, hb⟩; have hm := Mv.of (r := r) hb; have hr4 := HR.below hb; clear hb; replace B2 := B2.mv hm n2; replace B3 := B3.mv hm n3; replace B4 := B4.mv hm n4; replace HM := HM.trans hm; replace HR := hr4; clear hm hr4; replace c1 := HR.c1; replace cr := B2.cell 0; replace cd := B3.cell 0)
       | (go_at_call 57; (have HG4 := hG.mv HM); refine (qDj HR HG4 hi hs).mono ?_; rw [HO.out]; rintro e w4 ⟨hm, rfl, hr4⟩; replace B2 := B2.mv hm n2; replace B3 := B3.mv hm n3; replace B4 := B4.mv hm n4; replace HM := HM.trans hm; replace HR := hr4; clear hm hr4; replace c1 := HR.c1; replace cr := B2.cell 0; replace cd := B3.cell 0)
       | ((with_reducible refine qAF ?_); refine qAH rfl 25 (.tmp 4) (.tmp 42) rfl _ (qBG 2 false x ⟨#[]⟩).cells rfl rfl _ _ B4 qAA rfl (qAP _) ?_; intro w5 hw; have h45 : w.heap.size ≤ wb.heap.size := (by have := hsa.out; have := hsb.out; omega); replace HR := Bes.box (Bes.row (X := fun q => q = wb.heap.size) hw rfl) HR (fun e => n4 (by have e2 : r = wb.heap.size := e; exact e2.symm)); replace HM := HM.put hw h45; replace B4 := qAQ hw B4; clear hw h45))
      refine bodyPost_ret (qAb rfl _ _ wb.heap.size 25 (qBG 2 false x ⟨#[]⟩).cells _ rfl B4 Tryz.underlying25 rfl qAA) rfl ?_; exact Got.ok HK.out HM ⟨_, rfl, qDT _ _ qLO hxi mze⟩ HR
    ·by_cases p48 : 48 ≤ pk s i
     ·by_cases p57 : pk s i ≤ 57
      ·have hnum : pk s i = 45 ∨ qBa (pk s i) = true := .inr (by unfold qBa; rw [decide_eq_true p48, decide_eq_true p57]; rfl); clear q1 q2 q3
       cases ho : qBo s i with
       | bad c p =>
        have HO := Lib.hid ho; have HK : Hid (qAJ s d i = .bad c p) := Lib.hid (by rw [qG2 hnum]; rw [ho]; rfl); clear ho; go_enter Tryz.func38, Tryz.ntmps38
        go_wp2_with (first
         | (refine qAn rfl 68 (.tmp 0) rfl (At r) rfl rfl ?_; intro wa hw; have hb := qAD hw; have B2 := (qAC hw).1; have hsa := Lib.hid (qAC hw).2.1; clear hw; replace HR := HR.below hb; replace HM := HM.trans (Mv.of hb); have n2 := Nat.ne_of_gt h.lt; clear hb)
         | (refine qAn rfl 3 (.tmp 1) rfl (.int .i64 _) rfl rfl ?_; intro wb hw; have hb := qAD hw; have B3 := (qAC hw).1; have hsb := Lib.hid (qAC hw).2.1; clear hw; have n3 := Nat.ne_of_gt HR.lt; replace B2 := zI B2 hb; replace HR := HR.below hb; replace HM := HM.trans (Mv.of hb); clear hb)
         | ((with_reducible refine qAG ?_); refine qAE rfl 25 rfl _ qAY ?_; intro wc hw; have hb := qAD hw; have B4 := qAI hw; have hsc := Lib.hid (qAZ hw); clear hw; have n4 := Nat.ne_of_gt HR.lt; replace B2 := zI B2 hb; replace B3 := zI B3 hb; replace HR := HR.below hb; replace HM := HM.trans (Mv.of hb); clear hb; have c1 := HR.c1; have cr := B2.cell 0; have cd := B3.cell 0)
         | (go_at_call 55; (with_reducible refine (qBC HR).mono ?_); rintro e w1 ⟨rfl, hb⟩; have hm := Mv.of (r := r) hb; have hr4 := HR.below hb; clear hb; replace B2 := B2.mv hm n2; replace B3 := B3.mv hm n3; replace B4 := B4.mv hm n4; replace HM := HM.trans hm; replace HR := hr4; clear hm hr4; replace c1 := HR.c1; replace cr := B2.cell 0; replace cd := B3.cell 0)
         | (go_at_call 57; (have HG4 := hG.mv HM); refine (qDj HR HG4 hi hs).mono ?_; rw [HO.out]; rintro e w4 ⟨hm, ⟨g, rfl, hg⟩⟩; replace HM := HM.trans hm))
        exact ⟨rfl, Got.bad HK.out HM ⟨g, rfl, hg⟩⟩
       | ok x k =>
        have HO := Lib.hid ho; have HK : Hid (qAJ s d i = .ok (qOD x) k) := Lib.hid (by rw [qG2 hnum]; rw [ho]; rfl); have hxi := qGS ho; clear ho; go_enter Tryz.func38, Tryz.ntmps38
        go_wp2_with (first
         | (refine qAn rfl 68 (.tmp 0) rfl (At r) rfl rfl ?_; intro wa hw; have hb := qAD hw; have B2 := (qAC hw).1; have hsa := Lib.hid (qAC hw).2.1; clear hw; replace HR := HR.below hb; replace HM := HM.trans (Mv.of hb); have n2 := Nat.ne_of_gt h.lt; clear hb)
         | (refine qAn rfl 3 (.tmp 1) rfl (.int .i64 _) rfl rfl ?_; intro wb hw; have hb := qAD hw; have B3 := (qAC hw).1; have hsb := Lib.hid (qAC hw).2.1; clear hw; have n3 := Nat.ne_of_gt HR.lt; replace B2 := zI B2 hb; replace HR := HR.below hb; replace HM := HM.trans (Mv.of hb); clear hb)
         | ((with_reducible refine qAG ?_); refine qAE rfl 25 rfl _ qAY ?_; intro wc hw; have hb := qAD hw; have B4 := qAI hw; have hsc := Lib.hid (qAZ hw); clear hw; have n4 := Nat.ne_of_gt HR.lt; replace B2 := zI B2 hb; replace B3 := zI B3 hb; replace HR := HR.below hb; replace HM := HM.trans (Mv.of hb); clear hb; have c1 := HR.c1; have cr := B2.cell 0; have cd := B3.cell 0)
         | (go_at_call 55; (with_reducible refine (qBC HR).mono ?_); rintro e w1 ⟨rfl, hb⟩; have hm := Mv.of (r := r) hb; have hr4 := HR.below hb; clear hb; replace B2 := B2.mv hm n2; replace B3 := B3.mv hm n3; replace B4 := B4.mv hm n4; replace HM := HM.trans hm; replace HR := hr4; clear hm hr4; replace c1 := HR.c1; replace cr := B2.cell 0; replace cd := B3.cell 0)
         | (go_at_call 57; (have HG4 := hG.mv HM); refine (qDj HR HG4 hi hs).mono ?_; rw [HO.out]; rintro e w4 ⟨hm, rfl, hr4⟩; replace B2 := B2.mv hm n2; replace B3 := B3.mv hm n3; replace B4 := B4.mv hm n4; replace HM := HM.trans hm; replace HR := hr4; clear hm hr4; replace c1 := HR.c1; replace cr := B2.cell 0; replace cd := B3.cell 0)
         | ((with_reducible refine qAF ?_); refine qAH rfl 25 (.tmp 4) (.tmp 42) rfl _ (qBG 2 false x ⟨#[]⟩).cells rfl rfl _ _ B4 qAA rfl (qAP _) ?_; intro w5 hw; have h45 : w.heap.size ≤ wb.heap.size := (by have := hsa.out; have := hsb.out; omega); replace HR := Bes.box (Bes.row (X := fun q => q = wb.heap.size) hw rfl) HR (fun e => n4 (by have e2 : r = wb.heap.size := e; exact e2.symm)); replace HM := HM.put hw h45; replace B4 := qAQ hw B4; clear hw h45))
        refine bodyPost_ret (qAb rfl _ _ wb.heap.size 25 (qBG 2 false x ⟨#[]⟩).cells _ rfl B4 Tryz.underlying25 rfl qAA) rfl ?_; exact Got.ok HK.out HM ⟨_, rfl, qDT _ _ qLO hxi mze⟩ HR
      ·(have hnd : ¬ (pk s i = 45 ∨ qBa (pk s i) = true) := fun h => h.elim q4 (fun h => by unfold qBa at h; rw [decide_eq_false p57] at h; simp at h)); have hnn : (pk s i == 45 || decide (pk s i ≤ 57)) = false := by rw [decide_eq_false p57, beq_eq_false_iff_ne.2 q4]; rfl
       by_cases q6 : pk s i = 34
       ·exact absurd q6 (by omega)
       ·by_cases q7 : pk s i = 91
        ·cases d with
         | zero =>
          have HK : Hid (qAJ s 0 i = .bad 4 i) := Lib.hid (qI9 (.inl q7)); go_enter Tryz.func38, Tryz.ntmps38
          go_wp2_with (first
           | (refine qAn rfl 68 (.tmp 0) rfl (At r) rfl rfl ?_; intro wa hw; have hb := qAD hw; have B2 := (qAC hw).1; have hsa := Lib.hid (qAC hw).2.1; clear hw; replace HR := HR.below hb; replace HM := HM.trans (Mv.of hb); have n2 := Nat.ne_of_gt h.lt; clear hb)
           | (refine qAn rfl 3 (.tmp 1) rfl (.int .i64 _) rfl rfl ?_; intro wb hw; have hb := qAD hw; have B3 := (qAC hw).1; have hsb := Lib.hid (qAC hw).2.1; clear hw; have n3 := Nat.ne_of_gt HR.lt; replace B2 := zI B2 hb; replace HR := HR.below hb; replace HM := HM.trans (Mv.of hb); clear hb)
           | ((with_reducible refine qAG ?_); refine qAE rfl 25 rfl _ qAY ?_; intro wc hw; have hb := qAD hw; have B4 := qAI hw; have hsc := Lib.hid (qAZ hw); clear hw; have n4 := Nat.ne_of_gt HR.lt; replace B2 := zI B2 hb; replace B3 := zI B3 hb; replace HR := HR.below hb; replace HM := HM.trans (Mv.of hb); clear hb; have c1 := HR.c1; have cr := B2.cell 0; have cd := B3.cell 0)
           | (go_at_call 55; (with_reducible refine (qBC HR).mono ?_); rintro e w1 ⟨rfl, hb⟩; have hm := Mv.of (r := r) hb; have hr4 := HR.below hb; clear hb; replace B2 := B2.mv hm n2; replace B3 := B3.mv hm n3; replace B4 := B4.mv hm n4; replace HM := HM.trans hm; replace HR := hr4; clear hm hr4; replace c1 := HR.c1; replace cr := B2.cell 0; replace cd := B3.cell 0))
          refine qAc (by kernel_rfl) (fun w8 hHeld => ?_); refine TKB 0 65 ?_ rfl ?_ ?_; rotate_left
          ·(intro w hSw; (try dsimp only at hSw); have := qAB hSw cr; go_simp; try with_reducible rfl)
          (try simp only [Act.put, zA, zB, zC]); refine TKB 1 66 ?_ rfl ?_ ?_; rotate_left
          ·(intro w hSw; (try dsimp only at hSw); have := qAB hSw cr; go_simp; try with_reducible rfl)
          (try simp only [Act.put, zA, zB, zC]); refine TKC 2 67 rfl ?_; (try simp only [Act.put, zA, zB, zC]); refine TKC 3 68 rfl ?_; (try simp only [Act.put, zA, zB, zC]); refine TKB 4 69 ?_ rfl ?_ ?_; rotate_left
          ·(intro w hSw; (try dsimp only at hSw); have := qAB hSw c1; go_simp; try with_reducible rfl)
          (try simp only [Act.put, zA, zB, zC]); refine wpAnyH_ready (rs := [5]) (by kernel_rfl) (by simp) ?_; refine AllReadyH.cons (o := ⟨some 70, _, _, _, _, _⟩) rfl (fun K hK => ?_) AllReadyH.nil; go_simp
          (go_at_call 39; (with_reducible refine (qAz _ _ _ _).mono ?_); rintro e w5 ⟨⟨g, rfl, hg⟩, hb⟩)
          exact ⟨rfl, Got.bad HK.out ((HM.trans (Mv.of hHeld)).trans (Mv.of hb)) ⟨g, rfl, hg⟩⟩
         | succ e =>
          have hval : qEW e := hin e rfl; (have hd31 : e ≤ 31 := by omega); have hil : i < s.size := qC1 q7 (by omega); rw [show (32 - ((e + 1 : Nat) : Int)) = 31 - (e : Int) by omega]; (have hdn : ¬ (31 - (e : Int)) = 32 := by omega); have hmf : ∀ (fn : Fn) (first cap : Array Value) (w : World), (Instr.makeFunc fn first cap).run Tryz.prog w = .ok (.func fn first cap) w := fun _ _ _ _ => rfl
          cases ho : qAx s 93 (qAo (qAJ s e)) i [] with
          | bad c p =>
           have HO := Lib.hid ho; have HK : Hid (qAJ s (e + 1) i = .bad c p) := Lib.hid (by rw [qJL q7, ho]; rfl); clear ho; go_enter Tryz.func38, Tryz.ntmps38
           go_wp2_with (first
            | ((with_reducible refine qAG ?_); refine qAO 6 rfl rfl 25 rfl rfl (.tmp 74) rfl _ qAY (KC 4 (.slice none 0 0) (.slice none 0 0)) rfl rfl qAA rfl qId ?_; intro wd hw; have hb := qAD hw; have BG := (qAC hw).1; have hsd := Lib.hid (qAZ hw); clear hw; have l2 := qAW.lt B2; have l3 := qAW.lt B3; have l4 := qAW.lt B4; have lr := HR.lt; have lw := HM.size; replace B2 := qAW.below B2 hb l2; replace B3 := qAW.below B3 hb l3; replace B4 := qAW.below B4 hb l4; replace HR := HR.below hb; replace HM := HM.trans (Mv.of hb); clear hb; replace c1 := HR.c1; replace cr := B2.cell 0; replace cd := B3.cell 0)
            | (refine qAn rfl 68 (.tmp 0) rfl (At r) rfl rfl ?_; intro wa hw; have hb := qAD hw; have B2 := (qAC hw).1; have hsa := Lib.hid (qAC hw).2.1; clear hw; replace HR := HR.below hb; replace HM := HM.trans (Mv.of hb); have n2 := Nat.ne_of_gt h.lt; clear hb)
            | (refine qAn rfl 3 (.tmp 1) rfl (.int .i64 _) rfl rfl ?_; intro wb hw; have hb := qAD hw; have B3 := (qAC hw).1; have hsb := Lib.hid (qAC hw).2.1; clear hw; have n3 := Nat.ne_of_gt HR.lt; replace B2 := zI B2 hb; replace HR := HR.below hb; replace HM := HM.trans (Mv.of hb); clear hb)
            | ((with_reducible refine qAG ?_); refine qAE rfl 25 rfl _ qAY ?_; intro wc hw; have hb := qAD hw; have B4 := qAI hw; have hsc := Lib.hid (qAZ hw); clear hw; have n4 := Nat.ne_of_gt HR.lt; replace B2 := zI B2 hb; replace B3 := zI B3 hb; replace HR := HR.below hb; replace HM := HM.trans (Mv.of hb); clear hb; have c1 := HR.c1; have cr := B2.cell 0; have cd := B3.cell 0)
            | (go_at_call 55; (with_reducible refine (qBC HR).mono ?_); rintro e w1 ⟨rfl, hb⟩; have hm := Mv.of (r := r) hb; have hr4 := HR.below hb; clear hb; replace B2 := B2.mv hm n2; replace B3 := B3.mv hm n3; replace B4 := B4.mv hm n4; replace HM := HM.trans hm; replace HR := hr4; clear hm hr4; replace c1 := HR.c1; replace cr := B2.cell 0; replace cd := B3.cell 0)
            | (go_at_call 59; have HG4 := hG.mv HM; (have s1 := hsa.out; have s2 := hsb.out; have s3 := hsc.out; have s4 := hsd.out;  have hst : (LSt r s w1.heap.size wd.heap.size w1.heap.size w.heap.size wa.heap.size (31 - (e : Int))) i [] _ := ⟨none, 0, [], rfl, Nat.zero_le _, ⟨HR, HG4, BG, B2, B3, World.ownsRow_nil _ _ _ _, (fun y hy => by cases hy), ⟨by omega, Nat.le_refl _, qAW.lt BG, by omega, by omega, by omega, by omega, n2, n3, Nat.le_refl _⟩⟩⟩; clear s1 s2 s3 s4; refine (qE7 60 #[At w1.heap.size, At w.heap.size, At wa.heap.size] 93 (by decide) (by decide) (qAo (qAJ s e)) (LSt r s w1.heap.size wd.heap.size w1.heap.size w.heap.size wa.heap.size (31 - (e : Int))) w1.heap.size r hs (enters_of Tryz.func60 (by kernel_rfl) rfl) (fun i x w h1 => by obtain ⟨A, c, acc, e1, e2, e3⟩ := h1; exact e3.rd) (fun i k x w w' hik h1 h2 h3 => by obtain ⟨A, c, acc, e1, e2, e3⟩ := h1; exact ⟨A, c, acc, e1, Nat.le_trans e2 hik, e3.mv h2 h3⟩) (qDV (qA8 e)) (fun i x w h1 h2 => qI6 hd31 hval h1 h2 hs) hst hil).mono ?_); rw [HO.out]; rintro e9 w9 ⟨hf, ⟨g, rfl, hg⟩⟩; replace HM := HM.fr hf (by omega)))
           exact ⟨rfl, Got.bad HK.out HM ⟨g, rfl, hg⟩⟩
          | ok x k =>
           have HO := Lib.hid ho; have HK : Hid (qAJ s (e + 1) i = .ok (qJx x) k) := Lib.hid (by rw [qJL q7, ho]; rfl); have hks : k ≤ s.size := (qED (by decide) (qDV (qA8 e)) i [] x k ho).2; clear ho; go_enter Tryz.func38, Tryz.ntmps38
           go_wp2_with (first
            | ((with_reducible refine qAG ?_); refine qAO 6 rfl rfl 25 rfl rfl (.tmp 74) rfl _ qAY (KC 4 (.slice none 0 0) (.slice none 0 0)) rfl rfl qAA rfl qId ?_; intro wd hw; have hb := qAD hw; have BG := (qAC hw).1; have hsd := Lib.hid (qAZ hw); clear hw; have l2 := qAW.lt B2; have l3 := qAW.lt B3; have l4 := qAW.lt B4; have lr := HR.lt; have lw := HM.size; replace B2 := qAW.below B2 hb l2; replace B3 := qAW.below B3 hb l3; replace B4 := qAW.below B4 hb l4; replace HR := HR.below hb; replace HM := HM.trans (Mv.of hb); clear hb; replace c1 := HR.c1; replace cr := B2.cell 0; replace cd := B3.cell 0)
            | (refine qAn rfl 68 (.tmp 0) rfl (At r) rfl rfl ?_; intro wa hw; have hb := qAD hw; have B2 := (qAC hw).1; have hsa := Lib.hid (qAC hw).2.1; clear hw; replace HR := HR.below hb; replace HM := HM.trans (Mv.of hb); have n2 := Nat.ne_of_gt h.lt; clear hb)
            | (refine qAn rfl 3 (.tmp 1) rfl (.int .i64 _) rfl rfl ?_; intro wb hw; have hb := qAD hw; have B3 := (qAC hw).1; have hsb := Lib.hid (qAC hw).2.1; clear hw; have n3 := Nat.ne_of_gt HR.lt; replace B2 := zI B2 hb; replace HR := HR.below hb; replace HM := HM.trans (Mv.of hb); clear hb)
            | ((with_reducible refine qAG ?_); refine qAE rfl 25 rfl _ qAY ?_; intro wc hw; have hb := qAD hw; have B4 := qAI hw; have hsc := Lib.hid (qAZ hw); clear hw; have n4 := Nat.ne_of_gt HR.lt; replace B2 := zI B2 hb; replace B3 := zI B3 hb; replace HR := HR.below hb; replace HM := HM.trans (Mv.of hb); clear hb; have c1 := HR.c1; have cr := B2.cell 0; have cd := B3.cell 0)
            | (go_at_call 55; (with_reducible refine (qBC HR).mono ?_); rintro e w1 ⟨rfl, hb⟩; have hm := Mv.of (r := r) hb; have hr4 := HR.below hb; clear hb; replace B2 := B2.mv hm n2; replace B3 := B3.mv hm n3; replace B4 := B4.mv hm n4; replace HM := HM.trans hm; replace HR := hr4; clear hm hr4; replace c1 := HR.c1; replace cr := B2.cell 0; replace cd := B3.cell 0)
            | (go_at_call 59; have HG4 := hG.mv HM; (have s1 := hsa.out; have s2 := hsb.out; have s3 := hsc.out; have s4 := hsd.out;  have hst : (LSt r s w1.heap.size wd.heap.size w1.heap.size w.heap.size wa.heap.size (31 - (e : Int))) i [] _ := ⟨none, 0, [], rfl, Nat.zero_le _, ⟨HR, HG4, BG, B2, B3, World.ownsRow_nil _ _ _ _, (fun y hy => by cases hy), ⟨by omega, Nat.le_refl _, qAW.lt BG, by omega, by omega, by omega, by omega, n2, n3, Nat.le_refl _⟩⟩⟩; clear s1 s2 s3 s4; refine (qE7 60 #[At w1.heap.size, At w.heap.size, At wa.heap.size] 93 (by decide) (by decide) (qAo (qAJ s e)) (LSt r s w1.heap.size wd.heap.size w1.heap.size w.heap.size wa.heap.size (31 - (e : Int))) w1.heap.size r hs (enters_of Tryz.func60 (by kernel_rfl) rfl) (fun i x w h1 => by obtain ⟨A, c, acc, e1, e2, e3⟩ := h1; exact e3.rd) (fun i k x w w' hik h1 h2 h3 => by obtain ⟨A, c, acc, e1, e2, e3⟩ := h1; exact ⟨A, c, acc, e1, Nat.le_trans e2 hik, e3.mv h2 h3⟩) (qDV (qA8 e)) (fun i x w h1 h2 => qI6 hd31 hval h1 h2 hs) hst hil).mono ?_); rw [HO.out]; rintro e9 w9 ⟨hf, rfl, hls⟩; replace HM := HM.fr hf (by omega); obtain ⟨A, c, acc, hx, hlen, HL⟩ := hls; replace B4 := Bes.box hf B4 (fun e => e.elim n4 (fun e => by have e2 : w1.heap.size ≤ wb.heap.size := e; omega)); clear hf)
            | ((with_reducible refine qAR ?_); refine qAL rfl 25 (.tmp 6) rfl _ rfl _ _ _ HL.box Tryz.underlying25 rfl qAA ?_)
            | ((with_reducible refine qAF ?_); refine qAH rfl 25 (.tmp 4) (.tmp 78) rfl _ (qBy A c acc).cells rfl rfl _ _ B4 qAA rfl (qAP _) ?_; intro w5 hw; have hbe := Bes.row (X := fun q => q = wb.heap.size) hw rfl; have h45 : w.heap.size ≤ wb.heap.size := (by have := hsa.out; have := hsb.out; omega); replace HM := HM.put hw h45; replace B4 := qAQ hw B4; clear hw h45))
           have hfin := qMQ HL (by omega); have hlb := HL.st; have s1 := hsa.out; have s2 := hsb.out; have s3 := hsc.out; have s4 := hsd.out; refine bodyPost_ret (qAb rfl _ _ wb.heap.size 25 (qBy A c acc).cells _ rfl B4 Tryz.underlying25 rfl qAA) rfl ?_; exact Got.ok HK.out HM ⟨_, rfl, qAi.bes hbe hfin.1 (Off.mono (fun q e => by have e2 : q = wb.heap.size := e; omega) hfin.2), by rw [qIC, hx]; rfl, Off.mono (fun q e => by omega) hfin.2⟩ (Bes.box hbe HL.rd (fun e => n4 (by have e2 : r = wb.heap.size := e; exact e2.symm)))
        ·by_cases q8 : pk s i = 123
         ·cases d with
          | zero =>
           have HK : Hid (qAJ s 0 i = .bad 4 i) := Lib.hid (qI9 (.inr q8)); go_enter Tryz.func38, Tryz.ntmps38
           go_wp2_with (first
            | (refine qAn rfl 68 (.tmp 0) rfl (At r) rfl rfl ?_; intro wa hw; have hb := qAD hw; have B2 := (qAC hw).1; have hsa := Lib.hid (qAC hw).2.1; clear hw; replace HR := HR.below hb; replace HM := HM.trans (Mv.of hb); have n2 := Nat.ne_of_gt h.lt; clear hb)
            | (refine qAn rfl 3 (.tmp 1) rfl (.int .i64 _) rfl rfl ?_; intro wb hw; have hb := qAD hw; have B3 := (qAC hw).1; have hsb := Lib.hid (qAC hw).2.1; clear hw; have n3 := Nat.ne_of_gt HR.lt; replace B2 := zI B2 hb; replace HR := HR.below hb; replace HM := HM.trans (Mv.of hb); clear hb)
            | ((with_reducible refine qAG ?_); refine qAE rfl 25 rfl _ qAY ?_; intro wc hw; have hb := qAD hw; have B4 := qAI hw; have hsc := Lib.hid (qAZ hw); clear hw; have n4 := Nat.ne_of_gt HR.lt; replace B2 := zI B2 hb; replace B3 := zI B3 hb; replace HR := HR.below hb; replace HM := HM.trans (Mv.of hb); clear hb; have c1 := HR.c1; have cr := B2.cell 0; have cd := B3.cell 0)
            | (go_at_call 55; (with_reducible refine (qBC HR).mono ?_); rintro e w1 ⟨rfl, hb⟩; have hm := Mv.of (r := r) hb; have hr4 := HR.below hb; clear hb; replace B2 := B2.mv hm n2; replace B3 := B3.mv hm n3; replace B4 := B4.mv hm n4; replace HM := HM.trans hm; replace HR := hr4; clear hm hr4; replace c1 := HR.c1; replace cr := B2.cell 0; replace cd := B3.cell 0))
           refine qAc (by kernel_rfl) (fun w8 hHeld => ?_); refine TKB 0 65 ?_ rfl ?_ ?_; rotate_left
           ·(intro w hSw; (try dsimp only at hSw); have := qAB hSw cr; go_simp; try with_reducible rfl)
           (try simp only [Act.put, zA, zB, zC]); refine TKB 1 66 ?_ rfl ?_ ?_; rotate_left
           ·(intro w hSw; (try dsimp only at hSw); have := qAB hSw cr; go_simp; try with_reducible rfl)
           (try simp only [Act.put, zA, zB, zC]); refine TKC 2 67 rfl ?_; (try simp only [Act.put, zA, zB, zC]); refine TKC 3 68 rfl ?_; (try simp only [Act.put, zA, zB, zC]); refine TKB 4 69 ?_ rfl ?_ ?_; rotate_left
           ·(intro w hSw; (try dsimp only at hSw); have := qAB hSw c1; go_simp; try with_reducible rfl)
           (try simp only [Act.put, zA, zB, zC]); refine wpAnyH_ready (rs := [5]) (by kernel_rfl) (by simp) ?_; refine AllReadyH.cons (o := ⟨some 70, _, _, _, _, _⟩) rfl (fun K hK => ?_) AllReadyH.nil; go_simp
           (go_at_call 39; (with_reducible refine (qAz _ _ _ _).mono ?_); rintro e w5 ⟨⟨g, rfl, hg⟩, hb⟩)
           exact ⟨rfl, Got.bad HK.out ((HM.trans (Mv.of hHeld)).trans (Mv.of hb)) ⟨g, rfl, hg⟩⟩
          | succ e =>
           have hval : qEW e := hin e rfl; (have hd31 : e ≤ 31 := by omega); have hil : i < s.size := qC1 q8 (by omega); rw [show (32 - ((e + 1 : Nat) : Int)) = 31 - (e : Int) by omega]; (have hdn : ¬ (31 - (e : Int)) = 32 := by omega); (have hmf : ∀ (fn : Fn) (first cap : Array Value) (w : World), (Instr.makeFunc fn first cap).run Tryz.prog w = .ok (.func fn first cap) w := fun _ _ _ _ => rfl); have hmm := @run_makeMap Tryz.prog
           cases ho : qAx s 125 (qAg s (qAJ s e)) i ([], []) with
           | bad c p =>
            have HO := Lib.hid ho; have HK : Hid (qAJ s (e + 1) i = .bad c p) := Lib.hid (by rw [qMp q8, ho]; rfl); clear ho; go_enter Tryz.func38, Tryz.ntmps38
            go_wp2_with (first
             | ((with_reducible refine qAG ?_); refine qAO 7 rfl rfl 25 rfl rfl (.tmp 79) rfl _ qAY (KC 5 (.slice none 0 0) (.slice none 0 0)) rfl rfl qAA rfl qId ?_; intro wd hw; have hb := qAD hw; have BG := (qAC hw).1; have hsd := Lib.hid (qAZ hw); clear hw; have l2 := qAW.lt B2; have l3 := qAW.lt B3; have l4 := qAW.lt B4; have lr := HR.lt; have lw := HM.size; replace B2 := qAW.below B2 hb l2; replace B3 := qAW.below B3 hb l3; replace B4 := qAW.below B4 hb l4; replace HR := HR.below hb; replace HM := HM.trans (Mv.of hb); clear hb; replace c1 := HR.c1; replace cr := B2.cell 0; replace cd := B3.cell 0)
             | (refine qHA rfl 92 rfl ?_; intro we hw; have hb := (qDc hw).2.2; have BN := (qDc hw).1; have hse := Lib.hid (qDc hw).2.1; clear hw; have l2 := qAW.lt B2; have l3 := qAW.lt B3; have l4 := qAW.lt B4; have lg := qAW.lt BG; replace B2 := qAW.below B2 hb l2; replace B3 := qAW.below B3 hb l3; replace B4 := qAW.below B4 hb l4; replace BG := qAW.below BG hb lg; replace HR := HR.below hb; replace HM := HM.trans (Mv.of hb); clear hb; replace c1 := HR.c1; replace cr := B2.cell 0; replace cd := B3.cell 0)
             | ((with_reducible refine qAG ?_); refine qF6 8 rfl rfl 92 rfl rfl (.tmp 80) rfl (.map none) (fun _ => rfl) rfl (.map (some wd.heap.size)) rfl rfl rfl rfl ?_; intro wf hw; have hb := qAD hw; have BH := (qAC hw).1; have hsf := Lib.hid (qAC hw).2.1; clear hw; have ln := BN.lt; have l2 := qAW.lt B2; have l3 := qAW.lt B3; have l4 := qAW.lt B4; have lg := qAW.lt BG; replace B2 := qAW.below B2 hb l2; replace B3 := qAW.below B3 hb l3; replace B4 := qAW.below B4 hb l4; replace BG := qAW.below BG hb lg; replace HR := HR.below hb; replace HM := HM.trans (Mv.of hb); replace BN := BN.below hb ln; clear hb; replace c1 := HR.c1; replace cr := B2.cell 0; replace cd := B3.cell 0)
             | (refine qAn rfl 68 (.tmp 0) rfl (At r) rfl rfl ?_; intro wa hw; have hb := qAD hw; have B2 := (qAC hw).1; have hsa := Lib.hid (qAC hw).2.1; clear hw; replace HR := HR.below hb; replace HM := HM.trans (Mv.of hb); have n2 := Nat.ne_of_gt h.lt; clear hb)
             | (refine qAn rfl 3 (.tmp 1) rfl (.int .i64 _) rfl rfl ?_; intro wb hw; have hb := qAD hw; have B3 := (qAC hw).1; have hsb := Lib.hid (qAC hw).2.1; clear hw; have n3 := Nat.ne_of_gt HR.lt; replace B2 := zI B2 hb; replace HR := HR.below hb; replace HM := HM.trans (Mv.of hb); clear hb)
             | ((with_reducible refine qAG ?_); refine qAE rfl 25 rfl _ qAY ?_; intro wc hw; have hb := qAD hw; have B4 := qAI hw; have hsc := Lib.hid (qAZ hw); clear hw; have n4 := Nat.ne_of_gt HR.lt; replace B2 := zI B2 hb; replace B3 := zI B3 hb; replace HR := HR.below hb; replace HM := HM.trans (Mv.of hb); clear hb; have c1 := HR.c1; have cr := B2.cell 0; have cd := B3.cell 0)
             | (go_at_call 55; (with_reducible refine (qBC HR).mono ?_); rintro e w1 ⟨rfl, hb⟩; have hm := Mv.of (r := r) hb; have hr4 := HR.below hb; clear hb; replace B2 := B2.mv hm n2; replace B3 := B3.mv hm n3; replace B4 := B4.mv hm n4; replace HM := HM.trans hm; replace HR := hr4; clear hm hr4; replace c1 := HR.c1; replace cr := B2.cell 0; replace cd := B3.cell 0)
             | (go_at_call 59; have HG4 := hG.mv HM; (have s1 := hsa.out; have s2 := hsb.out; have s3 := hsc.out; have s4 := hsd.out; have s5 := hse.out; have s6 := hsf.out; have hst : (OSt r s w1.heap.size wf.heap.size w1.heap.size w.heap.size wa.heap.size we.heap.size wd.heap.size (31 - (e : Int))) i ([], []) _ := ⟨none, 0, [], [], rfl, rfl, rfl, Nat.zero_le _, (fun p hp => by cases hp), ⟨by omega, by omega, by omega, by omega, by omega, by omega, by omega, by omega, by omega⟩, ⟨HR, HG4, BG, B2, B3, World.ownsRow_nil _ _ _ _, (fun y hy => by cases hy), ⟨by omega, Nat.le_refl _, qAW.lt BG, by omega, by omega, by omega, by omega, n2, n3, Nat.le_refl _⟩⟩, BH, BN⟩; clear s1 s2 s3 s4 s5 s6; refine (qE7 61 #[At w.heap.size, At we.heap.size, At w1.heap.size, At wa.heap.size] 125 (by decide) (by decide) (qAg s (qAJ s e)) (OSt r s w1.heap.size wf.heap.size w1.heap.size w.heap.size wa.heap.size we.heap.size wd.heap.size (31 - (e : Int))) w1.heap.size r hs (enters_of Tryz.func61 (by kernel_rfl) rfl) (fun i x w h1 => by obtain ⟨A, c, acc, L, e1, e2, e3, e4, e5, e6, e7, e8, e9⟩ := h1; exact e7.rd) (fun i k x w w' hik h1 h2 h3 => by obtain ⟨A, c, acc, L, e1, e2, e3, e4, e5, e6, e7, e8, e9⟩ := h1; obtain ⟨o1, o2, o3, o4, o5⟩ := e6; have hr0 := e7.st.1; exact ⟨A, c, acc, L, e1, e2, e3, Nat.le_trans e4 hik, e5, ⟨o1, o2, o3, o4, o5⟩, e7.mv h2 h3, e8.mv h2 (by omega), e9.bes h2 (fun q => by have q2 : wd.heap.size = r := q; omega)⟩) (qD5 (qA8 e)) (fun i x w h1 h2 => qLw hd31 hval h1 h2 hs) hst hil).mono ?_); rw [HO.out]; rintro e9 w9 ⟨hf, ⟨g, rfl, hg⟩⟩; replace HM := HM.fr hf (by omega)))
            exact ⟨rfl, Got.bad HK.out HM ⟨g, rfl, hg⟩⟩
           | ok x k =>
            have HO := Lib.hid ho; have HK : Hid (qAJ s (e + 1) i = .ok (qOk x) k) := Lib.hid (by rw [qMp q8, ho]; rfl); have hks : k ≤ s.size := (qED (by decide) (qD5 (qA8 e)) i ([], []) x k ho).2; clear ho; go_enter Tryz.func38, Tryz.ntmps38
            go_wp2_with (first
             | ((with_reducible refine qAG ?_); refine qAO 7 rfl rfl 25 rfl rfl (.tmp 79) rfl _ qAY (KC 5 (.slice none 0 0) (.slice none 0 0)) rfl rfl qAA rfl qId ?_; intro wd hw; have hb := qAD hw; have BG := (qAC hw).1; have hsd := Lib.hid (qAZ hw); clear hw; have l2 := qAW.lt B2; have l3 := qAW.lt B3; have l4 := qAW.lt B4; have lr := HR.lt; have lw := HM.size; replace B2 := qAW.below B2 hb l2; replace B3 := qAW.below B3 hb l3; replace B4 := qAW.below B4 hb l4; replace HR := HR.below hb; replace HM := HM.trans (Mv.of hb); clear hb; replace c1 := HR.c1; replace cr := B2.cell 0; replace cd := B3.cell 0)
             | (refine qHA rfl 92 rfl ?_; intro we hw; have hb := (qDc hw).2.2; have BN := (qDc hw).1; have hse := Lib.hid (qDc hw).2.1; clear hw; have l2 := qAW.lt B2; have l3 := qAW.lt B3; have l4 := qAW.lt B4; have lg := qAW.lt BG; replace B2 := qAW.below B2 hb l2; replace B3 := qAW.below B3 hb l3; replace B4 := qAW.below B4 hb l4; replace BG := qAW.below BG hb lg; replace HR := HR.below hb; replace HM := HM.trans (Mv.of hb); clear hb; replace c1 := HR.c1; replace cr := B2.cell 0; replace cd := B3.cell 0)
             | ((with_reducible refine qAG ?_); refine qF6 8 rfl rfl 92 rfl rfl (.tmp 80) rfl (.map none) (fun _ => rfl) rfl (.map (some wd.heap.size)) rfl rfl rfl rfl ?_; intro wf hw; have hb := qAD hw; have BH := (qAC hw).1; have hsf := Lib.hid (qAC hw).2.1; clear hw; have ln := BN.lt; have l2 := qAW.lt B2; have l3 := qAW.lt B3; have l4 := qAW.lt B4; have lg := qAW.lt BG; replace B2 := qAW.below B2 hb l2; replace B3 := qAW.below B3 hb l3; replace B4 := qAW.below B4 hb l4; replace BG := qAW.below BG hb lg; replace HR := HR.below hb; replace HM := HM.trans (Mv.of hb); replace BN := BN.below hb ln; clear hb; replace c1 := HR.c1; replace cr := B2.cell 0; replace cd := B3.cell 0)
             | (refine qAn rfl 68 (.tmp 0) rfl (At r) rfl rfl ?_; intro wa hw; have hb := qAD hw; have B2 := (qAC hw).1; have hsa := Lib.hid (qAC hw).2.1; clear hw; replace HR := HR.below hb; replace HM := HM.trans (Mv.of hb); have n2 := Nat.ne_of_gt h.lt; clear hb)
             | (refine qAn rfl 3 (.tmp 1) rfl (.int .i64 _) rfl rfl ?_; intro wb hw; have hb := qAD hw; have B3 := (qAC hw).1; have hsb := Lib.hid (qAC hw).2.1; clear hw; have n3 := Nat.ne_of_gt HR.lt; replace B2 := zI B2 hb; replace HR := HR.below hb; replace HM := HM.trans (Mv.of hb); clear hb)
             | ((with_reducible refine qAG ?_); refine qAE rfl 25 rfl _ qAY ?_; intro wc hw; have hb := qAD hw; have B4 := qAI hw; have hsc := Lib.hid (qAZ hw); clear hw; have n4 := Nat.ne_of_gt HR.lt; replace B2 := zI B2 hb; replace B3 := zI B3 hb; replace HR := HR.below hb; replace HM := HM.trans (Mv.of hb); clear hb; have c1 := HR.c1; have cr := B2.cell 0; have cd := B3.cell 0)
             | (go_at_call 55; (with_reducible refine (qBC HR).mono ?_); rintro e w1 ⟨rfl, hb⟩; have hm := Mv.of (r := r) hb; have hr4 := HR.below hb; clear hb; replace B2 := B2.mv hm n2; replace B3 := B3.mv hm n3; replace B4 := B4.mv hm n4; replace HM := HM.trans hm; replace HR := hr4; clear hm hr4; replace c1 := HR.c1; replace cr := B2.cell 0; replace cd := B3.cell 0)
             | (go_at_call 59; have HG4 := hG.mv HM; (have s1 := hsa.out; have s2 := hsb.out; have s3 := hsc.out; have s4 := hsd.out; have s5 := hse.out; have s6 := hsf.out; have hst : (OSt r s w1.heap.size wf.heap.size w1.heap.size w.heap.size wa.heap.size we.heap.size wd.heap.size (31 - (e : Int))) i ([], []) _ := ⟨none, 0, [], [], rfl, rfl, rfl, Nat.zero_le _, (fun p hp => by cases hp), ⟨by omega, by omega, by omega, by omega, by omega, by omega, by omega, by omega, by omega⟩, ⟨HR, HG4, BG, B2, B3, World.ownsRow_nil _ _ _ _, (fun y hy => by cases hy), ⟨by omega, Nat.le_refl _, qAW.lt BG, by omega, by omega, by omega, by omega, n2, n3, Nat.le_refl _⟩⟩, BH, BN⟩; clear s1 s2 s3 s4 s5 s6; refine (qE7 61 #[At w.heap.size, At we.heap.size, At w1.heap.size, At wa.heap.size] 125 (by decide) (by decide) (qAg s (qAJ s e)) (OSt r s w1.heap.size wf.heap.size w1.heap.size w.heap.size wa.heap.size we.heap.size wd.heap.size (31 - (e : Int))) w1.heap.size r hs (enters_of Tryz.func61 (by kernel_rfl) rfl) (fun i x w h1 => by obtain ⟨A, c, acc, L, e1, e2, e3, e4, e5, e6, e7, e8, e9⟩ := h1; exact e7.rd) (fun i k x w w' hik h1 h2 h3 => by obtain ⟨A, c, acc, L, e1, e2, e3, e4, e5, e6, e7, e8, e9⟩ := h1; obtain ⟨o1, o2, o3, o4, o5⟩ := e6; have hr0 := e7.st.1; exact ⟨A, c, acc, L, e1, e2, e3, Nat.le_trans e4 hik, e5, ⟨o1, o2, o3, o4, o5⟩, e7.mv h2 h3, e8.mv h2 (by omega), e9.bes h2 (fun q => by have q2 : wd.heap.size = r := q; omega)⟩) (qD5 (qA8 e)) (fun i x w h1 h2 => qLw hd31 hval h1 h2 hs) hst hil).mono ?_); rw [HO.out]; rintro e9 w9 ⟨hf, rfl, hls⟩; replace HM := HM.fr hf (by omega); obtain ⟨A, c, acc, L, hLl, hLa, hx, hlen, hLn, hOS, HL, _, _⟩ := hls; replace B4 := Bes.box hf B4 (fun e => e.elim n4 (fun e => by have e2 : w1.heap.size ≤ wb.heap.size := e; omega)); clear hf)
             | ((with_reducible refine qAR ?_); refine qAL rfl 25 (.tmp 7) rfl _ rfl _ _ _ HL.box Tryz.underlying25 rfl qAA ?_; (have hcel : KC 5 (.slice none 0 0) (.slice A acc.length c) = (qDD A c L).cells := by rw [qJm, hLl]; rfl); rw [hcel])
             | ((with_reducible refine qAF ?_); refine qAH rfl 25 (.tmp 4) (.tmp 84) rfl _ (qDD A c L).cells rfl rfl _ _ B4 qAA rfl (qAP _) ?_; intro w5 hw; have hbe := Bes.row (X := fun q => q = wb.heap.size) hw rfl; have h45 : w.heap.size ≤ wb.heap.size := (by have := hsa.out; have := hsb.out; omega); replace HM := HM.put hw h45; replace B4 := qAQ hw B4; clear hw h45))
            have hfin := qN1 HL hLl hLa hLn (by omega); have hlb := HL.st; have s1 := hsa.out; have s2 := hsb.out; have s3 := hsc.out; have s4 := hsd.out; have s5 := hse.out; have s6 := hsf.out; refine bodyPost_ret (qAb rfl _ _ wb.heap.size 25 (qDD A c L).cells _ rfl B4 Tryz.underlying25 rfl qAA) rfl ?_; exact Got.ok HK.out HM ⟨_, rfl, qAi.bes hbe hfin.1 (Off.mono (fun q e => by have e2 : q = wb.heap.size := e; omega) hfin.2), by rw [qGD, hx]; rfl, Off.mono (fun q e => by omega) hfin.2⟩ (Bes.box hbe HL.rd (fun e => n4 (by have e2 : r = wb.heap.size := e; exact e2.symm)))
         ·(have q7b : (pk s i != 91) = true := by simpa using q7); (have q8b : (pk s i != 123) = true := by simpa using q8); have HK : Hid (qAJ s d i = .bad 3 i) := Lib.hid (qMt q1 q2 q3 hnd q6 q7 q8); go_enter Tryz.func38, Tryz.ntmps38
          go_wp2_with (first
           | (refine qAn rfl 68 (.tmp 0) rfl (At r) rfl rfl ?_; intro wa hw; have hb := qAD hw; have B2 := (qAC hw).1; have hsa := Lib.hid (qAC hw).2.1; clear hw; replace HR := HR.below hb; replace HM := HM.trans (Mv.of hb); have n2 := Nat.ne_of_gt h.lt; clear hb)
           | (refine qAn rfl 3 (.tmp 1) rfl (.int .i64 _) rfl rfl ?_; intro wb hw; have hb := qAD hw; have B3 := (qAC hw).1; have hsb := Lib.hid (qAC hw).2.1; clear hw; have n3 := Nat.ne_of_gt HR.lt; replace B2 := zI B2 hb; replace HR := HR.below hb; replace HM := HM.trans (Mv.of hb); clear hb)
           | ((with_reducible refine qAG ?_); refine qAE rfl 25 rfl _ qAY ?_; intro wc hw; have hb := qAD hw; have B4 := qAI hw; have hsc := Lib.hid (qAZ hw); clear hw; have n4 := Nat.ne_of_gt HR.lt; replace B2 := zI B2 hb; replace B3 := zI B3 hb; replace HR := HR.below hb; replace HM := HM.trans (Mv.of hb); clear hb; have c1 := HR.c1; have cr := B2.cell 0; have cd := B3.cell 0)
           | (go_at_call 55; (with_reducible refine (qBC HR).mono ?_); rintro e w1 ⟨rfl, hb⟩; have hm := Mv.of (r := r) hb; have hr4 := HR.below hb; clear hb; replace B2 := B2.mv hm n2; replace B3 := B3.mv hm n3; replace B4 := B4.mv hm n4; replace HM := HM.trans hm; replace HR := hr4; clear hm hr4; replace c1 := HR.c1; replace cr := B2.cell 0; replace cd := B3.cell 0))
          refine qAc (by kernel_rfl) (fun w8 hHeld => ?_); refine TKB 0 56 ?_ rfl ?_ ?_; rotate_left
          ·(intro w hSw; (try dsimp only at hSw); have := qAB hSw cr; go_simp; try with_reducible rfl)
          (try simp only [Act.put, zA, zB, zC]); refine TKB 1 57 ?_ rfl ?_ ?_; rotate_left
          ·(intro w hSw; (try dsimp only at hSw); have := qAB hSw cr; go_simp; try with_reducible rfl)
          (try simp only [Act.put, zA, zB, zC]); refine TKC 2 58 rfl ?_; (try simp only [Act.put, zA, zB, zC]); refine TKC 3 59 rfl ?_; (try simp only [Act.put, zA, zB, zC]); refine TKB 4 60 ?_ rfl ?_ ?_; rotate_left
          ·(intro w hSw; (try dsimp only at hSw); have := qAB hSw c1; go_simp; try with_reducible rfl)
          (try simp only [Act.put, zA, zB, zC]); refine wpAnyH_ready (rs := [5]) (by kernel_rfl) (by simp) ?_; refine AllReadyH.cons (o := ⟨some 61, _, _, _, _, _⟩) rfl (fun K hK => ?_) AllReadyH.nil; go_simp
          (go_at_call 39; (with_reducible refine (qAz _ _ _ _).mono ?_); rintro e w5 ⟨⟨g, rfl, hg⟩, hb⟩)
          exact ⟨rfl, Got.bad HK.out ((HM.trans (Mv.of hHeld)).trans (Mv.of hb)) ⟨g, rfl, hg⟩⟩
     ·have hnd : ¬ (pk s i = 45 ∨ qBa (pk s i) = true) := fun h => h.elim q4 (fun h => by unfold qBa at h; rw [decide_eq_false p48] at h; simp at h)
      by_cases q6 : pk s i = 34
      ·have hil : i < s.size := qC1 q6 (by omega)
       cases ho : qBK s i with
       | bad c p =>
        have HO := Lib.hid ho; have HK : Hid (qAJ s d i = .bad c p) := Lib.hid (by rw [qJM q6]; rw [ho]; rfl); clear ho; go_enter Tryz.func38, Tryz.ntmps38
        go_wp2_with (first
         | (refine qAn rfl 68 (.tmp 0) rfl (At r) rfl rfl ?_; intro wa hw; have hb := qAD hw; have B2 := (qAC hw).1; have hsa := Lib.hid (qAC hw).2.1; clear hw; replace HR := HR.below hb; replace HM := HM.trans (Mv.of hb); have n2 := Nat.ne_of_gt h.lt; clear hb)
         | (refine qAn rfl 3 (.tmp 1) rfl (.int .i64 _) rfl rfl ?_; intro wb hw; have hb := qAD hw; have B3 := (qAC hw).1; have hsb := Lib.hid (qAC hw).2.1; clear hw; have n3 := Nat.ne_of_gt HR.lt; replace B2 := zI B2 hb; replace HR := HR.below hb; replace HM := HM.trans (Mv.of hb); clear hb)
         | ((with_reducible refine qAG ?_); refine qAE rfl 25 rfl _ qAY ?_; intro wc hw; have hb := qAD hw; have B4 := qAI hw; have hsc := Lib.hid (qAZ hw); clear hw; have n4 := Nat.ne_of_gt HR.lt; replace B2 := zI B2 hb; replace B3 := zI B3 hb; replace HR := HR.below hb; replace HM := HM.trans (Mv.of hb); clear hb; have c1 := HR.c1; have cr := B2.cell 0; have cd := B3.cell 0)
         | (go_at_call 55; (with_reducible refine (qBC HR).mono ?_); rintro e w1 ⟨rfl, hb⟩; have hm := Mv.of (r := r) hb; have hr4 := HR.below hb; clear hb; replace B2 := B2.mv hm n2; replace B3 := B3.mv hm n3; replace B4 := B4.mv hm n4; replace HM := HM.trans hm; replace HR := hr4; clear hm hr4; replace c1 := HR.c1; replace cr := B2.cell 0; replace cd := B3.cell 0)
         | (go_at_call 58; (have HG4 := hG.mv HM); refine (qDA HR HG4 hil hs).mono ?_; rw [HO.out]; rintro e w4 ⟨hm, ⟨g, rfl, hg⟩⟩; replace HM := HM.trans hm))
        exact ⟨rfl, Got.bad HK.out HM ⟨g, rfl, hg⟩⟩
       | ok x k =>
        have HO := Lib.hid ho; have HK : Hid (qAJ s d i = .ok (qKb x) k) := Lib.hid (by rw [qJM q6]; rw [ho]; rfl); (have hxr : x.size ≤ qAy := by have := qHV ho hil; unfold qAy; omega); clear ho; go_enter Tryz.func38, Tryz.ntmps38
        go_wp2_with (first
         | (refine qAn rfl 68 (.tmp 0) rfl (At r) rfl rfl ?_; intro wa hw; have hb := qAD hw; have B2 := (qAC hw).1; have hsa := Lib.hid (qAC hw).2.1; clear hw; replace HR := HR.below hb; replace HM := HM.trans (Mv.of hb); have n2 := Nat.ne_of_gt h.lt; clear hb)
         | (refine qAn rfl 3 (.tmp 1) rfl (.int .i64 _) rfl rfl ?_; intro wb hw; have hb := qAD hw; have B3 := (qAC hw).1; have hsb := Lib.hid (qAC hw).2.1; clear hw; have n3 := Nat.ne_of_gt HR.lt; replace B2 := zI B2 hb; replace HR := HR.below hb; replace HM := HM.trans (Mv.of hb); clear hb)
         | ((with_reducible refine qAG ?_); refine qAE rfl 25 rfl _ qAY ?_; intro wc hw; have hb := qAD hw; have B4 := qAI hw; have hsc := Lib.hid (qAZ hw); clear hw; have n4 := Nat.ne_of_gt HR.lt; replace B2 := zI B2 hb; replace B3 := zI B3 hb; replace HR := HR.below hb; replace HM := HM.trans (Mv.of hb); clear hb; have c1 := HR.c1; have cr := B2.cell 0; have cd := B3.cell 0)
         | (go_at_call 55; (with_reducible refine (qBC HR).mono ?_); rintro e w1 ⟨rfl, hb⟩; have hm := Mv.of (r := r) hb; have hr4 := HR.below hb; clear hb; replace B2 := B2.mv hm n2; replace B3 := B3.mv hm n3; replace B4 := B4.mv hm n4; replace HM := HM.trans hm; replace HR := hr4; clear hm hr4; replace c1 := HR.c1; replace cr := B2.cell 0; replace cd := B3.cell 0)
         | (go_at_call 58; (have HG4 := hG.mv HM); refine (qDA HR HG4 hil hs).mono ?_; rw [HO.out]; rintro e w4 ⟨hm, rfl, hr4⟩; replace B2 := B2.mv hm n2; replace B3 := B3.mv hm n3; replace B4 := B4.mv hm n4; replace HM := HM.trans hm; replace HR := hr4; clear hm hr4; replace c1 := HR.c1; replace cr := B2.cell 0; replace cd := B3.cell 0)
         | ((with_reducible refine qAF ?_); refine qAH rfl 25 (.tmp 4) (.tmp 48) rfl _ (qBG 3 false 0 x).cells rfl rfl _ _ B4 qAA rfl (qAP _) ?_; intro w5 hw; have h45 : w.heap.size ≤ wb.heap.size := (by have := hsa.out; have := hsb.out; omega); replace HR := Bes.box (Bes.row (X := fun q => q = wb.heap.size) hw rfl) HR (fun e => n4 (by have e2 : r = wb.heap.size := e; exact e2.symm)); replace HM := HM.put hw h45; replace B4 := qAQ hw B4; clear hw h45))
        refine bodyPost_ret (qAb rfl _ _ wb.heap.size 25 (qBG 3 false 0 x).cells _ rfl B4 Tryz.underlying25 rfl qAA) rfl ?_; exact Got.ok HK.out HM ⟨_, rfl, qDT _ _ qOU mi0 hxr⟩ HR
      ·by_cases q7 : pk s i = 91
       ·exact absurd q7 (by omega)
       ·by_cases q8 : pk s i = 123
        ·exact absurd q8 (by omega)
        ·(have q7b : (pk s i != 91) = true := by simpa using q7); (have q8b : (pk s i != 123) = true := by simpa using q8); have HK : Hid (qAJ s d i = .bad 3 i) := Lib.hid (qMt q1 q2 q3 hnd q6 q7 q8); go_enter Tryz.func38, Tryz.ntmps38
         go_wp2_with (first
          | (refine qAn rfl 68 (.tmp 0) rfl (At r) rfl rfl ?_; intro wa hw; have hb := qAD hw; have B2 := (qAC hw).1; have hsa := Lib.hid (qAC hw).2.1; clear hw; replace HR := HR.below hb; replace HM := HM.trans (Mv.of hb); have n2 := Nat.ne_of_gt h.lt; clear hb)
          | (refine qAn rfl 3 (.tmp 1) rfl (.int .i64 _) rfl rfl ?_; intro wb hw; have hb := qAD hw; have B3 := (qAC hw).1; have hsb := Lib.hid (qAC hw).2.1; clear hw; have n3 := Nat.ne_of_gt HR.lt; replace B2 := zI B2 hb; replace HR := HR.below hb; replace HM := HM.trans (Mv.of hb); clear hb)
          | ((with_reducible refine qAG ?_); refine qAE rfl 25 rfl _ qAY ?_; intro wc hw; have hb := qAD hw; have B4 := qAI hw; have hsc := Lib.hid (qAZ hw); clear hw; have n4 := Nat.ne_of_gt HR.lt; replace B2 := zI B2 hb; replace B3 := zI B3 hb; replace HR := HR.below hb; replace HM := HM.trans (Mv.of hb); clear hb; have c1 := HR.c1; have cr := B2.cell 0; have cd := B3.cell 0)
          | (go_at_call 55; (with_reducible refine (qBC HR).mono ?_); rintro e w1 ⟨rfl, hb⟩; have hm := Mv.of (r := r) hb; have hr4 := HR.below hb; clear hb; replace B2 := B2.mv hm n2; replace B3 := B3.mv hm n3; replace B4 := B4.mv hm n4; replace HM := HM.trans hm; replace HR := hr4; clear hm hr4; replace c1 := HR.c1; replace cr := B2.cell 0; replace cd := B3.cell 0))
         refine qAc (by kernel_rfl) (fun w8 hHeld => ?_); refine TKB 0 56 ?_ rfl ?_ ?_; rotate_left
         ·(intro w hSw; (try dsimp only at hSw); have := qAB hSw cr; go_simp; try with_reducible rfl)
         (try simp only [Act.put, zA, zB, zC]); refine TKB 1 57 ?_ rfl ?_ ?_; rotate_left
         ·(intro w hSw; (try dsimp only at hSw); have := qAB hSw cr; go_simp; try with_reducible rfl)
         (try simp only [Act.put, zA, zB, zC]); refine TKC 2 58 rfl ?_; (try simp only [Act.put, zA, zB, zC]); refine TKC 3 59 rfl ?_; (try simp only [Act.put, zA, zB, zC]); refine TKB 4 60 ?_ rfl ?_ ?_; rotate_left
         ·(intro w hSw; (try dsimp only at hSw); have := qAB hSw c1; go_simp; try with_reducible rfl)
         (try simp only [Act.put, zA, zB, zC]); refine wpAnyH_ready (rs := [5]) (by kernel_rfl) (by simp) ?_; refine AllReadyH.cons (o := ⟨some 61, _, _, _, _, _⟩) rfl (fun K hK => ?_) AllReadyH.nil; go_simp
         (go_at_call 39; (with_reducible refine (qAz _ _ _ _).mono ?_); rintro e w5 ⟨⟨g, rfl, hg⟩, hb⟩)
         exact ⟨rfl, Got.bad HK.out ((HM.trans (Mv.of hHeld)).trans (Mv.of hb)) ⟨g, rfl, hg⟩⟩
end Go.Proofs.YtnjhmnolngdfaaaGreatDoor
