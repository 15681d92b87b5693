/- Layer 2: a value told (coveyref02.Plain), walked. -/
import Derived.Test.YtjhncopbiblenaaGreatDoorBlB
import Derived.Test.YtjhncopbiblenaaGreatDoorBlD
import Derived.Test.YtjhncopbiblenaaGreatDoorJvB
namespace Go.Proofs.YtjhncopbiblenaaGreatDoor
open Go.RowKit Go.PlainAid
set_option linter.unusedVariables false
set_option linter.unusedSimpArgs false
mutual
/-- As Plain tells it: nothing more once there are more than 65536 bytes. -/
def plX (G : List UInt8) : JT → List UInt8 → List UInt8
  | .mk k b i t l ns vs, a =>
    if 65536 < a.length then a
    else if k = 0 then a ++ nullL else if k = 1 then a ++ (if b = true then trueL else falseL) else if k = 2 then a ++ figL i else if k = 3 then a ++ quo t
    else if k = 4 then plXL G true l (a ++ [91]) ++ [93] else plXF G true ns vs (a ++ [123]) ++ [125]
def plXL (G : List UInt8) : Bool → List JT → List UInt8 → List UInt8
  | _, [], a => a
  | f, x :: r, a => plXL G false r (plX G x ((if f = true then a else a ++ [44]) ++ G) ++ G)
def plXF (G : List UInt8) : Bool → List ByteArray → List JT → List UInt8 → List UInt8
  | f, n :: ns, x :: vs, a => plXF G false ns vs (plX G x ((((((if f = true then a else a ++ [44]) ++ G) ++ quo n) ++ G) ++ [58]) ++ G) ++ G)
  | _, [], _, a => a
  | _, _ :: _, [], a => a
end
/-- r is p behind a, or both are too long. -/
def PlR (a p r : List UInt8) : Prop := (r = a ++ p ∨ (65536 < r.length ∧ 65536 < a.length + p.length)) ∧ r.length ≤ a.length + p.length ∧ a.length ≤ r.length
theorem PlR.add {a p r q : List UInt8} (h : PlR a p r) : PlR a (p ++ q) (r ++ q) := by
  obtain ⟨h1, h2, h3⟩ := h
  refine ⟨?_, by simp; omega, by simp; omega⟩
  rcases h1 with h1 | ⟨h1, h4⟩
  · left; rw [h1, List.append_assoc]
  · right; exact ⟨by simp; omega, by simp; omega⟩
theorem PlR.seq {a p r q r2 : List UInt8} (h : PlR a p r) (k : PlR r q r2) : PlR a (p ++ q) r2 := by
  obtain ⟨h1, h2, h3⟩ := h
  obtain ⟨k1, k2, k3⟩ := k
  refine ⟨?_, by simp; omega, by omega⟩
  rcases h1 with h1 | ⟨h1, h4⟩
  · rcases k1 with k1 | ⟨k1, k4⟩
    · left; rw [k1, h1, List.append_assoc]
    · right; exact ⟨k1, by simp; omega⟩
  · right; exact ⟨by omega, by simp; omega⟩
theorem PlR.rfl {a : List UInt8} (q : List UInt8) : PlR a q (a ++ q) := ⟨.inl _root_.rfl, by simp, by simp⟩
mutual
theorem plX_is (G : List UInt8) : ∀ (t : JT) (a : List UInt8), PlR a (pr G t) (plX G t a)
  | .mk k b i t l ns vs, a => by
    by_cases h : 65536 < a.length
    · unfold plX
      rw [if_pos h]
      exact ⟨.inr ⟨h, by omega⟩, by omega, Nat.le_refl _⟩
    · unfold plX pr
      rw [if_neg h]
      split
      · exact PlR.rfl _
      · split
        · exact PlR.rfl _
        · split
          · exact PlR.rfl _
          · split
            · exact PlR.rfl _
            · split
              · have h1 := PlR.add (q := [93]) (plXL_is G l true (a ++ [91]))
                exact (PlR.rfl [91]).seq h1
              · have h1 := PlR.add (q := [125]) (plXF_is G ns vs true (a ++ [123]))
                exact (PlR.rfl [123]).seq h1
theorem plXL_is (G : List UInt8) : ∀ (l : List JT) (f : Bool) (a : List UInt8), PlR a (prL G f l) (plXL G f l a)
  | [], f, a => by
    unfold plXL prL
    exact ⟨.inl (by simp), by simp, Nat.le_refl _⟩
  | x :: r, f, a => by
    unfold plXL prL
    have h0 : PlR a (if f = true then [] else [44]) (if f = true then a else a ++ [44]) := by
      split
      · exact ⟨.inl (by simp), by simp, Nat.le_refl _⟩
      · exact PlR.rfl _
    have h1 := h0.add (q := G)
    have h2 := h1.seq (plX_is G x _)
    have h3 := h2.add (q := G)
    have h4 := h3.seq (plXL_is G r false _)
    simpa only [List.append_assoc] using h4
theorem plXF_is (G : List UInt8) : ∀ (ns : List ByteArray) (vs : List JT) (f : Bool) (a : List UInt8), PlR a (prF G f ns vs) (plXF G f ns vs a)
  | [], vs, f, a => by
    unfold plXF prF
    exact ⟨.inl (by simp), by simp, Nat.le_refl _⟩
  | n :: ns, [], f, a => by
    unfold plXF prF
    exact ⟨.inl (by simp), by simp, Nat.le_refl _⟩
  | n :: ns, x :: vs, f, a => by
    unfold plXF prF
    have h0 : PlR a (if f = true then [] else [44]) (if f = true then a else a ++ [44]) := by
      split
      · exact ⟨.inl (by simp), by simp, Nat.le_refl _⟩
      · exact PlR.rfl _
    have h1 := ((((h0.add (q := G)).add (q := quo n)).add (q := G)).add (q := [58])).add (q := G)
    have h2 := h1.seq (plX_is G x _)
    have h3 := h2.add (q := G)
    have h4 := h3.seq (plXF_is G ns vs false _)
    simpa only [List.append_assoc, List.cons_append, List.nil_append] using h4
end
theorem er_mk (j : JV) : er j = .mk j.v.kind j.v.b j.v.i j.v.t (erL j.l) j.ns (erL j.vs) := by
  obtain ⟨v, l, ns, vs⟩ := j
  unfold er
  rfl
theorem KB.bes {base : Nat} {w w' : World} (h : KB base w w') : Bes (fun q => base ≤ q) w w' := ⟨h.1.os, h.1.tape, h.1.output, h.1.size, fun k hk hn => h.1.block k (by omega)⟩
theorem jv_kb {base : Nat} {w w' : World} (h : KB base w w') {j : JV} (hj : IsJV w j) (ho : Off (fun q => base ≤ q) j) : IsJV w' j := IsJV.bes h.bes hj ho
theorem range_kb {base : Nat} {w w' : World} (h : KB base w w') {b off : Nat} {cs : List Value} (hr : w.rangeAt b off cs) (hb : b < base) : w'.rangeAt b off cs := fun j v hv => by
  rw [World.cell?_of_block (h.1.block b hb)]
  exact hr j v hv
theorem cell_kb {base : Nat} {w w' : World} (h : KB base w w') {b off : Nat} {v : Value} (hr : w.cell? ⟨b, off, none⟩ = some v) (hb : b < base) : w'.cell? ⟨b, off, none⟩ = some v := by
  rw [World.cell?_of_block (h.1.block b hb)]
  exact hr
theorem off_parts {X : Nat → Prop} {j : JV} (h : Off X j) : (∀ (i : Nat) (x : JV), j.l[i]? = some x → Off X x ∧ ∀ a, j.v.LA = some a → ¬ X a.block) ∧ (∀ (i : Nat) (x : JV), j.vs[i]? = some x → Off X x ∧ ∀ a, j.v.FA = some a → ¬ X a.block) := by
  have key : ∀ l : List JV, OffL X l → ∀ x ∈ l, Off X x := by
    intro l
    induction l with
    | nil => intro _ x hx; cases hx
    | cons y r ih =>
      intro h x hx
      unfold OffL at h
      rcases List.mem_cons.1 hx with rfl | hx
      · exact h.1
      · exact ih h.2 x hx
  obtain ⟨v, l, ns, vs⟩ := j
  unfold Off at h
  refine ⟨fun i x hx => ⟨key l h.2.2.1 x (List.mem_of_getElem? hx), h.1 (fun e => ?_)⟩, fun i x hx => ⟨key vs h.2.2.2 x (List.mem_of_getElem? hx), h.2.1 (fun e => ?_)⟩⟩
  · have e2 : l = [] := e
    have hx2 : l[i]? = some x := hx
    rw [e2] at hx2; simp at hx2
  · have e2 : vs = [] := e
    have hx2 : vs[i]? = some x := hx
    rw [e2] at hx2; simp at hx2
theorem own_slice {w : World} {base : Nat} {v : Value} {l : List UInt8} (h : OwnB w base v l) : ∃ A c, v = .slice A l.length c := by
  rcases h.2 with ⟨rfl, h0⟩ | ⟨g, cap, cur, rfl, _⟩
  · exact ⟨_, _, by rw [h0]⟩
  · exact ⟨_, _, rfl⟩
theorem plXL_step {G : List UInt8} {l : List JV} {q : Nat} {x : JV} {a : List UInt8} (hx : l[q]? = some x) : plXL G (q == 0) ((erL l).drop q) a = plXL G (q + 1 == 0) ((erL l).drop (q + 1)) (plX G (er x) ((if q = 0 then a else a ++ [44]) ++ G) ++ G) ∧ prL G (q == 0) ((erL l).drop q) = (if q = 0 then [] else [44]) ++ (G ++ (pr G (er x) ++ (G ++ prL G (q + 1 == 0) ((erL l).drop (q + 1))))) := by
  have hl := (List.getElem?_eq_some_iff.1 hx).1
  have h1 : (erL l).drop q = er x :: (erL l).drop (q + 1) := by
    rw [erL_map, List.drop_eq_getElem_cons (by rw [List.length_map]; exact hl)]
    congr 1
    obtain ⟨_, e⟩ := List.getElem?_eq_some_iff.1 hx
    rw [List.getElem_map, e]
  rw [h1, plXL, prL]
  cases q <;> simp
theorem plXF_step {G : List UInt8} {ns : List ByteArray} {vs : List JV} {q : Nat} {nm : ByteArray} {x : JV} {a : List UInt8} (hn : ns[q]? = some nm) (hx : vs[q]? = some x) : plXF G (q == 0) (ns.drop q) ((erL vs).drop q) a = plXF G (q + 1 == 0) (ns.drop (q + 1)) ((erL vs).drop (q + 1)) (plX G (er x) ((((((if q = 0 then a else a ++ [44]) ++ G) ++ quo nm) ++ G) ++ [58]) ++ G) ++ G) ∧ prF G (q == 0) (ns.drop q) ((erL vs).drop q) = (if q = 0 then [] else [44]) ++ (G ++ (quo nm ++ (G ++ (58 :: (G ++ (pr G (er x) ++ (G ++ prF G (q + 1 == 0) (ns.drop (q + 1)) ((erL vs).drop (q + 1)))))))) ) := by
  have hl := (List.getElem?_eq_some_iff.1 hx).1
  obtain ⟨hl2, e2⟩ := List.getElem?_eq_some_iff.1 hn
  have h1 : (erL vs).drop q = er x :: (erL vs).drop (q + 1) := by
    rw [erL_map, List.drop_eq_getElem_cons (by rw [List.length_map]; exact hl)]
    congr 1
    obtain ⟨_, e⟩ := List.getElem?_eq_some_iff.1 hx
    rw [List.getElem_map, e]
  have h2 : ns.drop q = nm :: ns.drop (q + 1) := by rw [List.drop_eq_getElem_cons hl2, e2]
  rw [h1, h2, plXF, prF]
  cases q <;> simp
theorem quo_size (t : ByteArray) : t.size ≤ (quo t).length := by
  have key : ∀ l : List UInt8, l.length ≤ (quoB l).length := by
    intro l
    induction l with
    | nil => simp
    | cons c r ih =>
      have := qb_pos c
      unfold quoB at *
      rw [List.flatMap_cons, List.length_append, List.length_cons]
      omega
  unfold quo
  have := key t.data.toList
  have e : t.data.toList.length = t.size := by simp
  simp
  omega
theorem v_ne : 26 ≠ 5 := by decide
def plTop : Nat := 1099511627776
set_option maxRecDepth 100000 in
set_option maxHeartbeats 8000000 in
theorem pl_to (sz : Nat) (g : ByteArray) : ∀ (j : JV) (base : Nat) (v : Value) (l : List UInt8) (w : World), SizeOf.sizeOf j < sz → IsJV w j → Off (fun q => base ≤ q) j → OwnB w base v l → base ≤ w.heap.size → l.length + (pr g.data.toList (er j)).length ≤ plTop →
    Calls Tryz.prog 13 #[v, .agg j.cells, .string g] w (AddB base (plX g.data.toList (er j) l) w) := by
  induction sz with
  | zero => intro j base v l w h; omega
  | succ sz ih =>
    intro j base v l w hsz HJ hoj HO hbz0 htot
    obtain ⟨l1, l2, l3, l4, l5⟩ := jv_lens HJ
    obtain ⟨ie, hie1, hie2, hie3, hie4⟩ := u8_info
    have hi64 : I64 j.v.i := by obtain ⟨v, _, _, _⟩ := j; unfold IsJV at HJ; exact HJ.1.2.1
    obtain ⟨o1, o2⟩ := off_parts hoj
    have HI := Lib.hid hi64
    have HOJ := Lib.hid hoj
    have HO1 := Lib.hid o1
    have HO2 := Lib.hid o2
    have LL := Lib.hid l1
    have LV := Lib.hid l2
    have LN := Lib.hid l3
    have SZ := Lib.hid hsz
    have IH := Lib.hid ih
    have hgl : g.size = g.data.toList.length := by simp
    have HGL := Lib.hid hgl
    obtain ⟨G, hG⟩ : ∃ G, G = g.data.toList := ⟨_, rfl⟩
    rw [← hG] at htot ⊢
    have HG := Lib.hid hG
    have hex : plX G (er j) l = if 65536 < l.length then l
        else if j.v.kind = 0 then l ++ nullL else if j.v.kind = 1 then l ++ (if j.v.b = true then trueL else falseL) else if j.v.kind = 2 then l ++ figL j.v.i else if j.v.kind = 3 then l ++ quo j.v.t
        else if j.v.kind = 4 then plXL G true (erL j.l) (l ++ [91]) ++ [93] else plXF G true j.ns (erL j.vs) (l ++ [123]) ++ [125] := by rw [er_mk]; unfold plX; rfl
    have hpx : pr G (er j) = if j.v.kind = 0 then nullL else if j.v.kind = 1 then (if j.v.b = true then trueL else falseL) else if j.v.kind = 2 then figL j.v.i else if j.v.kind = 3 then quo j.v.t
        else if j.v.kind = 4 then 91 :: (prL G true (erL j.l) ++ [93]) else 123 :: (prF G true j.ns (erL j.vs) ++ [125]) := by rw [er_mk]; unfold pr; rfl
    unfold plTop at htot
    have HTOT := Lib.hid htot
    clear ih l1 l2 l3 hsz hoj hi64 o1 o2 hgl hG
    have hbz := hbz0
    have HB := KB.refl hbz0
    obtain ⟨A, cp, hv⟩ := own_slice HO
    subst hv
    by_cases h65 : 65536 < l.length
    · have HK : Hid (plX G (er j) l = l) := Lib.hid (by rw [hex, if_pos h65])
      have h65' : (65536 : Int) < (l.length : Int) := by omega
      clear hex hpx
      go_enter Tryz.func13, Tryz.ntmps13
      go_wp2_with (first
        | (refine wpl_box_at rfl 26 (.tmp 1) rfl _ rfl ?_; intro w1 hw; have hkb := KB.of (base := base) (hid_grow hw) hbz; have B4 := (hid_alloc hw).1; replace HO := HO.below (hid_grow hw); replace HJ := jv_kb hkb HJ HOJ.out; replace HB := HB.trans hkb; replace hbz := HB.up hbz0; clear hkb hw; have c4_0 : w1.cell? ⟨_, 0, none⟩ = some (.int .i64 j.v.kind) := (B4.cell 0).trans (by rfl); have c4_1 : w1.cell? ⟨_, 1, none⟩ = some (.bool j.v.b) := B4.cell 1; have c4_2 : w1.cell? ⟨_, 2, none⟩ = some (.int .i64 j.v.i) := B4.cell 2; have c4_3 : w1.cell? ⟨_, 3, none⟩ = some (.string j.v.t) := B4.cell 3; have c4_4 : w1.cell? ⟨_, 4, none⟩ = some (.slice j.v.LA j.v.Ln j.v.Lc) := B4.cell 4; have c4_5 : w1.cell? ⟨_, 5, none⟩ = some (.slice j.v.FA j.v.Fn j.v.Fc) := B4.cell 5))
      go_ret
      exact AddB.of HO HK.out HB
    · have h65' : ¬ (65536 : Int) < (l.length : Int) := by omega
      rw [if_neg h65] at hex
      by_cases hk0 : j.v.kind = 0
      · have HK : Hid (plX G (er j) l = l ++ nullL) := Lib.hid (by rw [hex, if_pos hk0])
        have HKD := Lib.hid hk0
        clear hk0 hex hpx
        go_enter Tryz.func13, Tryz.ntmps13
        go_wp2_with (first
          | (refine wpl_box_at rfl 26 (.tmp 1) rfl _ rfl ?_; intro w1 hw; have hkb := KB.of (base := base) (hid_grow hw) hbz; have B4 := (hid_alloc hw).1; replace HO := HO.below (hid_grow hw); replace HJ := jv_kb hkb HJ HOJ.out; replace HB := HB.trans hkb; replace hbz := HB.up hbz0; clear hkb hw; have c4_0 : w1.cell? ⟨_, 0, none⟩ = some (.int .i64 0) := (B4.cell 0).trans (by rw [← HKD.out]; rfl); have c4_1 : w1.cell? ⟨_, 1, none⟩ = some (.bool j.v.b) := B4.cell 1; have c4_2 : w1.cell? ⟨_, 2, none⟩ = some (.int .i64 j.v.i) := B4.cell 2; have c4_3 : w1.cell? ⟨_, 3, none⟩ = some (.string j.v.t) := B4.cell 3; have c4_4 : w1.cell? ⟨_, 4, none⟩ = some (.slice j.v.LA j.v.Ln j.v.Lc) := B4.cell 4; have c4_5 : w1.cell? ⟨_, 5, none⟩ = some (.slice j.v.FA j.v.Fn j.v.Fc) := B4.cell 5)
          | (refine wpl_append_text rfl (.tmp 17) (.const (.string ⟨#[110, 117, 108, 108]⟩)) 42 9 rfl Tryz.underlying42 Tryz.underlying9 base _ _ rfl HO ⟨#[110, 117, 108, 108]⟩ rfl (by show l.length + 4 ≤ _; omega) hbz ?_; intro v10 w10 ho10 hkb; replace HO := ho10; clear ho10; (try replace HJ := jv_kb hkb HJ HOJ.out); (try replace HX := jv_kb hkb HX HOX.out); (try replace RX := range_kb hkb RX hbl); (try replace n1 := cell_kb hkb n1 hbl); (try replace B4 := hkb.2 _ _ _ v_ne B4); (try replace c4_4 : World.cell? _ ⟨_, 4, none⟩ = some (.slice j.v.LA j.v.Ln j.v.Lc) := B4.cell 4); (try replace c4_5 : World.cell? _ ⟨_, 5, none⟩ = some (.slice j.v.FA j.v.Fn j.v.Fc) := B4.cell 5); (try rw [HA.out] at c4_4); (try rw [HA5.out] at c4_5); (try replace HBW := HBW.trans hkb); replace HB := HB.trans hkb; clear hkb; replace hbz := HB.up hbz0))
        go_ret
        exact AddB.of HO (by first | exact HK.out | (rw [HK.out]; rfl)) HB
      · by_cases hk1 : j.v.kind = 1
        · cases hb : j.v.b
          · have HK : Hid (plX G (er j) l = l ++ falseL) := Lib.hid (by rw [hex, if_neg hk0, if_pos hk1, hb]; rfl)
            have HKD := Lib.hid hk1
            have HBB := Lib.hid hb
            clear hk0 hk1 hex hpx hb
            go_enter Tryz.func13, Tryz.ntmps13
            go_wp2_with (first
              | (refine wpl_box_at rfl 26 (.tmp 1) rfl _ rfl ?_; intro w1 hw; have hkb := KB.of (base := base) (hid_grow hw) hbz; have B4 := (hid_alloc hw).1; replace HO := HO.below (hid_grow hw); replace HJ := jv_kb hkb HJ HOJ.out; replace HB := HB.trans hkb; replace hbz := HB.up hbz0; clear hkb hw; have c4_0 : w1.cell? ⟨_, 0, none⟩ = some (.int .i64 1) := (B4.cell 0).trans (by rw [← HKD.out]; rfl); have c4_1 : w1.cell? ⟨_, 1, none⟩ = some (.bool false) := (B4.cell 1).trans (by rw [← HBB.out]; rfl); have c4_2 : w1.cell? ⟨_, 2, none⟩ = some (.int .i64 j.v.i) := B4.cell 2; have c4_3 : w1.cell? ⟨_, 3, none⟩ = some (.string j.v.t) := B4.cell 3; have c4_4 : w1.cell? ⟨_, 4, none⟩ = some (.slice j.v.LA j.v.Ln j.v.Lc) := B4.cell 4; have c4_5 : w1.cell? ⟨_, 5, none⟩ = some (.slice j.v.FA j.v.Fn j.v.Fc) := B4.cell 5)
              | (refine wpl_append_text rfl (.tmp 25) (.const (.string ⟨#[102, 97, 108, 115, 101]⟩)) 42 9 rfl Tryz.underlying42 Tryz.underlying9 base _ _ rfl HO ⟨#[102, 97, 108, 115, 101]⟩ rfl (by show l.length + 5 ≤ _; omega) hbz ?_; intro v10 w10 ho10 hkb; replace HO := ho10; clear ho10; (try replace HJ := jv_kb hkb HJ HOJ.out); (try replace HX := jv_kb hkb HX HOX.out); (try replace RX := range_kb hkb RX hbl); (try replace n1 := cell_kb hkb n1 hbl); (try replace B4 := hkb.2 _ _ _ v_ne B4); (try replace c4_4 : World.cell? _ ⟨_, 4, none⟩ = some (.slice j.v.LA j.v.Ln j.v.Lc) := B4.cell 4); (try replace c4_5 : World.cell? _ ⟨_, 5, none⟩ = some (.slice j.v.FA j.v.Fn j.v.Fc) := B4.cell 5); (try rw [HA.out] at c4_4); (try rw [HA5.out] at c4_5); (try replace HBW := HBW.trans hkb); replace HB := HB.trans hkb; clear hkb; replace hbz := HB.up hbz0))
            go_ret
            exact AddB.of HO (by first | exact HK.out | (rw [HK.out]; rfl)) HB
          · have HK : Hid (plX G (er j) l = l ++ trueL) := Lib.hid (by rw [hex, if_neg hk0, if_pos hk1, hb]; rfl)
            have HKD := Lib.hid hk1
            have HBB := Lib.hid hb
            clear hk0 hk1 hex hpx hb
            go_enter Tryz.func13, Tryz.ntmps13
            go_wp2_with (first
              | (refine wpl_box_at rfl 26 (.tmp 1) rfl _ rfl ?_; intro w1 hw; have hkb := KB.of (base := base) (hid_grow hw) hbz; have B4 := (hid_alloc hw).1; replace HO := HO.below (hid_grow hw); replace HJ := jv_kb hkb HJ HOJ.out; replace HB := HB.trans hkb; replace hbz := HB.up hbz0; clear hkb hw; have c4_0 : w1.cell? ⟨_, 0, none⟩ = some (.int .i64 1) := (B4.cell 0).trans (by rw [← HKD.out]; rfl); have c4_1 : w1.cell? ⟨_, 1, none⟩ = some (.bool true) := (B4.cell 1).trans (by rw [← HBB.out]; rfl); have c4_2 : w1.cell? ⟨_, 2, none⟩ = some (.int .i64 j.v.i) := B4.cell 2; have c4_3 : w1.cell? ⟨_, 3, none⟩ = some (.string j.v.t) := B4.cell 3; have c4_4 : w1.cell? ⟨_, 4, none⟩ = some (.slice j.v.LA j.v.Ln j.v.Lc) := B4.cell 4; have c4_5 : w1.cell? ⟨_, 5, none⟩ = some (.slice j.v.FA j.v.Fn j.v.Fc) := B4.cell 5)
              | (refine wpl_append_text rfl (.tmp 23) (.const (.string ⟨#[116, 114, 117, 101]⟩)) 42 9 rfl Tryz.underlying42 Tryz.underlying9 base _ _ rfl HO ⟨#[116, 114, 117, 101]⟩ rfl (by show l.length + 4 ≤ _; omega) hbz ?_; intro v10 w10 ho10 hkb; replace HO := ho10; clear ho10; (try replace HJ := jv_kb hkb HJ HOJ.out); (try replace HX := jv_kb hkb HX HOX.out); (try replace RX := range_kb hkb RX hbl); (try replace n1 := cell_kb hkb n1 hbl); (try replace B4 := hkb.2 _ _ _ v_ne B4); (try replace c4_4 : World.cell? _ ⟨_, 4, none⟩ = some (.slice j.v.LA j.v.Ln j.v.Lc) := B4.cell 4); (try replace c4_5 : World.cell? _ ⟨_, 5, none⟩ = some (.slice j.v.FA j.v.Fn j.v.Fc) := B4.cell 5); (try rw [HA.out] at c4_4); (try rw [HA5.out] at c4_5); (try replace HBW := HBW.trans hkb); replace HB := HB.trans hkb; clear hkb; replace hbz := HB.up hbz0))
            go_ret
            exact AddB.of HO (by first | exact HK.out | (rw [HK.out]; rfl)) HB
        · by_cases hk2 : j.v.kind = 2
          · have HK : Hid (plX G (er j) l = l ++ figL j.v.i) := Lib.hid (by rw [hex, if_neg hk0, if_neg hk1, if_pos hk2])
            have hfl : l.length + (figL j.v.i).length ≤ 1099511627776 := by rw [hpx, if_neg hk0, if_neg hk1, if_pos hk2] at htot; exact htot
            have HKD := Lib.hid hk2
            clear hk0 hk1 hk2 hex hpx htot
            go_enter Tryz.func13, Tryz.ntmps13
            go_wp2_with (first
              | (refine wpl_box_at rfl 26 (.tmp 1) rfl _ rfl ?_; intro w1 hw; have hkb := KB.of (base := base) (hid_grow hw) hbz; have B4 := (hid_alloc hw).1; replace HO := HO.below (hid_grow hw); replace HJ := jv_kb hkb HJ HOJ.out; replace HB := HB.trans hkb; replace hbz := HB.up hbz0; clear hkb hw; have c4_0 : w1.cell? ⟨_, 0, none⟩ = some (.int .i64 2) := (B4.cell 0).trans (by rw [← HKD.out]; rfl); have c4_1 : w1.cell? ⟨_, 1, none⟩ = some (.bool j.v.b) := B4.cell 1; have c4_2 : w1.cell? ⟨_, 2, none⟩ = some (.int .i64 j.v.i) := B4.cell 2; have c4_3 : w1.cell? ⟨_, 3, none⟩ = some (.string j.v.t) := B4.cell 3; have c4_4 : w1.cell? ⟨_, 4, none⟩ = some (.slice j.v.LA j.v.Ln j.v.Lc) := B4.cell 4; have c4_5 : w1.cell? ⟨_, 5, none⟩ = some (.slice j.v.FA j.v.Fn j.v.Fc) := B4.cell 5)
              | (go_at_call 25; (with_reducible refine (figures_any HI.out _).mono ?_); rintro e w2 ⟨rfl, hb⟩; have hkb := KB.of (base := base) hb hbz; replace HO := HO.below hb; clear hb; (try replace HJ := jv_kb hkb HJ HOJ.out); (try replace HX := jv_kb hkb HX HOX.out); (try replace RX := range_kb hkb RX hbl); (try replace n1 := cell_kb hkb n1 hbl); (try replace B4 := hkb.2 _ _ _ v_ne B4); (try replace c4_4 : World.cell? _ ⟨_, 4, none⟩ = some (.slice j.v.LA j.v.Ln j.v.Lc) := B4.cell 4); (try replace c4_5 : World.cell? _ ⟨_, 5, none⟩ = some (.slice j.v.FA j.v.Fn j.v.Fc) := B4.cell 5); (try rw [HA.out] at c4_4); (try rw [HA5.out] at c4_5); (try replace HBW := HBW.trans hkb); replace HB := HB.trans hkb; clear hkb; replace hbz := HB.up hbz0)
              | (refine wpl_append_text rfl (.tmp 29) (.tmp 32) 42 9 rfl Tryz.underlying42 Tryz.underlying9 base _ _ rfl HO ⟨(figL j.v.i).toArray⟩ rfl (by show l.length + (figL j.v.i).toArray.size ≤ _; simp; omega) hbz ?_; intro v10 w10 ho10 hkb; replace HO := ho10; clear ho10; (try replace HJ := jv_kb hkb HJ HOJ.out); (try replace HX := jv_kb hkb HX HOX.out); (try replace RX := range_kb hkb RX hbl); (try replace n1 := cell_kb hkb n1 hbl); (try replace B4 := hkb.2 _ _ _ v_ne B4); (try replace c4_4 : World.cell? _ ⟨_, 4, none⟩ = some (.slice j.v.LA j.v.Ln j.v.Lc) := B4.cell 4); (try replace c4_5 : World.cell? _ ⟨_, 5, none⟩ = some (.slice j.v.FA j.v.Fn j.v.Fc) := B4.cell 5); (try rw [HA.out] at c4_4); (try rw [HA5.out] at c4_5); (try replace HBW := HBW.trans hkb); replace HB := HB.trans hkb; clear hkb; replace hbz := HB.up hbz0))
            go_ret
            exact AddB.of HO (by first | exact HK.out | (rw [HK.out]; rfl)) HB
          · by_cases hk3 : j.v.kind = 3
            · have HK : Hid (plX G (er j) l = l ++ quo j.v.t) := Lib.hid (by rw [hex, if_neg hk0, if_neg hk1, if_neg hk2, if_pos hk3])
              have hql : l.length + 6 * j.v.t.size + 2 ≤ 70368744177664 := by
                rw [hpx, if_neg hk0, if_neg hk1, if_neg hk2, if_pos hk3] at htot
                have := quo_size j.v.t
                omega
              have HKD := Lib.hid hk3
              clear hk0 hk1 hk2 hk3 hex hpx htot
              go_enter Tryz.func13, Tryz.ntmps13
              go_wp2_with (first
                | (refine wpl_box_at rfl 26 (.tmp 1) rfl _ rfl ?_; intro w1 hw; have hkb := KB.of (base := base) (hid_grow hw) hbz; have B4 := (hid_alloc hw).1; replace HO := HO.below (hid_grow hw); replace HJ := jv_kb hkb HJ HOJ.out; replace HB := HB.trans hkb; replace hbz := HB.up hbz0; clear hkb hw; have c4_0 : w1.cell? ⟨_, 0, none⟩ = some (.int .i64 3) := (B4.cell 0).trans (by rw [← HKD.out]; rfl); have c4_1 : w1.cell? ⟨_, 1, none⟩ = some (.bool j.v.b) := B4.cell 1; have c4_2 : w1.cell? ⟨_, 2, none⟩ = some (.int .i64 j.v.i) := B4.cell 2; have c4_3 : w1.cell? ⟨_, 3, none⟩ = some (.string j.v.t) := B4.cell 3; have c4_4 : w1.cell? ⟨_, 4, none⟩ = some (.slice j.v.LA j.v.Ln j.v.Lc) := B4.cell 4; have c4_5 : w1.cell? ⟨_, 5, none⟩ = some (.slice j.v.FA j.v.Fn j.v.Fc) := B4.cell 5)
                | (go_at_call 26; (refine (quoted_any HO hbz (by exact hql)).mono ?_); rintro e w2 ⟨v10, rfl, ho10, hkb⟩; replace HO := ho10; clear ho10; (try replace HJ := jv_kb hkb HJ HOJ.out); (try replace HX := jv_kb hkb HX HOX.out); (try replace RX := range_kb hkb RX hbl); (try replace n1 := cell_kb hkb n1 hbl); (try replace B4 := hkb.2 _ _ _ v_ne B4); (try replace c4_4 : World.cell? _ ⟨_, 4, none⟩ = some (.slice j.v.LA j.v.Ln j.v.Lc) := B4.cell 4); (try replace c4_5 : World.cell? _ ⟨_, 5, none⟩ = some (.slice j.v.FA j.v.Fn j.v.Fc) := B4.cell 5); (try rw [HA.out] at c4_4); (try rw [HA5.out] at c4_5); (try replace HBW := HBW.trans hkb); replace HB := HB.trans hkb; clear hkb; replace hbz := HB.up hbz0))
              go_ret
              exact AddB.of HO HK.out HB
            · by_cases hk4 : j.v.kind = 4
              · have HK : Hid (plX G (er j) l = plXL G true (erL j.l) (l ++ [91]) ++ [93]) := Lib.hid (by rw [hex, if_neg hk0, if_neg hk1, if_neg hk2, if_neg hk3, if_pos hk4])
                have HTL : Hid (l.length + (prL G true (erL j.l)).length + 2 ≤ 1099511627776) := Lib.hid (by rw [hpx, if_neg hk0, if_neg hk1, if_neg hk2, if_neg hk3, if_pos hk4] at htot; simp at htot; omega)
                have HKD := Lib.hid hk4
                clear hk0 hk1 hk2 hk3 hk4 hex hpx htot
                go_enter Tryz.func13, Tryz.ntmps13
                go_wp2_with (first
                  | (refine wpl_box_at rfl 26 (.tmp 1) rfl _ rfl ?_; intro w1 hw; have hkb := KB.of (base := base) (hid_grow hw) hbz; have B4 := (hid_alloc hw).1; replace HO := HO.below (hid_grow hw); replace HJ := jv_kb hkb HJ HOJ.out; replace HB := HB.trans hkb; replace hbz := HB.up hbz0; clear hkb hw; have c4_0 : w1.cell? ⟨_, 0, none⟩ = some (.int .i64 4) := (B4.cell 0).trans (by rw [← HKD.out]; rfl); have c4_1 : w1.cell? ⟨_, 1, none⟩ = some (.bool j.v.b) := B4.cell 1; have c4_2 : w1.cell? ⟨_, 2, none⟩ = some (.int .i64 j.v.i) := B4.cell 2; have c4_3 : w1.cell? ⟨_, 3, none⟩ = some (.string j.v.t) := B4.cell 3; have c4_4 : w1.cell? ⟨_, 4, none⟩ = some (.slice j.v.LA j.v.Ln j.v.Lc) := B4.cell 4; have c4_5 : w1.cell? ⟨_, 5, none⟩ = some (.slice j.v.FA j.v.Fn j.v.Fc) := B4.cell 5)
                  | ((with_reducible refine is_slice ?_); refine wpl_slice_at 1 [(0, .int .u8 91)] #[.int .u8 91] ie _ (by rw [hie3]; exact bfill1 _) rfl 42 5 _ rfl rfl Tryz.underlying42 hie1 hie2 (by rw [hie3]; decide) (by rw [hie3]; decide) ?_; intro w9 hw; have hkb := KB.of (base := base) (hid_grow hw) hbz; have B9 := (hid_alloc hw).1; replace HO := HO.below (hid_grow hw); clear hw; (try replace HJ := jv_kb hkb HJ HOJ.out); (try replace HX := jv_kb hkb HX HOX.out); (try replace RX := range_kb hkb RX hbl); (try replace n1 := cell_kb hkb n1 hbl); (try replace B4 := hkb.2 _ _ _ v_ne B4); (try replace c4_4 : World.cell? _ ⟨_, 4, none⟩ = some (.slice j.v.LA j.v.Ln j.v.Lc) := B4.cell 4); (try replace c4_5 : World.cell? _ ⟨_, 5, none⟩ = some (.slice j.v.FA j.v.Fn j.v.Fc) := B4.cell 5); (try rw [HA.out] at c4_4); (try rw [HA5.out] at c4_5); (try replace HBW := HBW.trans hkb); replace HB := HB.trans hkb; clear hkb; replace hbz := HB.up hbz0)
                  | (refine wpl_append_bytesK rfl (.tmp 42) (.tmp 43) 42 rfl Tryz.underlying42 base _ _ rfl HO _ _ [91] 1 rfl rfl (IBox.cells B9 rfl) (by first | omega | (simp; omega)) hbz ?_; clear B9; intro v10 wz ho10 hkb; replace HO := ho10; clear ho10; (try replace HJ := jv_kb hkb HJ HOJ.out); (try replace HX := jv_kb hkb HX HOX.out); (try replace RX := range_kb hkb RX hbl); (try replace n1 := cell_kb hkb n1 hbl); (try replace B4 := hkb.2 _ _ _ v_ne B4); (try replace c4_4 : World.cell? _ ⟨_, 4, none⟩ = some (.slice j.v.LA j.v.Ln j.v.Lc) := B4.cell 4); (try replace c4_5 : World.cell? _ ⟨_, 5, none⟩ = some (.slice j.v.FA j.v.Fn j.v.Fc) := B4.cell 5); (try rw [HA.out] at c4_4); (try rw [HA5.out] at c4_5); (try replace HBW := HBW.trans hkb); replace HB := HB.trans hkb; clear hkb; replace hbz := HB.up hbz0))
                clear c4_0 c4_1 c4_2 c4_3
                have HJ0 := HJ
                have B40 := B4
                have HB0 := HB
                have WKB := KB.refl hbz
                go_loopw [0, 7] (fun bv iv wr => ∃ (q : Nat) (v1 : Value) (m : List UInt8), v1 = bv ∧ iv = .int .i64 q ∧ q ≤ j.v.Ln ∧ OwnB wr base v1 m ∧ Hid (plXL G true (erL j.l) (l ++ [91]) = plXL G (q == 0) ((erL j.l).drop q) m) ∧ Hid (m.length + (prL G (q == 0) ((erL j.l).drop q)).length + 1 ≤ 1099511627776) ∧ KB base wz wr) (fun _ iv _ => j.v.Ln - (intOf iv).toNat)
                case atStart => exact ⟨0, _, l ++ [91], rfl, rfl, Nat.zero_le _, HO, Lib.hid rfl, Lib.hid (by have := HTL.out; show (l ++ [91]).length + (prL G true ((erL j.l).drop 0)).length + 1 ≤ _; simp only [List.drop_zero, List.length_append, List.length_cons, List.length_nil]; omega), WKB⟩
                case round =>
                  clear HO
                  obtain ⟨q, v1, m, rfl, rfl, hq, HO, HS1, HLN, hkb⟩ := hrel
                  replace HJ := jv_kb hkb HJ0 HOJ.out
                  replace B4 := hkb.2 _ _ _ v_ne B40
                  replace c4_4 : World.cell? _ ⟨_, 4, none⟩ = some (.slice j.v.LA j.v.Ln j.v.Lc) := B4.cell 4
                  replace c4_5 : World.cell? _ ⟨_, 5, none⟩ = some (.slice j.v.FA j.v.Fn j.v.Fc) := B4.cell 5
                  replace HB := HB0.trans hkb
                  replace hbz := HB.up hbz0
                  have HBW := hkb
                  clear hkb
                  by_cases hlt : q < j.v.Ln
                  · obtain ⟨bl, off, x, hA, hx, RX, HX⟩ := jv_elem HJ (show q < j.l.length by have := LL.out; omega)
                    obtain ⟨hox, hbb⟩ := HO1.out q x hx
                    have hbl : bl < base := by have := hbb _ hA; simpa using this
                    have HOX := Lib.hid hox
                    have HSZ := Lib.hid (show SizeOf.sizeOf x < sz by have := size_l hx; have := SZ.out; omega)
                    obtain ⟨hst1, hst2⟩ := plXL_step (G := G) (a := m) hx
                    have hbd : 0 ≤ (q : Int) ∧ (q : Int) < j.v.Ln := by omega
                    have HA := Lib.hid hA
                    rw [hA] at c4_4
                    clear hx hA hox hbb
                    by_cases hq0 : q = 0
                    · subst hq0
                      rw [if_pos rfl] at hst1
                      rw [if_pos rfl] at hst2
                      have hln := HLN.out
                      rw [hst2] at hln
                      simp only [List.length_append, List.length_cons, List.length_nil] at hln
                      have hplb := (plX_is G (er x) (m ++ G)).2.1
                      simp only [List.length_append, List.length_cons, List.length_nil] at hplb
                      have HPB : Hid ((m ++ G).length + (pr G (er x)).length ≤ plTop) := Lib.hid (by unfold plTop; simp only [List.length_append, List.length_cons, List.length_nil]; omega)
                      have HS2 : Hid (plXL G true (erL j.l) (l ++ [91]) = plXL G (0 + 1 == 0) ((erL j.l).drop (0 + 1)) (plX G (er x) (m ++ G) ++ G)) := Lib.hid (HS1.out.trans hst1)
                      have HLN2 : Hid ((plX G (er x) (m ++ G) ++ G).length + (prL G (0 + 1 == 0) ((erL j.l).drop (0 + 1))).length + 1 ≤ 1099511627776) := Lib.hid (by simp only [List.length_append]; omega)
                      have hg1 : (m).length + G.length ≤ 1099511627776 := by (try simp only [List.length_append, List.length_cons, List.length_nil]); omega
                      have hg2 : (plX G (er x) (m ++ G)).length + G.length ≤ 1099511627776 := by omega
                      clear hst1 hst2 hln hplb
                      have hm1 : m.length + 1 ≤ 1099511627776 := by have := HLN.out; omega
                      go_wp2_with (first
                        | ((with_reducible refine is_load ?_); refine wpl_load_arr rfl 26 (.tmp 64) rfl _ _ rfl x.cells _ RX Tryz.underlying26 rfl info_value ?_)
                        | (go_at_call 13; (refine (IH.out x base _ _ _ HSZ.out HX HOX.out HO hbz (by rw [← HG.out]; exact HPB.out)).mono ?_); rw [← HG.out]; rintro e w3 ⟨v10, rfl, ho10, hkb⟩; replace HO := ho10; clear ho10; (try replace HJ := jv_kb hkb HJ HOJ.out); (try replace HX := jv_kb hkb HX HOX.out); (try replace RX := range_kb hkb RX hbl); (try replace n1 := cell_kb hkb n1 hbl); (try replace B4 := hkb.2 _ _ _ v_ne B4); (try replace c4_4 : World.cell? _ ⟨_, 4, none⟩ = some (.slice j.v.LA j.v.Ln j.v.Lc) := B4.cell 4); (try replace c4_5 : World.cell? _ ⟨_, 5, none⟩ = some (.slice j.v.FA j.v.Fn j.v.Fc) := B4.cell 5); (try rw [HA.out] at c4_4); (try rw [HA5.out] at c4_5); (try replace HBW := HBW.trans hkb); replace HB := HB.trans hkb; clear hkb; replace hbz := HB.up hbz0)
                        | (refine wpl_append_text rfl (.tmp 57) (.tmp 58) 42 9 rfl Tryz.underlying42 Tryz.underlying9 base _ _ rfl HO g rfl (by rw [HGL.out, ← HG.out]; exact Nat.le_trans hg1 (by decide)) hbz ?_; intro v10 w10 ho10 hkb; rw [← HG.out] at ho10; replace HO := ho10; clear ho10; (try replace HJ := jv_kb hkb HJ HOJ.out); (try replace HX := jv_kb hkb HX HOX.out); (try replace RX := range_kb hkb RX hbl); (try replace n1 := cell_kb hkb n1 hbl); (try replace B4 := hkb.2 _ _ _ v_ne B4); (try replace c4_4 : World.cell? _ ⟨_, 4, none⟩ = some (.slice j.v.LA j.v.Ln j.v.Lc) := B4.cell 4); (try replace c4_5 : World.cell? _ ⟨_, 5, none⟩ = some (.slice j.v.FA j.v.Fn j.v.Fc) := B4.cell 5); (try rw [HA.out] at c4_4); (try rw [HA5.out] at c4_5); (try replace HBW := HBW.trans hkb); replace HB := HB.trans hkb; clear hkb; replace hbz := HB.up hbz0)
                        | (refine wpl_append_text rfl (.tmp 68) (.tmp 69) 42 9 rfl Tryz.underlying42 Tryz.underlying9 base _ _ rfl HO g rfl (by rw [HGL.out, ← HG.out]; exact Nat.le_trans hg2 (by decide)) hbz ?_; intro v10 w10 ho10 hkb; rw [← HG.out] at ho10; replace HO := ho10; clear ho10; (try replace HJ := jv_kb hkb HJ HOJ.out); (try replace HX := jv_kb hkb HX HOX.out); (try replace RX := range_kb hkb RX hbl); (try replace n1 := cell_kb hkb n1 hbl); (try replace B4 := hkb.2 _ _ _ v_ne B4); (try replace c4_4 : World.cell? _ ⟨_, 4, none⟩ = some (.slice j.v.LA j.v.Ln j.v.Lc) := B4.cell 4); (try replace c4_5 : World.cell? _ ⟨_, 5, none⟩ = some (.slice j.v.FA j.v.Fn j.v.Fc) := B4.cell 5); (try rw [HA.out] at c4_4); (try rw [HA5.out] at c4_5); (try replace HBW := HBW.trans hkb); replace HB := HB.trans hkb; clear hkb; replace hbz := HB.up hbz0))
                      go_roundw
                      case rel => exact ⟨0 + 1, _, _, rfl, by go_num, by omega, HO, HS2, HLN2, HBW⟩
                      case measure => simp [intOf]; omega
                    · have hq1 : (0 : Int) < (q : Int) := by omega
                      rw [if_neg hq0] at hst1
                      rw [if_neg hq0] at hst2
                      clear hq0
                      have hln := HLN.out
                      rw [hst2] at hln
                      simp only [List.length_append, List.length_cons, List.length_nil] at hln
                      have hplb := (plX_is G (er x) ((m ++ [44]) ++ G)).2.1
                      simp only [List.length_append, List.length_cons, List.length_nil] at hplb
                      have HPB : Hid (((m ++ [44]) ++ G).length + (pr G (er x)).length ≤ plTop) := Lib.hid (by unfold plTop; simp only [List.length_append, List.length_cons, List.length_nil]; omega)
                      have HS2 : Hid (plXL G true (erL j.l) (l ++ [91]) = plXL G (q + 1 == 0) ((erL j.l).drop (q + 1)) (plX G (er x) ((m ++ [44]) ++ G) ++ G)) := Lib.hid (HS1.out.trans hst1)
                      have HLN2 : Hid ((plX G (er x) ((m ++ [44]) ++ G) ++ G).length + (prL G (q + 1 == 0) ((erL j.l).drop (q + 1))).length + 1 ≤ 1099511627776) := Lib.hid (by simp only [List.length_append]; omega)
                      have hg1 : ((m ++ [44])).length + G.length ≤ 1099511627776 := by (try simp only [List.length_append, List.length_cons, List.length_nil]); omega
                      have hg2 : (plX G (er x) ((m ++ [44]) ++ G)).length + G.length ≤ 1099511627776 := by omega
                      clear hst1 hst2 hln hplb
                      have hm1 : m.length + 1 ≤ 1099511627776 := by have := HLN.out; omega
                      go_wp2_with (first
                        | ((with_reducible refine is_slice ?_); refine wpl_slice_at 1 [(0, .int .u8 44)] #[.int .u8 44] ie _ (by rw [hie3]; exact bfill1 _) rfl 42 5 _ rfl rfl Tryz.underlying42 hie1 hie2 (by rw [hie3]; decide) (by rw [hie3]; decide) ?_; intro w9 hw; have hkb := KB.of (base := base) (hid_grow hw) hbz; have B9 := (hid_alloc hw).1; replace HO := HO.below (hid_grow hw); clear hw; (try replace HJ := jv_kb hkb HJ HOJ.out); (try replace HX := jv_kb hkb HX HOX.out); (try replace RX := range_kb hkb RX hbl); (try replace n1 := cell_kb hkb n1 hbl); (try replace B4 := hkb.2 _ _ _ v_ne B4); (try replace c4_4 : World.cell? _ ⟨_, 4, none⟩ = some (.slice j.v.LA j.v.Ln j.v.Lc) := B4.cell 4); (try replace c4_5 : World.cell? _ ⟨_, 5, none⟩ = some (.slice j.v.FA j.v.Fn j.v.Fc) := B4.cell 5); (try rw [HA.out] at c4_4); (try rw [HA5.out] at c4_5); (try replace HBW := HBW.trans hkb); replace HB := HB.trans hkb; clear hkb; replace hbz := HB.up hbz0)
                        | (refine wpl_append_bytesK rfl (.tmp 54) (.tmp 55) 42 rfl Tryz.underlying42 base _ _ rfl HO _ _ [44] 1 rfl rfl (IBox.cells B9 rfl) (by first | omega | (simp; omega)) hbz ?_; clear B9; intro v10 w10 ho10 hkb; replace HO := ho10; clear ho10; (try replace HJ := jv_kb hkb HJ HOJ.out); (try replace HX := jv_kb hkb HX HOX.out); (try replace RX := range_kb hkb RX hbl); (try replace n1 := cell_kb hkb n1 hbl); (try replace B4 := hkb.2 _ _ _ v_ne B4); (try replace c4_4 : World.cell? _ ⟨_, 4, none⟩ = some (.slice j.v.LA j.v.Ln j.v.Lc) := B4.cell 4); (try replace c4_5 : World.cell? _ ⟨_, 5, none⟩ = some (.slice j.v.FA j.v.Fn j.v.Fc) := B4.cell 5); (try rw [HA.out] at c4_4); (try rw [HA5.out] at c4_5); (try replace HBW := HBW.trans hkb); replace HB := HB.trans hkb; clear hkb; replace hbz := HB.up hbz0)
                        | ((with_reducible refine is_load ?_); refine wpl_load_arr rfl 26 (.tmp 64) rfl _ _ rfl x.cells _ RX Tryz.underlying26 rfl info_value ?_)
                        | (go_at_call 13; (refine (IH.out x base _ _ _ HSZ.out HX HOX.out HO hbz (by rw [← HG.out]; exact HPB.out)).mono ?_); rw [← HG.out]; rintro e w3 ⟨v10, rfl, ho10, hkb⟩; replace HO := ho10; clear ho10; (try replace HJ := jv_kb hkb HJ HOJ.out); (try replace HX := jv_kb hkb HX HOX.out); (try replace RX := range_kb hkb RX hbl); (try replace n1 := cell_kb hkb n1 hbl); (try replace B4 := hkb.2 _ _ _ v_ne B4); (try replace c4_4 : World.cell? _ ⟨_, 4, none⟩ = some (.slice j.v.LA j.v.Ln j.v.Lc) := B4.cell 4); (try replace c4_5 : World.cell? _ ⟨_, 5, none⟩ = some (.slice j.v.FA j.v.Fn j.v.Fc) := B4.cell 5); (try rw [HA.out] at c4_4); (try rw [HA5.out] at c4_5); (try replace HBW := HBW.trans hkb); replace HB := HB.trans hkb; clear hkb; replace hbz := HB.up hbz0)
                        | (refine wpl_append_text rfl (.tmp 57) (.tmp 58) 42 9 rfl Tryz.underlying42 Tryz.underlying9 base _ _ rfl HO g rfl (by rw [HGL.out, ← HG.out]; exact Nat.le_trans hg1 (by decide)) hbz ?_; intro v10 w10 ho10 hkb; rw [← HG.out] at ho10; replace HO := ho10; clear ho10; (try replace HJ := jv_kb hkb HJ HOJ.out); (try replace HX := jv_kb hkb HX HOX.out); (try replace RX := range_kb hkb RX hbl); (try replace n1 := cell_kb hkb n1 hbl); (try replace B4 := hkb.2 _ _ _ v_ne B4); (try replace c4_4 : World.cell? _ ⟨_, 4, none⟩ = some (.slice j.v.LA j.v.Ln j.v.Lc) := B4.cell 4); (try replace c4_5 : World.cell? _ ⟨_, 5, none⟩ = some (.slice j.v.FA j.v.Fn j.v.Fc) := B4.cell 5); (try rw [HA.out] at c4_4); (try rw [HA5.out] at c4_5); (try replace HBW := HBW.trans hkb); replace HB := HB.trans hkb; clear hkb; replace hbz := HB.up hbz0)
                        | (refine wpl_append_text rfl (.tmp 68) (.tmp 69) 42 9 rfl Tryz.underlying42 Tryz.underlying9 base _ _ rfl HO g rfl (by rw [HGL.out, ← HG.out]; exact Nat.le_trans hg2 (by decide)) hbz ?_; intro v10 w10 ho10 hkb; rw [← HG.out] at ho10; replace HO := ho10; clear ho10; (try replace HJ := jv_kb hkb HJ HOJ.out); (try replace HX := jv_kb hkb HX HOX.out); (try replace RX := range_kb hkb RX hbl); (try replace n1 := cell_kb hkb n1 hbl); (try replace B4 := hkb.2 _ _ _ v_ne B4); (try replace c4_4 : World.cell? _ ⟨_, 4, none⟩ = some (.slice j.v.LA j.v.Ln j.v.Lc) := B4.cell 4); (try replace c4_5 : World.cell? _ ⟨_, 5, none⟩ = some (.slice j.v.FA j.v.Fn j.v.Fc) := B4.cell 5); (try rw [HA.out] at c4_4); (try rw [HA5.out] at c4_5); (try replace HBW := HBW.trans hkb); replace HB := HB.trans hkb; clear hkb; replace hbz := HB.up hbz0))
                      go_roundw
                      case rel => exact ⟨q + 1, _, _, rfl, by go_num, by omega, HO, HS2, HLN2, HBW⟩
                      case measure => simp [intOf]; omega
                  · obtain rfl : q = j.v.Ln := by omega
                    clear hq hlt
                    have HLQ : Hid (plX G (er j) l = m ++ [93]) := Lib.hid (by rw [HK.out, HS1.out]; rw [List.drop_eq_nil_of_le (by rw [erL_len]; exact Nat.le_of_eq LL.out.symm), plXL])
                    have hml : m.length + 1 ≤ 1099511627776 := by have := HLN.out; omega
                    go_wp2_with (first
                      | ((with_reducible refine is_slice ?_); refine wpl_slice_at 1 [(0, .int .u8 93)] #[.int .u8 93] ie _ (by rw [hie3]; exact bfill1 _) rfl 42 5 _ rfl rfl Tryz.underlying42 hie1 hie2 (by rw [hie3]; decide) (by rw [hie3]; decide) ?_; intro w9 hw; have hkb := KB.of (base := base) (hid_grow hw) hbz; have B9 := (hid_alloc hw).1; replace HO := HO.below (hid_grow hw); clear hw; (try replace HJ := jv_kb hkb HJ HOJ.out); (try replace HX := jv_kb hkb HX HOX.out); (try replace RX := range_kb hkb RX hbl); (try replace n1 := cell_kb hkb n1 hbl); (try replace B4 := hkb.2 _ _ _ v_ne B4); (try replace c4_4 : World.cell? _ ⟨_, 4, none⟩ = some (.slice j.v.LA j.v.Ln j.v.Lc) := B4.cell 4); (try replace c4_5 : World.cell? _ ⟨_, 5, none⟩ = some (.slice j.v.FA j.v.Fn j.v.Fc) := B4.cell 5); (try rw [HA.out] at c4_4); (try rw [HA5.out] at c4_5); (try replace HBW := HBW.trans hkb); replace HB := HB.trans hkb; clear hkb; replace hbz := HB.up hbz0)
                      | (refine wpl_append_bytesK rfl (.tmp 71) (.tmp 72) 42 rfl Tryz.underlying42 base _ _ rfl HO _ _ [93] 1 rfl rfl (IBox.cells B9 rfl) (by first | omega | (simp; omega)) hbz ?_; clear B9; intro v10 w10 ho10 hkb; replace HO := ho10; clear ho10; (try replace HJ := jv_kb hkb HJ HOJ.out); (try replace HX := jv_kb hkb HX HOX.out); (try replace RX := range_kb hkb RX hbl); (try replace n1 := cell_kb hkb n1 hbl); (try replace B4 := hkb.2 _ _ _ v_ne B4); (try replace c4_4 : World.cell? _ ⟨_, 4, none⟩ = some (.slice j.v.LA j.v.Ln j.v.Lc) := B4.cell 4); (try replace c4_5 : World.cell? _ ⟨_, 5, none⟩ = some (.slice j.v.FA j.v.Fn j.v.Fc) := B4.cell 5); (try rw [HA.out] at c4_4); (try rw [HA5.out] at c4_5); (try replace HBW := HBW.trans hkb); replace HB := HB.trans hkb; clear hkb; replace hbz := HB.up hbz0))
                    go_ret
                    exact AddB.of HO HLQ.out HB
              · have HK : Hid (plX G (er j) l = plXF G true j.ns (erL j.vs) (l ++ [123]) ++ [125]) := Lib.hid (by rw [hex, if_neg hk0, if_neg hk1, if_neg hk2, if_neg hk3, if_neg hk4])
                have HTL : Hid (l.length + (prF G true j.ns (erL j.vs)).length + 2 ≤ 1099511627776) := Lib.hid (by rw [hpx, if_neg hk0, if_neg hk1, if_neg hk2, if_neg hk3, if_neg hk4] at htot; simp at htot; omega)
                have q0 : (j.v.kind == 0) = false := by simpa using hk0
                have q1 : (j.v.kind == 1) = false := by simpa using hk1
                have q2 : (j.v.kind == 2) = false := by simpa using hk2
                have q3 : (j.v.kind == 3) = false := by simpa using hk3
                have q4 : (j.v.kind == 4) = false := by simpa using hk4
                clear hk0 hk1 hk2 hk3 hk4 hex hpx htot
                go_enter Tryz.func13, Tryz.ntmps13
                go_wp2_with (first
                  | (refine wpl_box_at rfl 26 (.tmp 1) rfl _ rfl ?_; intro w1 hw; have hkb := KB.of (base := base) (hid_grow hw) hbz; have B4 := (hid_alloc hw).1; replace HO := HO.below (hid_grow hw); replace HJ := jv_kb hkb HJ HOJ.out; replace HB := HB.trans hkb; replace hbz := HB.up hbz0; clear hkb hw; have c4_0 : w1.cell? ⟨_, 0, none⟩ = some (.int .i64 j.v.kind) := (B4.cell 0).trans (by rfl); have c4_1 : w1.cell? ⟨_, 1, none⟩ = some (.bool j.v.b) := B4.cell 1; have c4_2 : w1.cell? ⟨_, 2, none⟩ = some (.int .i64 j.v.i) := B4.cell 2; have c4_3 : w1.cell? ⟨_, 3, none⟩ = some (.string j.v.t) := B4.cell 3; have c4_4 : w1.cell? ⟨_, 4, none⟩ = some (.slice j.v.LA j.v.Ln j.v.Lc) := B4.cell 4; have c4_5 : w1.cell? ⟨_, 5, none⟩ = some (.slice j.v.FA j.v.Fn j.v.Fc) := B4.cell 5)
                  | ((with_reducible refine is_slice ?_); refine wpl_slice_at 1 [(0, .int .u8 123)] #[.int .u8 123] ie _ (by rw [hie3]; exact bfill1 _) rfl 42 5 _ rfl rfl Tryz.underlying42 hie1 hie2 (by rw [hie3]; decide) (by rw [hie3]; decide) ?_; intro w9 hw; have hkb := KB.of (base := base) (hid_grow hw) hbz; have B9 := (hid_alloc hw).1; replace HO := HO.below (hid_grow hw); clear hw; (try replace HJ := jv_kb hkb HJ HOJ.out); (try replace HX := jv_kb hkb HX HOX.out); (try replace RX := range_kb hkb RX hbl); (try replace n1 := cell_kb hkb n1 hbl); (try replace B4 := hkb.2 _ _ _ v_ne B4); (try replace c4_4 : World.cell? _ ⟨_, 4, none⟩ = some (.slice j.v.LA j.v.Ln j.v.Lc) := B4.cell 4); (try replace c4_5 : World.cell? _ ⟨_, 5, none⟩ = some (.slice j.v.FA j.v.Fn j.v.Fc) := B4.cell 5); (try rw [HA.out] at c4_4); (try rw [HA5.out] at c4_5); (try replace HBW := HBW.trans hkb); replace HB := HB.trans hkb; clear hkb; replace hbz := HB.up hbz0)
                  | (refine wpl_append_bytesK rfl (.tmp 74) (.tmp 75) 42 rfl Tryz.underlying42 base _ _ rfl HO _ _ [123] 1 rfl rfl (IBox.cells B9 rfl) (by first | omega | (simp; omega)) hbz ?_; clear B9; intro v10 wz ho10 hkb; replace HO := ho10; clear ho10; (try replace HJ := jv_kb hkb HJ HOJ.out); (try replace HX := jv_kb hkb HX HOX.out); (try replace RX := range_kb hkb RX hbl); (try replace n1 := cell_kb hkb n1 hbl); (try replace B4 := hkb.2 _ _ _ v_ne B4); (try replace c4_4 : World.cell? _ ⟨_, 4, none⟩ = some (.slice j.v.LA j.v.Ln j.v.Lc) := B4.cell 4); (try replace c4_5 : World.cell? _ ⟨_, 5, none⟩ = some (.slice j.v.FA j.v.Fn j.v.Fc) := B4.cell 5); (try rw [HA.out] at c4_4); (try rw [HA5.out] at c4_5); (try replace HBW := HBW.trans hkb); replace HB := HB.trans hkb; clear hkb; replace hbz := HB.up hbz0))
                clear c4_0 c4_1 c4_2 c4_3
                have HJ0 := HJ
                have B40 := B4
                have HB0 := HB
                have WKB := KB.refl hbz
                go_loopw [0, 8] (fun bv iv wr => ∃ (q : Nat) (v1 : Value) (m : List UInt8), v1 = bv ∧ iv = .int .i64 q ∧ q ≤ j.v.Fn ∧ OwnB wr base v1 m ∧ Hid (plXF G true j.ns (erL j.vs) (l ++ [123]) = plXF G (q == 0) (j.ns.drop q) ((erL j.vs).drop q) m) ∧ Hid (m.length + (prF G (q == 0) (j.ns.drop q) ((erL j.vs).drop q)).length + 1 ≤ 1099511627776) ∧ KB base wz wr) (fun _ iv _ => j.v.Fn - (intOf iv).toNat)
                case atStart => exact ⟨0, _, l ++ [123], rfl, rfl, Nat.zero_le _, HO, Lib.hid rfl, Lib.hid (by have := HTL.out; show (l ++ [123]).length + (prF G true (j.ns.drop 0) ((erL j.vs).drop 0)).length + 1 ≤ _; simp only [List.drop_zero, List.length_append, List.length_cons, List.length_nil]; omega), WKB⟩
                case round =>
                  clear HO
                  obtain ⟨q, v1, m, rfl, rfl, hq, HO, HS1, HLN, hkb⟩ := hrel
                  replace HJ := jv_kb hkb HJ0 HOJ.out
                  replace B4 := hkb.2 _ _ _ v_ne B40
                  replace c4_4 : World.cell? _ ⟨_, 4, none⟩ = some (.slice j.v.LA j.v.Ln j.v.Lc) := B4.cell 4
                  replace c4_5 : World.cell? _ ⟨_, 5, none⟩ = some (.slice j.v.FA j.v.Fn j.v.Fc) := B4.cell 5
                  replace HB := HB0.trans hkb
                  replace hbz := HB.up hbz0
                  have HBW := hkb
                  clear hkb
                  by_cases hlt : q < j.v.Fn
                  · obtain ⟨bl, off, nm, x, hA5, hx, hnx, n1, RX, HX⟩ := jv_fld HJ (show q < j.vs.length by have := LV.out; omega)
                    obtain ⟨hox, hbb⟩ := HO2.out q x hx
                    have hbl : bl < base := by have := hbb _ hA5; simpa using this
                    have HOX := Lib.hid hox
                    have HSZ := Lib.hid (show SizeOf.sizeOf x < sz by have := size_vs hx; have := SZ.out; omega)
                    obtain ⟨hst1, hst2⟩ := plXF_step (G := G) (a := m) hnx hx
                    have hbd : 0 ≤ (q : Int) ∧ (q : Int) < j.v.Fn := by omega
                    have HA5 := Lib.hid hA5
                    rw [hA5] at c4_5
                    clear hx hA5 hox hbb hnx
                    by_cases hq0 : q = 0
                    · subst hq0
                      rw [if_pos rfl] at hst1
                      rw [if_pos rfl] at hst2
                      rw [Nat.zero_mul, Nat.add_zero] at n1
                      have hln := HLN.out
                      rw [hst2] at hln
                      simp only [List.length_append, List.length_cons, List.length_nil] at hln
                      have hplb := (plX_is G (er x) (((((m ++ G) ++ quo nm) ++ G) ++ [58]) ++ G)).2.1
                      simp only [List.length_append, List.length_cons, List.length_nil] at hplb
                      have hqs := quo_size nm
                      have HPB : Hid ((((((m ++ G) ++ quo nm) ++ G) ++ [58]) ++ G).length + (pr G (er x)).length ≤ plTop) := Lib.hid (by unfold plTop; simp only [List.length_append, List.length_cons, List.length_nil]; omega)
                      have HS2 : Hid (plXF G true j.ns (erL j.vs) (l ++ [123]) = plXF G (0 + 1 == 0) (j.ns.drop (0 + 1)) ((erL j.vs).drop (0 + 1)) (plX G (er x) (((((m ++ G) ++ quo nm) ++ G) ++ [58]) ++ G) ++ G)) := Lib.hid (HS1.out.trans hst1)
                      have HLN2 : Hid ((plX G (er x) (((((m ++ G) ++ quo nm) ++ G) ++ [58]) ++ G) ++ G).length + (prF G (0 + 1 == 0) (j.ns.drop (0 + 1)) ((erL j.vs).drop (0 + 1))).length + 1 ≤ 1099511627776) := Lib.hid (by simp only [List.length_append]; omega)
                      have hg1 : (m).length + G.length ≤ 1099511627776 := by (try simp only [List.length_append, List.length_cons, List.length_nil]); omega
                      have hg2 : (plX G (er x) (((((m ++ G) ++ quo nm) ++ G) ++ [58]) ++ G)).length + G.length ≤ 1099511627776 := by omega
                      have hg3 : ((m ++ G) ++ quo nm).length + G.length ≤ 1099511627776 := by simp only [List.length_append, List.length_cons, List.length_nil]; omega
                      have hg4 : ((((m ++ G) ++ quo nm) ++ G) ++ [58]).length + G.length ≤ 1099511627776 := by simp only [List.length_append, List.length_cons, List.length_nil]; omega
                      have hg5 : (((m ++ G) ++ quo nm) ++ G).length + 1 ≤ 140737488355328 := by simp only [List.length_append, List.length_cons, List.length_nil]; omega
                      have hqn : (m ++ G).length + 6 * nm.size + 2 ≤ 70368744177664 := by simp only [List.length_append, List.length_cons, List.length_nil]; omega
                      clear hst1 hst2 hln hplb hqs
                      have hm1 : m.length + 1 ≤ 1099511627776 := by have := HLN.out; omega
                      go_wp2_with (first
                        | ((with_reducible refine is_load ?_); refine wpl_load_arr rfl 26 (.tmp 114) rfl _ _ rfl x.cells _ RX Tryz.underlying26 rfl info_value ?_)
                        | (go_at_call 13; (refine (IH.out x base _ _ _ HSZ.out HX HOX.out HO hbz (by rw [← HG.out]; exact HPB.out)).mono ?_); rw [← HG.out]; rintro e w3 ⟨v10, rfl, ho10, hkb⟩; replace HO := ho10; clear ho10; (try replace HJ := jv_kb hkb HJ HOJ.out); (try replace HX := jv_kb hkb HX HOX.out); (try replace RX := range_kb hkb RX hbl); (try replace n1 := cell_kb hkb n1 hbl); (try replace B4 := hkb.2 _ _ _ v_ne B4); (try replace c4_4 : World.cell? _ ⟨_, 4, none⟩ = some (.slice j.v.LA j.v.Ln j.v.Lc) := B4.cell 4); (try replace c4_5 : World.cell? _ ⟨_, 5, none⟩ = some (.slice j.v.FA j.v.Fn j.v.Fc) := B4.cell 5); (try rw [HA.out] at c4_4); (try rw [HA5.out] at c4_5); (try replace HBW := HBW.trans hkb); replace HB := HB.trans hkb; clear hkb; replace hbz := HB.up hbz0)
                        | (go_at_call 26; (refine (quoted_any HO hbz (by exact hqn)).mono ?_); rintro e w2 ⟨v10, rfl, ho10, hkb⟩; replace HO := ho10; clear ho10; (try replace HJ := jv_kb hkb HJ HOJ.out); (try replace HX := jv_kb hkb HX HOX.out); (try replace RX := range_kb hkb RX hbl); (try replace n1 := cell_kb hkb n1 hbl); (try replace B4 := hkb.2 _ _ _ v_ne B4); (try replace c4_4 : World.cell? _ ⟨_, 4, none⟩ = some (.slice j.v.LA j.v.Ln j.v.Lc) := B4.cell 4); (try replace c4_5 : World.cell? _ ⟨_, 5, none⟩ = some (.slice j.v.FA j.v.Fn j.v.Fc) := B4.cell 5); (try rw [HA.out] at c4_4); (try rw [HA5.out] at c4_5); (try replace HBW := HBW.trans hkb); replace HB := HB.trans hkb; clear hkb; replace hbz := HB.up hbz0)
                        | ((with_reducible refine is_slice ?_); refine wpl_slice_at 1 [(0, .int .u8 58)] #[.int .u8 58] ie _ (by rw [hie3]; exact bfill1 _) rfl 42 5 _ rfl rfl Tryz.underlying42 hie1 hie2 (by rw [hie3]; decide) (by rw [hie3]; decide) ?_; intro w9 hw; have hkb := KB.of (base := base) (hid_grow hw) hbz; have B9 := (hid_alloc hw).1; replace HO := HO.below (hid_grow hw); clear hw; (try replace HJ := jv_kb hkb HJ HOJ.out); (try replace HX := jv_kb hkb HX HOX.out); (try replace RX := range_kb hkb RX hbl); (try replace n1 := cell_kb hkb n1 hbl); (try replace B4 := hkb.2 _ _ _ v_ne B4); (try replace c4_4 : World.cell? _ ⟨_, 4, none⟩ = some (.slice j.v.LA j.v.Ln j.v.Lc) := B4.cell 4); (try replace c4_5 : World.cell? _ ⟨_, 5, none⟩ = some (.slice j.v.FA j.v.Fn j.v.Fc) := B4.cell 5); (try rw [HA.out] at c4_4); (try rw [HA5.out] at c4_5); (try replace HBW := HBW.trans hkb); replace HB := HB.trans hkb; clear hkb; replace hbz := HB.up hbz0)
                        | (refine wpl_append_bytesK rfl (.tmp 103) (.tmp 104) 42 rfl Tryz.underlying42 base _ _ rfl HO _ _ [58] 1 rfl rfl (IBox.cells B9 rfl) (by exact hg5) hbz ?_; clear B9; intro v10 w10 ho10 hkb; replace HO := ho10; clear ho10; (try replace HJ := jv_kb hkb HJ HOJ.out); (try replace HX := jv_kb hkb HX HOX.out); (try replace RX := range_kb hkb RX hbl); (try replace n1 := cell_kb hkb n1 hbl); (try replace B4 := hkb.2 _ _ _ v_ne B4); (try replace c4_4 : World.cell? _ ⟨_, 4, none⟩ = some (.slice j.v.LA j.v.Ln j.v.Lc) := B4.cell 4); (try replace c4_5 : World.cell? _ ⟨_, 5, none⟩ = some (.slice j.v.FA j.v.Fn j.v.Fc) := B4.cell 5); (try rw [HA.out] at c4_4); (try rw [HA5.out] at c4_5); (try replace HBW := HBW.trans hkb); replace HB := HB.trans hkb; clear hkb; replace hbz := HB.up hbz0)
                        | (refine wpl_append_text rfl (.tmp 89) (.tmp 90) 42 9 rfl Tryz.underlying42 Tryz.underlying9 base _ _ rfl HO g rfl (by rw [HGL.out, ← HG.out]; exact Nat.le_trans hg1 (by decide)) hbz ?_; intro v10 w10 ho10 hkb; rw [← HG.out] at ho10; replace HO := ho10; clear ho10; (try replace HJ := jv_kb hkb HJ HOJ.out); (try replace HX := jv_kb hkb HX HOX.out); (try replace RX := range_kb hkb RX hbl); (try replace n1 := cell_kb hkb n1 hbl); (try replace B4 := hkb.2 _ _ _ v_ne B4); (try replace c4_4 : World.cell? _ ⟨_, 4, none⟩ = some (.slice j.v.LA j.v.Ln j.v.Lc) := B4.cell 4); (try replace c4_5 : World.cell? _ ⟨_, 5, none⟩ = some (.slice j.v.FA j.v.Fn j.v.Fc) := B4.cell 5); (try rw [HA.out] at c4_4); (try rw [HA5.out] at c4_5); (try replace HBW := HBW.trans hkb); replace HB := HB.trans hkb; clear hkb; replace hbz := HB.up hbz0)
                        | (refine wpl_append_text rfl (.tmp 100) (.tmp 101) 42 9 rfl Tryz.underlying42 Tryz.underlying9 base _ _ rfl HO g rfl (by rw [HGL.out, ← HG.out]; exact Nat.le_trans hg3 (by decide)) hbz ?_; intro v10 w10 ho10 hkb; rw [← HG.out] at ho10; replace HO := ho10; clear ho10; (try replace HJ := jv_kb hkb HJ HOJ.out); (try replace HX := jv_kb hkb HX HOX.out); (try replace RX := range_kb hkb RX hbl); (try replace n1 := cell_kb hkb n1 hbl); (try replace B4 := hkb.2 _ _ _ v_ne B4); (try replace c4_4 : World.cell? _ ⟨_, 4, none⟩ = some (.slice j.v.LA j.v.Ln j.v.Lc) := B4.cell 4); (try replace c4_5 : World.cell? _ ⟨_, 5, none⟩ = some (.slice j.v.FA j.v.Fn j.v.Fc) := B4.cell 5); (try rw [HA.out] at c4_4); (try rw [HA5.out] at c4_5); (try replace HBW := HBW.trans hkb); replace HB := HB.trans hkb; clear hkb; replace hbz := HB.up hbz0)
                        | (refine wpl_append_text rfl (.tmp 106) (.tmp 107) 42 9 rfl Tryz.underlying42 Tryz.underlying9 base _ _ rfl HO g rfl (by rw [HGL.out, ← HG.out]; exact Nat.le_trans hg4 (by decide)) hbz ?_; intro v10 w10 ho10 hkb; rw [← HG.out] at ho10; replace HO := ho10; clear ho10; (try replace HJ := jv_kb hkb HJ HOJ.out); (try replace HX := jv_kb hkb HX HOX.out); (try replace RX := range_kb hkb RX hbl); (try replace n1 := cell_kb hkb n1 hbl); (try replace B4 := hkb.2 _ _ _ v_ne B4); (try replace c4_4 : World.cell? _ ⟨_, 4, none⟩ = some (.slice j.v.LA j.v.Ln j.v.Lc) := B4.cell 4); (try replace c4_5 : World.cell? _ ⟨_, 5, none⟩ = some (.slice j.v.FA j.v.Fn j.v.Fc) := B4.cell 5); (try rw [HA.out] at c4_4); (try rw [HA5.out] at c4_5); (try replace HBW := HBW.trans hkb); replace HB := HB.trans hkb; clear hkb; replace hbz := HB.up hbz0)
                        | (refine wpl_append_text rfl (.tmp 118) (.tmp 119) 42 9 rfl Tryz.underlying42 Tryz.underlying9 base _ _ rfl HO g rfl (by rw [HGL.out, ← HG.out]; exact Nat.le_trans hg2 (by decide)) hbz ?_; intro v10 w10 ho10 hkb; rw [← HG.out] at ho10; replace HO := ho10; clear ho10; (try replace HJ := jv_kb hkb HJ HOJ.out); (try replace HX := jv_kb hkb HX HOX.out); (try replace RX := range_kb hkb RX hbl); (try replace n1 := cell_kb hkb n1 hbl); (try replace B4 := hkb.2 _ _ _ v_ne B4); (try replace c4_4 : World.cell? _ ⟨_, 4, none⟩ = some (.slice j.v.LA j.v.Ln j.v.Lc) := B4.cell 4); (try replace c4_5 : World.cell? _ ⟨_, 5, none⟩ = some (.slice j.v.FA j.v.Fn j.v.Fc) := B4.cell 5); (try rw [HA.out] at c4_4); (try rw [HA5.out] at c4_5); (try replace HBW := HBW.trans hkb); replace HB := HB.trans hkb; clear hkb; replace hbz := HB.up hbz0))
                      go_roundw
                      case rel => exact ⟨0 + 1, _, _, rfl, by go_num, by omega, HO, HS2, HLN2, HBW⟩
                      case measure => simp [intOf]; omega
                    · have hq1 : (0 : Int) < (q : Int) := by omega
                      rw [if_neg hq0] at hst1
                      rw [if_neg hq0] at hst2
                      clear hq0
                      have hln := HLN.out
                      rw [hst2] at hln
                      simp only [List.length_append, List.length_cons, List.length_nil] at hln
                      have hplb := (plX_is G (er x) ((((((m ++ [44]) ++ G) ++ quo nm) ++ G) ++ [58]) ++ G)).2.1
                      simp only [List.length_append, List.length_cons, List.length_nil] at hplb
                      have hqs := quo_size nm
                      have HPB : Hid (((((((m ++ [44]) ++ G) ++ quo nm) ++ G) ++ [58]) ++ G).length + (pr G (er x)).length ≤ plTop) := Lib.hid (by unfold plTop; simp only [List.length_append, List.length_cons, List.length_nil]; omega)
                      have HS2 : Hid (plXF G true j.ns (erL j.vs) (l ++ [123]) = plXF G (q + 1 == 0) (j.ns.drop (q + 1)) ((erL j.vs).drop (q + 1)) (plX G (er x) ((((((m ++ [44]) ++ G) ++ quo nm) ++ G) ++ [58]) ++ G) ++ G)) := Lib.hid (HS1.out.trans hst1)
                      have HLN2 : Hid ((plX G (er x) ((((((m ++ [44]) ++ G) ++ quo nm) ++ G) ++ [58]) ++ G) ++ G).length + (prF G (q + 1 == 0) (j.ns.drop (q + 1)) ((erL j.vs).drop (q + 1))).length + 1 ≤ 1099511627776) := Lib.hid (by simp only [List.length_append]; omega)
                      have hg1 : ((m ++ [44])).length + G.length ≤ 1099511627776 := by (try simp only [List.length_append, List.length_cons, List.length_nil]); omega
                      have hg2 : (plX G (er x) ((((((m ++ [44]) ++ G) ++ quo nm) ++ G) ++ [58]) ++ G)).length + G.length ≤ 1099511627776 := by omega
                      have hg3 : (((m ++ [44]) ++ G) ++ quo nm).length + G.length ≤ 1099511627776 := by simp only [List.length_append, List.length_cons, List.length_nil]; omega
                      have hg4 : (((((m ++ [44]) ++ G) ++ quo nm) ++ G) ++ [58]).length + G.length ≤ 1099511627776 := by simp only [List.length_append, List.length_cons, List.length_nil]; omega
                      have hg5 : ((((m ++ [44]) ++ G) ++ quo nm) ++ G).length + 1 ≤ 140737488355328 := by simp only [List.length_append, List.length_cons, List.length_nil]; omega
                      have hqn : ((m ++ [44]) ++ G).length + 6 * nm.size + 2 ≤ 70368744177664 := by simp only [List.length_append, List.length_cons, List.length_nil]; omega
                      clear hst1 hst2 hln hplb hqs
                      have hm1 : m.length + 1 ≤ 1099511627776 := by have := HLN.out; omega
                      go_wp2_with (first
                        | ((with_reducible refine is_slice ?_); refine wpl_slice_at 1 [(0, .int .u8 44)] #[.int .u8 44] ie _ (by rw [hie3]; exact bfill1 _) rfl 42 5 _ rfl rfl Tryz.underlying42 hie1 hie2 (by rw [hie3]; decide) (by rw [hie3]; decide) ?_; intro w9 hw; have hkb := KB.of (base := base) (hid_grow hw) hbz; have B9 := (hid_alloc hw).1; replace HO := HO.below (hid_grow hw); clear hw; (try replace HJ := jv_kb hkb HJ HOJ.out); (try replace HX := jv_kb hkb HX HOX.out); (try replace RX := range_kb hkb RX hbl); (try replace n1 := cell_kb hkb n1 hbl); (try replace B4 := hkb.2 _ _ _ v_ne B4); (try replace c4_4 : World.cell? _ ⟨_, 4, none⟩ = some (.slice j.v.LA j.v.Ln j.v.Lc) := B4.cell 4); (try replace c4_5 : World.cell? _ ⟨_, 5, none⟩ = some (.slice j.v.FA j.v.Fn j.v.Fc) := B4.cell 5); (try rw [HA.out] at c4_4); (try rw [HA5.out] at c4_5); (try replace HBW := HBW.trans hkb); replace HB := HB.trans hkb; clear hkb; replace hbz := HB.up hbz0)
                        | (refine wpl_append_bytesK rfl (.tmp 86) (.tmp 87) 42 rfl Tryz.underlying42 base _ _ rfl HO _ _ [44] 1 rfl rfl (IBox.cells B9 rfl) (by first | omega | (simp; omega)) hbz ?_; clear B9; intro v10 w10 ho10 hkb; replace HO := ho10; clear ho10; (try replace HJ := jv_kb hkb HJ HOJ.out); (try replace HX := jv_kb hkb HX HOX.out); (try replace RX := range_kb hkb RX hbl); (try replace n1 := cell_kb hkb n1 hbl); (try replace B4 := hkb.2 _ _ _ v_ne B4); (try replace c4_4 : World.cell? _ ⟨_, 4, none⟩ = some (.slice j.v.LA j.v.Ln j.v.Lc) := B4.cell 4); (try replace c4_5 : World.cell? _ ⟨_, 5, none⟩ = some (.slice j.v.FA j.v.Fn j.v.Fc) := B4.cell 5); (try rw [HA.out] at c4_4); (try rw [HA5.out] at c4_5); (try replace HBW := HBW.trans hkb); replace HB := HB.trans hkb; clear hkb; replace hbz := HB.up hbz0)
                        | ((with_reducible refine is_load ?_); refine wpl_load_arr rfl 26 (.tmp 114) rfl _ _ rfl x.cells _ RX Tryz.underlying26 rfl info_value ?_)
                        | (go_at_call 13; (refine (IH.out x base _ _ _ HSZ.out HX HOX.out HO hbz (by rw [← HG.out]; exact HPB.out)).mono ?_); rw [← HG.out]; rintro e w3 ⟨v10, rfl, ho10, hkb⟩; replace HO := ho10; clear ho10; (try replace HJ := jv_kb hkb HJ HOJ.out); (try replace HX := jv_kb hkb HX HOX.out); (try replace RX := range_kb hkb RX hbl); (try replace n1 := cell_kb hkb n1 hbl); (try replace B4 := hkb.2 _ _ _ v_ne B4); (try replace c4_4 : World.cell? _ ⟨_, 4, none⟩ = some (.slice j.v.LA j.v.Ln j.v.Lc) := B4.cell 4); (try replace c4_5 : World.cell? _ ⟨_, 5, none⟩ = some (.slice j.v.FA j.v.Fn j.v.Fc) := B4.cell 5); (try rw [HA.out] at c4_4); (try rw [HA5.out] at c4_5); (try replace HBW := HBW.trans hkb); replace HB := HB.trans hkb; clear hkb; replace hbz := HB.up hbz0)
                        | (go_at_call 26; (refine (quoted_any HO hbz (by exact hqn)).mono ?_); rintro e w2 ⟨v10, rfl, ho10, hkb⟩; replace HO := ho10; clear ho10; (try replace HJ := jv_kb hkb HJ HOJ.out); (try replace HX := jv_kb hkb HX HOX.out); (try replace RX := range_kb hkb RX hbl); (try replace n1 := cell_kb hkb n1 hbl); (try replace B4 := hkb.2 _ _ _ v_ne B4); (try replace c4_4 : World.cell? _ ⟨_, 4, none⟩ = some (.slice j.v.LA j.v.Ln j.v.Lc) := B4.cell 4); (try replace c4_5 : World.cell? _ ⟨_, 5, none⟩ = some (.slice j.v.FA j.v.Fn j.v.Fc) := B4.cell 5); (try rw [HA.out] at c4_4); (try rw [HA5.out] at c4_5); (try replace HBW := HBW.trans hkb); replace HB := HB.trans hkb; clear hkb; replace hbz := HB.up hbz0)
                        | ((with_reducible refine is_slice ?_); refine wpl_slice_at 1 [(0, .int .u8 58)] #[.int .u8 58] ie _ (by rw [hie3]; exact bfill1 _) rfl 42 5 _ rfl rfl Tryz.underlying42 hie1 hie2 (by rw [hie3]; decide) (by rw [hie3]; decide) ?_; intro w9 hw; have hkb := KB.of (base := base) (hid_grow hw) hbz; have B9 := (hid_alloc hw).1; replace HO := HO.below (hid_grow hw); clear hw; (try replace HJ := jv_kb hkb HJ HOJ.out); (try replace HX := jv_kb hkb HX HOX.out); (try replace RX := range_kb hkb RX hbl); (try replace n1 := cell_kb hkb n1 hbl); (try replace B4 := hkb.2 _ _ _ v_ne B4); (try replace c4_4 : World.cell? _ ⟨_, 4, none⟩ = some (.slice j.v.LA j.v.Ln j.v.Lc) := B4.cell 4); (try replace c4_5 : World.cell? _ ⟨_, 5, none⟩ = some (.slice j.v.FA j.v.Fn j.v.Fc) := B4.cell 5); (try rw [HA.out] at c4_4); (try rw [HA5.out] at c4_5); (try replace HBW := HBW.trans hkb); replace HB := HB.trans hkb; clear hkb; replace hbz := HB.up hbz0)
                        | (refine wpl_append_bytesK rfl (.tmp 103) (.tmp 104) 42 rfl Tryz.underlying42 base _ _ rfl HO _ _ [58] 1 rfl rfl (IBox.cells B9 rfl) (by exact hg5) hbz ?_; clear B9; intro v10 w10 ho10 hkb; replace HO := ho10; clear ho10; (try replace HJ := jv_kb hkb HJ HOJ.out); (try replace HX := jv_kb hkb HX HOX.out); (try replace RX := range_kb hkb RX hbl); (try replace n1 := cell_kb hkb n1 hbl); (try replace B4 := hkb.2 _ _ _ v_ne B4); (try replace c4_4 : World.cell? _ ⟨_, 4, none⟩ = some (.slice j.v.LA j.v.Ln j.v.Lc) := B4.cell 4); (try replace c4_5 : World.cell? _ ⟨_, 5, none⟩ = some (.slice j.v.FA j.v.Fn j.v.Fc) := B4.cell 5); (try rw [HA.out] at c4_4); (try rw [HA5.out] at c4_5); (try replace HBW := HBW.trans hkb); replace HB := HB.trans hkb; clear hkb; replace hbz := HB.up hbz0)
                        | (refine wpl_append_text rfl (.tmp 89) (.tmp 90) 42 9 rfl Tryz.underlying42 Tryz.underlying9 base _ _ rfl HO g rfl (by rw [HGL.out, ← HG.out]; exact Nat.le_trans hg1 (by decide)) hbz ?_; intro v10 w10 ho10 hkb; rw [← HG.out] at ho10; replace HO := ho10; clear ho10; (try replace HJ := jv_kb hkb HJ HOJ.out); (try replace HX := jv_kb hkb HX HOX.out); (try replace RX := range_kb hkb RX hbl); (try replace n1 := cell_kb hkb n1 hbl); (try replace B4 := hkb.2 _ _ _ v_ne B4); (try replace c4_4 : World.cell? _ ⟨_, 4, none⟩ = some (.slice j.v.LA j.v.Ln j.v.Lc) := B4.cell 4); (try replace c4_5 : World.cell? _ ⟨_, 5, none⟩ = some (.slice j.v.FA j.v.Fn j.v.Fc) := B4.cell 5); (try rw [HA.out] at c4_4); (try rw [HA5.out] at c4_5); (try replace HBW := HBW.trans hkb); replace HB := HB.trans hkb; clear hkb; replace hbz := HB.up hbz0)
                        | (refine wpl_append_text rfl (.tmp 100) (.tmp 101) 42 9 rfl Tryz.underlying42 Tryz.underlying9 base _ _ rfl HO g rfl (by rw [HGL.out, ← HG.out]; exact Nat.le_trans hg3 (by decide)) hbz ?_; intro v10 w10 ho10 hkb; rw [← HG.out] at ho10; replace HO := ho10; clear ho10; (try replace HJ := jv_kb hkb HJ HOJ.out); (try replace HX := jv_kb hkb HX HOX.out); (try replace RX := range_kb hkb RX hbl); (try replace n1 := cell_kb hkb n1 hbl); (try replace B4 := hkb.2 _ _ _ v_ne B4); (try replace c4_4 : World.cell? _ ⟨_, 4, none⟩ = some (.slice j.v.LA j.v.Ln j.v.Lc) := B4.cell 4); (try replace c4_5 : World.cell? _ ⟨_, 5, none⟩ = some (.slice j.v.FA j.v.Fn j.v.Fc) := B4.cell 5); (try rw [HA.out] at c4_4); (try rw [HA5.out] at c4_5); (try replace HBW := HBW.trans hkb); replace HB := HB.trans hkb; clear hkb; replace hbz := HB.up hbz0)
                        | (refine wpl_append_text rfl (.tmp 106) (.tmp 107) 42 9 rfl Tryz.underlying42 Tryz.underlying9 base _ _ rfl HO g rfl (by rw [HGL.out, ← HG.out]; exact Nat.le_trans hg4 (by decide)) hbz ?_; intro v10 w10 ho10 hkb; rw [← HG.out] at ho10; replace HO := ho10; clear ho10; (try replace HJ := jv_kb hkb HJ HOJ.out); (try replace HX := jv_kb hkb HX HOX.out); (try replace RX := range_kb hkb RX hbl); (try replace n1 := cell_kb hkb n1 hbl); (try replace B4 := hkb.2 _ _ _ v_ne B4); (try replace c4_4 : World.cell? _ ⟨_, 4, none⟩ = some (.slice j.v.LA j.v.Ln j.v.Lc) := B4.cell 4); (try replace c4_5 : World.cell? _ ⟨_, 5, none⟩ = some (.slice j.v.FA j.v.Fn j.v.Fc) := B4.cell 5); (try rw [HA.out] at c4_4); (try rw [HA5.out] at c4_5); (try replace HBW := HBW.trans hkb); replace HB := HB.trans hkb; clear hkb; replace hbz := HB.up hbz0)
                        | (refine wpl_append_text rfl (.tmp 118) (.tmp 119) 42 9 rfl Tryz.underlying42 Tryz.underlying9 base _ _ rfl HO g rfl (by rw [HGL.out, ← HG.out]; exact Nat.le_trans hg2 (by decide)) hbz ?_; intro v10 w10 ho10 hkb; rw [← HG.out] at ho10; replace HO := ho10; clear ho10; (try replace HJ := jv_kb hkb HJ HOJ.out); (try replace HX := jv_kb hkb HX HOX.out); (try replace RX := range_kb hkb RX hbl); (try replace n1 := cell_kb hkb n1 hbl); (try replace B4 := hkb.2 _ _ _ v_ne B4); (try replace c4_4 : World.cell? _ ⟨_, 4, none⟩ = some (.slice j.v.LA j.v.Ln j.v.Lc) := B4.cell 4); (try replace c4_5 : World.cell? _ ⟨_, 5, none⟩ = some (.slice j.v.FA j.v.Fn j.v.Fc) := B4.cell 5); (try rw [HA.out] at c4_4); (try rw [HA5.out] at c4_5); (try replace HBW := HBW.trans hkb); replace HB := HB.trans hkb; clear hkb; replace hbz := HB.up hbz0))
                      go_roundw
                      case rel => exact ⟨q + 1, _, _, rfl, by go_num, by omega, HO, HS2, HLN2, HBW⟩
                      case measure => simp [intOf]; omega
                  · obtain rfl : q = j.v.Fn := by omega
                    clear hq hlt
                    have HLQ : Hid (plX G (er j) l = m ++ [125]) := Lib.hid (by rw [HK.out, HS1.out]; rw [List.drop_eq_nil_of_le (by rw [LN.out]; exact Nat.le_of_eq LV.out.symm), plXF])
                    have hml : m.length + 1 ≤ 1099511627776 := by have := HLN.out; omega
                    go_wp2_with (first
                      | ((with_reducible refine is_slice ?_); refine wpl_slice_at 1 [(0, .int .u8 125)] #[.int .u8 125] ie _ (by rw [hie3]; exact bfill1 _) rfl 42 5 _ rfl rfl Tryz.underlying42 hie1 hie2 (by rw [hie3]; decide) (by rw [hie3]; decide) ?_; intro w9 hw; have hkb := KB.of (base := base) (hid_grow hw) hbz; have B9 := (hid_alloc hw).1; replace HO := HO.below (hid_grow hw); clear hw; (try replace HJ := jv_kb hkb HJ HOJ.out); (try replace HX := jv_kb hkb HX HOX.out); (try replace RX := range_kb hkb RX hbl); (try replace n1 := cell_kb hkb n1 hbl); (try replace B4 := hkb.2 _ _ _ v_ne B4); (try replace c4_4 : World.cell? _ ⟨_, 4, none⟩ = some (.slice j.v.LA j.v.Ln j.v.Lc) := B4.cell 4); (try replace c4_5 : World.cell? _ ⟨_, 5, none⟩ = some (.slice j.v.FA j.v.Fn j.v.Fc) := B4.cell 5); (try rw [HA.out] at c4_4); (try rw [HA5.out] at c4_5); (try replace HBW := HBW.trans hkb); replace HB := HB.trans hkb; clear hkb; replace hbz := HB.up hbz0)
                      | (refine wpl_append_bytesK rfl (.tmp 121) (.tmp 122) 42 rfl Tryz.underlying42 base _ _ rfl HO _ _ [125] 1 rfl rfl (IBox.cells B9 rfl) (by first | omega | (simp; omega)) hbz ?_; clear B9; intro v10 w10 ho10 hkb; replace HO := ho10; clear ho10; (try replace HJ := jv_kb hkb HJ HOJ.out); (try replace HX := jv_kb hkb HX HOX.out); (try replace RX := range_kb hkb RX hbl); (try replace n1 := cell_kb hkb n1 hbl); (try replace B4 := hkb.2 _ _ _ v_ne B4); (try replace c4_4 : World.cell? _ ⟨_, 4, none⟩ = some (.slice j.v.LA j.v.Ln j.v.Lc) := B4.cell 4); (try replace c4_5 : World.cell? _ ⟨_, 5, none⟩ = some (.slice j.v.FA j.v.Fn j.v.Fc) := B4.cell 5); (try rw [HA.out] at c4_4); (try rw [HA5.out] at c4_5); (try replace HBW := HBW.trans hkb); replace HB := HB.trans hkb; clear hkb; replace hbz := HB.up hbz0))
                    go_ret
                    exact AddB.of HO HLQ.out HB
theorem plain_any {j : JV} {base : Nat} {v : Value} {l : List UInt8} {g : ByteArray} {w : World} (hj : IsJV w j) (ho : Off (fun q => base ≤ q) j) (hO : OwnB w base v l) (hb : base ≤ w.heap.size) (hl : l.length + (pr g.data.toList (er j)).length ≤ plTop) :
    Calls Tryz.prog 13 #[v, .agg j.cells, .string g] w (AddB base (plX g.data.toList (er j) l) w) := pl_to _ g j base v l w (Nat.lt_succ_self _) hj ho hO hb hl
end Go.Proofs.YtjhncopbiblenaaGreatDoor
