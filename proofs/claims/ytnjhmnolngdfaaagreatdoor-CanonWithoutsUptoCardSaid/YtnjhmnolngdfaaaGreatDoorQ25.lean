/- Layer 3: the one form of a value, by the document (coveyref03.Normed): words. Layer 3: the one form of a value, by the document (coveyref03.Normed): leaves. -/
import Derived.Test.YtnjhmnolngdfaaaGreatDoorQ24
import Derived.Test.YtnjhmnolngdfaaaGreatDoorQZip
namespace Go.Proofs.YtnjhmnolngdfaaaGreatDoor
open Go.RowKit Go.PlainAid
set_option linter.unusedVariables false
set_option linter.unusedSimpArgs false
theorem pbl_kind (k : Int) (w : World) : (Instr.build 25 ([(0, .int .i64 k)] : List (Nat × Value)).toArray).run Tryz.prog w = .ok (.agg (leafJ k false 0 ⟨#[]⟩).cells) w := by kernel_rfl
theorem psz_bool : (Tryz.prog.info? 4).map (·.size) = some 1 := by kernel_rfl
theorem psz_i64 : (Tryz.prog.info? 2).map (·.size) = some 1 := by kernel_rfl
theorem psz_str : (Tryz.prog.info? 9).map (·.size) = some 1 := by kernel_rfl
/-- What Normed gives. -/
def NdV (j : JV) (w : World) (e : Ending) (w' : World) : Prop := ∃ k, e = .returned (.agg k.cells) ∧ IsJV w' k ∧ er k = nrmT (er j) ∧ Off (fun q => q < w.heap.size) k ∧ Below w.heap.size w w'
theorem nd_leaf {j : JV} {w w' : World} {k i : Int} {b : Bool} {t : ByteArray} (hk : I64 k) (hi : I64 i) (ht : t.size ≤ reach) (he : nrmT (er j) = .mk k b i t [] [] []) (hb : Below w.heap.size w w') : NdV j w (.returned (.agg (leafJ k b i t).cells)) w' := by
  obtain ⟨h1, h2, h3⟩ := leaf_ok w' w hk hi ht
  exact ⟨_, rfl, h1, h2.trans he.symm, h3, hb⟩
theorem nrm_eq (j : JV) : nrmT (er j) = if j.v.kind = 1 then .mk 1 j.v.b 0 ⟨#[]⟩ [] [] [] else if j.v.kind = 2 then .mk 2 false j.v.i ⟨#[]⟩ [] [] [] else if j.v.kind = 3 then .mk 3 false 0 j.v.t [] [] []
    else if j.v.kind = 4 then .mk 4 false 0 ⟨#[]⟩ ((erL j.l).map nrmT) [] [] else if j.v.kind = 5 then .mk 5 false 0 ⟨#[]⟩ [] ((fldN j.ns (erL j.vs)).map (·.1)) ((fldN j.ns (erL j.vs)).map (·.2)) else .mk j.v.kind false 0 ⟨#[]⟩ [] [] [] := by
  rw [er_mk]
  by_cases h1 : j.v.kind = 1
  · rw [if_pos h1, h1, nrm_1]
  · by_cases h2 : j.v.kind = 2
    · rw [if_neg h1, if_pos h2, h2, nrm_2]
    · by_cases h3 : j.v.kind = 3
      · rw [if_neg h1, if_neg h2, if_pos h3, h3, nrm_3]
      · by_cases h4 : j.v.kind = 4
        · rw [if_neg h1, if_neg h2, if_neg h3, if_pos h4, h4, nrm_4]
        · by_cases h5 : j.v.kind = 5
          · rw [if_neg h1, if_neg h2, if_neg h3, if_neg h4, if_pos h5, h5, nrm_5]
          · rw [if_neg h1, if_neg h2, if_neg h3, if_neg h4, if_neg h5, nrm_else h1 h2 h3 h4 h5]
/-- What lies behind a region that goes in several orders, said once. -/
theorem wpAnyH_share {X : Type} {P : Program} {md : Region.Mode} {ops : Array Oper} {Q : Exit → Act → World → Prop} {S : World → Prop} {n : Nat} {l : Array Bool} {a : Act} {w : World} (act : X → Act → Act) (F : X → World → Prop)
    (h1 : Hid (∀ x a' w', F x w' → a' = act x a → Q .normal a' w') → wpAnyH P md ops Q S n l a w)
    (h2 : ∀ x w', F x w' → Q .normal (act x a) w') : wpAnyH P md ops Q S n l a w := h1 (Lib.hid fun x a' w' hf e => e ▸ h2 x w' hf)
theorem posR_map {α β : Type} {g : ByteArray × α → ByteArray × β} (hg : ∀ p, (g p).1 = p.1) (L : List (ByteArray × α)) (nm : ByteArray) : ∀ k, posR (L.map g) nm k = posR L nm k
  | 0 => rfl
  | k + 1 => by
    unfold posR
    rw [List.getElem?_map]
    cases L[k]? with
    | none => rfl
    | some p =>
      simp only [Option.map_some, hg p, posR_map hg L nm k]
theorem insF_map {α β : Type} {g : ByteArray × α → ByteArray × β} (hg : ∀ p, (g p).1 = p.1) (L : List (ByteArray × α)) (f : ByteArray × α) : (insF L f).map g = insF (L.map g) (g f) := by
  unfold insF
  rw [List.map_append, List.map_cons, List.map_take, List.map_drop, hg f, posR_map hg, List.length_map]
theorem insF_len {α : Type} (L : List (ByteArray × α)) (f : ByteArray × α) : (insF L f).length = L.length + 1 := by
  have := (insF_perm L f).length_eq
  simpa using this
/-- One step of the field to the left. -/
theorem bub_step {α : Type} {L : List α} {m : Nat} {p f : α} (hp : L[m]? = some p) : ((L.take (m + 1) ++ f :: L.drop (m + 1)).set (m + 1) p).set m f = L.take m ++ f :: L.drop m := by
  obtain ⟨h1, h2⟩ := List.getElem?_eq_some_iff.1 hp
  have e1 : L.take (m + 1) = L.take m ++ [p] := take_next hp
  have e2 : L.drop m = p :: L.drop (m + 1) := by rw [List.drop_eq_getElem_cons h1, h2]
  have l1 : (L.take m).length = m := by rw [List.length_take]; omega
  rw [e1, e2, List.set_append_right _ _ (by rw [List.length_append, l1]; simp), show m + 1 - (L.take m ++ [p]).length = 0 by rw [List.length_append, l1]; simp, List.set_cons_zero, List.append_assoc,
    List.set_append_right _ _ (by omega), l1, Nat.sub_self]
  rfl
theorem bub_get {α : Type} {L : List α} {m : Nat} {f : α} (hm : m < L.length) : (L.take (m + 1) ++ f :: L.drop (m + 1))[m]? = L[m]? := by
  rw [List.getElem?_append_left (by rw [List.length_take]; omega), List.getElem?_take, if_pos (by omega)]
theorem bub_len {α : Type} {L : List α} {m : Nat} {f : α} : (L.take m ++ f :: L.drop m).length = L.length + 1 := by
  rw [List.length_append, List.length_take, List.length_cons, List.length_drop]; omega
/-- Told values, and their parts. -/
def SndE (t : JT) : Prop := ∃ d, sndT t d = true
theorem snd_list {j : JV} (hk : j.v.kind = 4) (h : SndE (er j)) {i : Nat} {x : JV} (hx : j.l[i]? = some x) : SndE (er x) := by
  obtain ⟨d, h⟩ := h
  rw [er_mk, hk, snd_4, Bool.and_eq_true, sndL_iff] at h
  exact ⟨_, h.1 _ (by rw [erL_map]; exact List.mem_map_of_mem (List.mem_of_getElem? hx))⟩
theorem snd_obj {j : JV} (hk : j.v.kind = 5) (hl : j.ns.length = j.vs.length) (h : SndE (er j)) : (∀ n ∈ j.ns, badI n < 0) ∧ ∀ (i : Nat) (x : JV), j.vs[i]? = some x → SndE (er x) := by
  obtain ⟨d, h⟩ := h
  rw [er_mk, hk, snd_5, Bool.and_eq_true, sndF_iff _ _ _ _ (by rw [erL_len]; exact hl)] at h
  exact ⟨fun n hn => (h.1.1 n hn).1, fun i x hx => ⟨_, h.1.2.1 _ (by rw [erL_map]; exact List.mem_map_of_mem (List.mem_of_getElem? hx))⟩⟩
section
variable {b1 g : Nat} {E : TypeId} {size : Nat} {arr : Array Value} {v : Value} {n : Nat} {xs xs' : List Value} {acc acc' : List JV} {w w' : World}
theorem PK.same (h : PK b1 g E size arr v n xs acc w) (ho : w'.ownsRow b1 E size v n xs') (hb : Bes (fun q => v.ownBlock = some q) w w') : PK b1 g E size arr v n xs' acc w' := by
  obtain ⟨h1, h2⟩ := h.st
  have lo : ∀ q, v.ownBlock = some q → b1 ≤ q := fun q e => (own_in h.own e).1
  exact ⟨Bes.box hb h.box (fun e => by have := lo g e; omega), ho, fun y hy => ⟨IsJV.bes hb (h.els y hy).1 (Off.mono (fun q e => Or.inr e) (h.els y hy).2), (h.els y hy).2⟩, ⟨h1, Nat.le_trans h2 hb.size⟩⟩
theorem PK.reacc (h : PK b1 g E size arr v n xs acc w) (ha : ∀ y ∈ acc', y ∈ acc) : PK b1 g E size arr v n xs acc' w := ⟨h.box, h.own, fun y hy => h.els y (ha y hy), h.st⟩
end
/-- What a round reads: a value's box, one field. -/
def LSW (g bl off : Nat) (yc : Array Value) (xs : List Value) (w : World) : Prop := IBox w g 25 yc ∧ w.rangeAt bl off xs
theorem LSW.to {g bl off : Nat} {yc : Array Value} {xs : List Value} {w w' : World} (h : LSW g bl off yc xs w) (e : ∀ k, k = g ∨ k = bl → w'.heap[k]? = w.heap[k]?) : LSW g bl off yc xs w' :=
  ⟨(e g (.inl rfl)).trans h.1, range_block (e bl (.inr rfl)) h.2⟩
theorem LSW.lt {g bl off : Nat} {yc : Array Value} {p : ByteArray × JV} {w : World} (h : LSW g bl off yc (fldA p).toList w) {k : Nat} (hk : k = g ∨ k = bl) : k < w.heap.size := by
  rcases hk with rfl | rfl
  · exact h.1.lt
  · exact block_lt_of_cell (h.2 0 (.string p.1) rfl)
theorem Bes.sub {X Y : Nat → Prop} {w w' : World} (h : Bes X w w') (hXY : ∀ k, X k → Y k) : Bes Y w w' := ⟨h.os, h.tape, h.output, h.size, fun k hk hn => h.block k hk (fun x => hn (hXY k x))⟩
theorem own_some {w : World} {base : Nat} {E : TypeId} {size : Nat} {v : Value} {n : Nat} {xs : List Value} (h : w.ownsRow base E size v (n + 1) xs) : ∃ g c, v = .slice (some ⟨g, 0, none⟩) (n + 1) c := by
  rcases h.2 with ⟨_, h0⟩ | ⟨g, cap, cur, hv, _⟩
  · cases h0
  · exact ⟨g, cap, hv⟩
section
variable {ops : Array Oper} {rest : List Oper} {o : Oper} {a : Act} {w : World} {Q : Exit → Act → World → Prop} {K : Act → World → Prop}
theorem wpl_append_pk (hgd : o.guard = none) (s x : Operand) (t : TypeId)
    (ho : o.op = .call { callee := .builtin .append, args := #[s, x], argTypes := #[t, t] })
    {b1 g0 : Nat} {e : TypeId} {arr : Array Value} (i : TypeInfo) (z : Value) (size bytes : Nat) (ht : Tryz.prog.underlying t = some (.slice e)) (hi : Tryz.prog.info? e = some i) (hz : i.zero = some z)
    (hsize : i.size = size) (hby : i.bytes = bytes) (hzs : z.cells.size = size) (hsz : 0 < size)
    (v : Value) (n : Nat) (xs : List Value) (acc : List JV) (j : JV) (hs : a.eval s = v) (hk : PK b1 g0 e size arr v n xs acc w)
    (g c : Nat) (cells : Array Value) (ty : TypeId) (IB : IBox w g ty cells) (hcs : cells.size = size) (hx : a.eval x = .slice (some ⟨g, 0, none⟩) 1 c) (h1 : cells.all (·.oneCell') = true)
    (hj : IsJV w j) (hoj : Off (fun q => q < b1 ∨ v.ownBlock = some q) j) (h63 : n + 1 ≤ maxLen) (hbytes : (n + 1) * bytes ≤ 140737488355328)
    (h : ∀ ga cap w', PK b1 g0 e size arr (.slice (some ⟨ga, 0, none⟩) (n + 1) cap) (n + 1) (xs ++ cells.toList) (acc ++ [j]) w' → Bes (fun q => v.ownBlock = some q) w w' → (v.ownBlock = some ga ∨ ga = w.heap.size) → wpList Tryz.prog ops Q rest (a.put o.dst (.slice (some ⟨ga, 0, none⟩) (n + 1) cap)) w') : wpList Tryz.prog ops Q (o :: rest) a w := by
  refine wpList_append_own_at w hgd s x t ho b1 e i z size bytes ht hi hz hsize hby hzs hsz v n xs hs hk.own ⟨g, 0, none⟩ 1 c cells.toList hx (by simp [hcs]) ?_ ?_ h63 hbytes hk.st.2 ?_
  · intro j u hu
    have hadd : (⟨g, 0, none⟩ : Addr).add j = ⟨g, j, none⟩ := by unfold Addr.add; split <;> simp_all
    rw [hadd, IB.cell]
    simpa using hu
  · intro u hu
    have := Array.all_eq_true_iff_forall_mem.1 h1 u (by simpa using hu)
    exact this
  · intro v' w' h2 h3 _ h5
    have hb := Bes.grown (X := fun q => v.ownBlock = some q) h3 (fun _ e => e)
    obtain ⟨ga, cap, rfl⟩ := own_some h2
    refine h ga cap w' (hk.more h2 hb h5 hj hoj) hb ?_
    rcases h5 with h5 | h5
    · exact .inl h5.symm
    · exact .inr (Option.some.inj h5)
theorem op_store_fld (x y : Operand) (ho : o.op = .store 52 x y) {base g n c : Nat} {R : List (ByteArray × JV)} (h : w.ownsRow base 52 7 (.slice (some ⟨g, 0, none⟩) n c) n (fldL R)) (hR : R.length = n) {i : Nat} (hi : i < n) (p : ByteArray × JV)
    (hx : a.eval x = .pointer (some ⟨g, i * 7, none⟩)) (hy : a.eval y = .agg (fldA p)) (hQ : ∀ w', w'.ownsRow base 52 7 (.slice (some ⟨g, 0, none⟩) n c) n (fldL (R.set i p)) → Bes (fun q => q = g) w w' → K (a.put o.dst undef) w') : o.wp Tryz.prog a w K Q := by
  obtain ⟨h1, h2, h3⟩ := own_set h hR hi p
  exact wp_store_mid 52 x y ho g (i * 7) (fldA p) hx hy h1 info_field7 (fld_one p) (hQ _ h2 h3)
end
theorem jv_nm_le2 {w : World} {j : JV} (h : IsJV w j) {n : ByteArray} (hn : n ∈ j.ns) : n.size ≤ reach := by
  obtain ⟨i, hi⟩ := List.getElem?_of_mem hn
  exact jv_nm_le h hi
theorem er_no (A : Option Addr) (c : Nat) (L : List (ByteArray × JV)) (M : List (ByteArray × JT)) (h : (L.map fun p => (p.1, er p.2)) = M) : er (objJ A c L) = .mk 5 false 0 ⟨#[]⟩ [] (M.map (·.1)) (M.map (·.2)) := by
  rw [er_obj, ← h, List.map_map, List.map_map]
  rfl
end Go.Proofs.YtnjhmnolngdfaaaGreatDoor
namespace Go.Proofs.YtnjhmnolngdfaaaGreatDoor
open Go.RowKit Go.PlainAid
set_option linter.unusedVariables false
set_option linter.unusedSimpArgs false
set_option maxRecDepth 100000 in
set_option maxHeartbeats 8000000 in
theorem nd_leaves {j : JV} {w : World} (HJ : IsJV w j) (hs : SzT (er j) ≤ 1048576) (hk4 : j.v.kind ≠ 4) (hk5 : j.v.kind ≠ 5) : Calls Tryz.prog 29 #[.agg j.cells] w (NdV j w) := by
    obtain ⟨l1, l2, l3, l4, l5⟩ := jv_lens HJ
    obtain ⟨s1, s2, s3, s4⟩ := sz_parts j
    have hI : I64 j.v.kind ∧ I64 j.v.i ∧ j.v.t.size ≤ reach := by obtain ⟨v, _, _, _⟩ := j; unfold IsJV at HJ; exact ⟨HJ.1.1, HJ.1.2.1, HJ.1.2.2.1⟩
    have HI := Lib.hid hI
    have HP := Lib.hid (nrm_eq j)
    have LL := Lib.hid l1
    have LV := Lib.hid l2
    have LN := Lib.hid l3
    have S3 := Lib.hid s3
    have S4 := Lib.hid s4
    have HSS := Lib.hid hs
    have hLn : j.v.Ln ≤ 1048576 := by omega
    have hFn : j.v.Fn ≤ 1048576 := by omega
    clear l1 l2 l3 hI s1 s2 s3 s4 hs
    have HB := Below.refl w.heap.size w
    by_cases hk1 : j.v.kind = 1
    · have HK : Hid (nrmT (er j) = .mk 1 j.v.b 0 ⟨#[]⟩ [] [] []) := Lib.hid (by rw [HP.out, if_pos hk1])
      have HKD := Lib.hid hk1
      clear hk1
      go_enter Tryz.func29, Tryz.ntmps29
      go_wp2_with (first
        | (refine wpl_newbox 3 rfl rfl 25 rfl rfl (.tmp 10) rfl _ zeroV (leafJ 1 false 0 ⟨#[]⟩).cells rfl rfl info_value rfl (jv_one _) ?_; intro w3 hw; have hb := hid_grow hw; have B3 := (hid_alloc hw).1; have hz3 := Lib.hid (hid_alloc hw).2.1; replace B1 := zI B1 hb; replace B2 := zI B2 hb; replace HB := zT HB hb; replace HJ := HJ.below hb; clear hb hw; clear c1_0; have c1_0 : w3.cell? ⟨_, 0, none⟩ = some (.int .i64 1) := (B1.cell 0).trans (by rw [← HKD.out]; rfl); have c1_1 : w3.cell? ⟨_, 1, none⟩ = some (.bool j.v.b) := B1.cell 1; have c1_2 : w3.cell? ⟨_, 2, none⟩ = some (.int .i64 j.v.i) := B1.cell 2; have c1_3 : w3.cell? ⟨_, 3, none⟩ = some (.string j.v.t) := B1.cell 3; have c1_4 : w3.cell? ⟨_, 4, none⟩ = some (.slice j.v.LA j.v.Ln j.v.Lc) := B1.cell 4; have c1_5 : w3.cell? ⟨_, 5, none⟩ = some (.slice j.v.FA j.v.Fn j.v.Fc) := B1.cell 5; have hzz : w1.heap.size = w.heap.size + 1 ∧ w2.heap.size = w.heap.size + 2 ∧ w3.heap.size = w.heap.size + 3 := (by have := hz1.out; have := hz2.out; have := hz3.out; omega); have HZ := Lib.hid hzz; clear hzz hz1 hz2 hz3)
        | (refine wpl_box_at rfl 25 (.tmp 0) rfl _ rfl ?_; intro w1 hw; have hb := hid_grow hw; have B1 := (hid_alloc hw).1; have hz1 := Lib.hid (hid_alloc hw).2.1; replace HB := zT HB hb; replace HJ := HJ.below hb; clear hb hw)
        | ((with_reducible refine is_alloc ?_); refine wpl_alloc_at rfl 25 rfl _ zeroV ?_; intro w2 hw; have hb := hid_grow hw; have B2 := hid_alloc0 hw; have hz2 := Lib.hid (hid_alloc hw).2.1; replace B1 := zI B1 hb; replace HB := zT HB hb; replace HJ := HJ.below hb; clear hb hw; have c1_0 : w2.cell? ⟨_, 0, none⟩ = some (.int .i64 1) := (B1.cell 0).trans (by rw [← HKD.out]; rfl))
        | ((with_reducible refine is_build ?_); refine wpl_build_at (vals := _) (pbl_kind 1) rfl _ rfl rfl ?_)
        | ((with_reducible refine is_store ?_); refine wpl_store_cell rfl 4 (.tmp 17) (.tmp 16) rfl w2.heap.size 1 rfl _ rfl _ _ B3 (by decide) psz_bool rfl ?_; intro w4 hw; have hbe := Bes.row (X := fun q => q = w2.heap.size) hw rfl; replace HB := HB.trans (Bes.below hbe (fun q e => by have e2 : q = w2.heap.size := e; have := HZ.out; omega) HB.size); replace B2 := Bes.box hbe B2 (fun e => by have := HZ.out; omega); replace B3 := hid_row hw B3; clear hw hbe)
        | ((with_reducible refine is_load ?_); refine wpl_load_box rfl 25 (.tmp 3) rfl _ rfl _ (leafJ 1 j.v.b 0 ⟨#[]⟩).cells _ B3 Tryz.underlying25 rfl info_value ?_)
        | ((with_reducible refine is_store ?_); refine wpl_store_at rfl 25 (.tmp 2) (.tmp 114) rfl w1.heap.size (leafJ 1 j.v.b 0 ⟨#[]⟩).cells rfl rfl _ _ B2 info_value rfl (jv_one _) ?_; intro w5 hw; have hbe := Bes.row (X := fun q => q = w1.heap.size) hw rfl; replace HB := HB.trans (Bes.below hbe (fun q e => by have e2 : q = w1.heap.size := e; have := HZ.out; omega) HB.size); replace B2 := hid_row hw B2; clear hw hbe))
      refine bodyPost_ret (results_box rfl _ _ w1.heap.size _ (leafJ 1 j.v.b 0 ⟨#[]⟩).cells _ rfl B2 Tryz.underlying25 rfl info_value) rfl ?_
      exact nd_leaf i64_1 mi0 mze HK.out HB
    · by_cases hk2 : j.v.kind = 2
      · have HK : Hid (nrmT (er j) = .mk 2 false j.v.i ⟨#[]⟩ [] [] []) := Lib.hid (by rw [HP.out, if_neg hk1, if_pos hk2])
        have HKD := Lib.hid hk2
        clear hk1 hk2
        go_enter Tryz.func29, Tryz.ntmps29
        go_wp2_with (first
          | (refine wpl_newbox 3 rfl rfl 25 rfl rfl (.tmp 10) rfl _ zeroV (leafJ 2 false 0 ⟨#[]⟩).cells rfl rfl info_value rfl (jv_one _) ?_; intro w3 hw; have hb := hid_grow hw; have B3 := (hid_alloc hw).1; have hz3 := Lib.hid (hid_alloc hw).2.1; replace B1 := zI B1 hb; replace B2 := zI B2 hb; replace HB := zT HB hb; replace HJ := HJ.below hb; clear hb hw; clear c1_0; have c1_0 : w3.cell? ⟨_, 0, none⟩ = some (.int .i64 2) := (B1.cell 0).trans (by rw [← HKD.out]; rfl); have c1_1 : w3.cell? ⟨_, 1, none⟩ = some (.bool j.v.b) := B1.cell 1; have c1_2 : w3.cell? ⟨_, 2, none⟩ = some (.int .i64 j.v.i) := B1.cell 2; have c1_3 : w3.cell? ⟨_, 3, none⟩ = some (.string j.v.t) := B1.cell 3; have c1_4 : w3.cell? ⟨_, 4, none⟩ = some (.slice j.v.LA j.v.Ln j.v.Lc) := B1.cell 4; have c1_5 : w3.cell? ⟨_, 5, none⟩ = some (.slice j.v.FA j.v.Fn j.v.Fc) := B1.cell 5; have hzz : w1.heap.size = w.heap.size + 1 ∧ w2.heap.size = w.heap.size + 2 ∧ w3.heap.size = w.heap.size + 3 := (by have := hz1.out; have := hz2.out; have := hz3.out; omega); have HZ := Lib.hid hzz; clear hzz hz1 hz2 hz3)
          | (refine wpl_box_at rfl 25 (.tmp 0) rfl _ rfl ?_; intro w1 hw; have hb := hid_grow hw; have B1 := (hid_alloc hw).1; have hz1 := Lib.hid (hid_alloc hw).2.1; replace HB := zT HB hb; replace HJ := HJ.below hb; clear hb hw)
          | ((with_reducible refine is_alloc ?_); refine wpl_alloc_at rfl 25 rfl _ zeroV ?_; intro w2 hw; have hb := hid_grow hw; have B2 := hid_alloc0 hw; have hz2 := Lib.hid (hid_alloc hw).2.1; replace B1 := zI B1 hb; replace HB := zT HB hb; replace HJ := HJ.below hb; clear hb hw; have c1_0 : w2.cell? ⟨_, 0, none⟩ = some (.int .i64 2) := (B1.cell 0).trans (by rw [← HKD.out]; rfl))
          | ((with_reducible refine is_build ?_); refine wpl_build_at (vals := _) (pbl_kind 2) rfl _ rfl rfl ?_)
          | ((with_reducible refine is_store ?_); refine wpl_store_cell rfl 2 (.tmp 22) (.tmp 21) rfl w2.heap.size 2 rfl _ rfl _ _ B3 (by decide) psz_i64 rfl ?_; intro w4 hw; have hbe := Bes.row (X := fun q => q = w2.heap.size) hw rfl; replace HB := HB.trans (Bes.below hbe (fun q e => by have e2 : q = w2.heap.size := e; have := HZ.out; omega) HB.size); replace B2 := Bes.box hbe B2 (fun e => by have := HZ.out; omega); replace B3 := hid_row hw B3; clear hw hbe)
          | ((with_reducible refine is_load ?_); refine wpl_load_box rfl 25 (.tmp 3) rfl _ rfl _ (leafJ 2 false j.v.i ⟨#[]⟩).cells _ B3 Tryz.underlying25 rfl info_value ?_)
          | ((with_reducible refine is_store ?_); refine wpl_store_at rfl 25 (.tmp 2) (.tmp 114) rfl w1.heap.size (leafJ 2 false j.v.i ⟨#[]⟩).cells rfl rfl _ _ B2 info_value rfl (jv_one _) ?_; intro w5 hw; have hbe := Bes.row (X := fun q => q = w1.heap.size) hw rfl; replace HB := HB.trans (Bes.below hbe (fun q e => by have e2 : q = w1.heap.size := e; have := HZ.out; omega) HB.size); replace B2 := hid_row hw B2; clear hw hbe))
        refine bodyPost_ret (results_box rfl _ _ w1.heap.size _ (leafJ 2 false j.v.i ⟨#[]⟩).cells _ rfl B2 Tryz.underlying25 rfl info_value) rfl ?_
        exact nd_leaf i64_2 HI.out.2.1 mze HK.out HB
      · by_cases hk3 : j.v.kind = 3
        · have HK : Hid (nrmT (er j) = .mk 3 false 0 j.v.t [] [] []) := Lib.hid (by rw [HP.out, if_neg hk1, if_neg hk2, if_pos hk3])
          have HKD := Lib.hid hk3
          clear hk1 hk2 hk3
          go_enter Tryz.func29, Tryz.ntmps29
          go_wp2_with (first
            | (refine wpl_newbox 3 rfl rfl 25 rfl rfl (.tmp 10) rfl _ zeroV (leafJ 3 false 0 ⟨#[]⟩).cells rfl rfl info_value rfl (jv_one _) ?_; intro w3 hw; have hb := hid_grow hw; have B3 := (hid_alloc hw).1; have hz3 := Lib.hid (hid_alloc hw).2.1; replace B1 := zI B1 hb; replace B2 := zI B2 hb; replace HB := zT HB hb; replace HJ := HJ.below hb; clear hb hw; clear c1_0; have c1_0 : w3.cell? ⟨_, 0, none⟩ = some (.int .i64 3) := (B1.cell 0).trans (by rw [← HKD.out]; rfl); have c1_1 : w3.cell? ⟨_, 1, none⟩ = some (.bool j.v.b) := B1.cell 1; have c1_2 : w3.cell? ⟨_, 2, none⟩ = some (.int .i64 j.v.i) := B1.cell 2; have c1_3 : w3.cell? ⟨_, 3, none⟩ = some (.string j.v.t) := B1.cell 3; have c1_4 : w3.cell? ⟨_, 4, none⟩ = some (.slice j.v.LA j.v.Ln j.v.Lc) := B1.cell 4; have c1_5 : w3.cell? ⟨_, 5, none⟩ = some (.slice j.v.FA j.v.Fn j.v.Fc) := B1.cell 5; have hzz : w1.heap.size = w.heap.size + 1 ∧ w2.heap.size = w.heap.size + 2 ∧ w3.heap.size = w.heap.size + 3 := (by have := hz1.out; have := hz2.out; have := hz3.out; omega); have HZ := Lib.hid hzz; clear hzz hz1 hz2 hz3)
            | (refine wpl_box_at rfl 25 (.tmp 0) rfl _ rfl ?_; intro w1 hw; have hb := hid_grow hw; have B1 := (hid_alloc hw).1; have hz1 := Lib.hid (hid_alloc hw).2.1; replace HB := zT HB hb; replace HJ := HJ.below hb; clear hb hw)
            | ((with_reducible refine is_alloc ?_); refine wpl_alloc_at rfl 25 rfl _ zeroV ?_; intro w2 hw; have hb := hid_grow hw; have B2 := hid_alloc0 hw; have hz2 := Lib.hid (hid_alloc hw).2.1; replace B1 := zI B1 hb; replace HB := zT HB hb; replace HJ := HJ.below hb; clear hb hw; have c1_0 : w2.cell? ⟨_, 0, none⟩ = some (.int .i64 3) := (B1.cell 0).trans (by rw [← HKD.out]; rfl))
            | ((with_reducible refine is_build ?_); refine wpl_build_at (vals := _) (pbl_kind 3) rfl _ rfl rfl ?_)
            | ((with_reducible refine is_store ?_); refine wpl_store_cell rfl 9 (.tmp 27) (.tmp 26) rfl w2.heap.size 3 rfl _ rfl _ _ B3 (by decide) psz_str rfl ?_; intro w4 hw; have hbe := Bes.row (X := fun q => q = w2.heap.size) hw rfl; replace HB := HB.trans (Bes.below hbe (fun q e => by have e2 : q = w2.heap.size := e; have := HZ.out; omega) HB.size); replace B2 := Bes.box hbe B2 (fun e => by have := HZ.out; omega); replace B3 := hid_row hw B3; clear hw hbe)
            | ((with_reducible refine is_load ?_); refine wpl_load_box rfl 25 (.tmp 3) rfl _ rfl _ (leafJ 3 false 0 j.v.t).cells _ B3 Tryz.underlying25 rfl info_value ?_)
            | ((with_reducible refine is_store ?_); refine wpl_store_at rfl 25 (.tmp 2) (.tmp 114) rfl w1.heap.size (leafJ 3 false 0 j.v.t).cells rfl rfl _ _ B2 info_value rfl (jv_one _) ?_; intro w5 hw; have hbe := Bes.row (X := fun q => q = w1.heap.size) hw rfl; replace HB := HB.trans (Bes.below hbe (fun q e => by have e2 : q = w1.heap.size := e; have := HZ.out; omega) HB.size); replace B2 := hid_row hw B2; clear hw hbe))
          refine bodyPost_ret (results_box rfl _ _ w1.heap.size _ (leafJ 3 false 0 j.v.t).cells _ rfl B2 Tryz.underlying25 rfl info_value) rfl ?_
          exact nd_leaf i64_3 mi0 HI.out.2.2 HK.out HB
        · have HK : Hid (nrmT (er j) = .mk j.v.kind false 0 ⟨#[]⟩ [] [] []) := Lib.hid (by rw [HP.out, if_neg hk1, if_neg hk2, if_neg hk3, if_neg hk4, if_neg hk5])
          have q1 : (j.v.kind == 1) = false := by simpa using hk1
          have q2 : (j.v.kind == 2) = false := by simpa using hk2
          have q3 : (j.v.kind == 3) = false := by simpa using hk3
          have q4 : (j.v.kind == 4) = false := by simpa using hk4
          have q5 : (j.v.kind == 5) = false := by simpa using hk5
          clear hk1 hk2 hk3 hk4 hk5
          go_enter Tryz.func29, Tryz.ntmps29
          go_wp2_with (first
            | (refine wpl_newbox 3 rfl rfl 25 rfl rfl (.tmp 10) rfl _ zeroV (leafJ j.v.kind false 0 ⟨#[]⟩).cells rfl rfl info_value rfl (jv_one _) ?_; intro w3 hw; have hb := hid_grow hw; have B3 := (hid_alloc hw).1; have hz3 := Lib.hid (hid_alloc hw).2.1; replace B1 := zI B1 hb; replace B2 := zI B2 hb; replace HB := zT HB hb; replace HJ := HJ.below hb; clear hb hw; clear c1_0; have c1_0 : w3.cell? ⟨_, 0, none⟩ = some (.int .i64 j.v.kind) := (B1.cell 0).trans (by rfl); have c1_1 : w3.cell? ⟨_, 1, none⟩ = some (.bool j.v.b) := B1.cell 1; have c1_2 : w3.cell? ⟨_, 2, none⟩ = some (.int .i64 j.v.i) := B1.cell 2; have c1_3 : w3.cell? ⟨_, 3, none⟩ = some (.string j.v.t) := B1.cell 3; have c1_4 : w3.cell? ⟨_, 4, none⟩ = some (.slice j.v.LA j.v.Ln j.v.Lc) := B1.cell 4; have c1_5 : w3.cell? ⟨_, 5, none⟩ = some (.slice j.v.FA j.v.Fn j.v.Fc) := B1.cell 5; have hzz : w1.heap.size = w.heap.size + 1 ∧ w2.heap.size = w.heap.size + 2 ∧ w3.heap.size = w.heap.size + 3 := (by have := hz1.out; have := hz2.out; have := hz3.out; omega); have HZ := Lib.hid hzz; clear hzz hz1 hz2 hz3)
            | (refine wpl_box_at rfl 25 (.tmp 0) rfl _ rfl ?_; intro w1 hw; have hb := hid_grow hw; have B1 := (hid_alloc hw).1; have hz1 := Lib.hid (hid_alloc hw).2.1; replace HB := zT HB hb; replace HJ := HJ.below hb; clear hb hw)
            | ((with_reducible refine is_alloc ?_); refine wpl_alloc_at rfl 25 rfl _ zeroV ?_; intro w2 hw; have hb := hid_grow hw; have B2 := hid_alloc0 hw; have hz2 := Lib.hid (hid_alloc hw).2.1; replace B1 := zI B1 hb; replace HB := zT HB hb; replace HJ := HJ.below hb; clear hb hw; have c1_0 : w2.cell? ⟨_, 0, none⟩ = some (.int .i64 j.v.kind) := (B1.cell 0).trans (by rfl))
            | ((with_reducible refine is_build ?_); refine wpl_build_at (vals := _) (pbl_kind j.v.kind) rfl _ rfl rfl ?_)
            | ((with_reducible refine is_load ?_); refine wpl_load_box rfl 25 (.tmp 3) rfl _ rfl _ (leafJ j.v.kind false 0 ⟨#[]⟩).cells _ B3 Tryz.underlying25 rfl info_value ?_)
            | ((with_reducible refine is_store ?_); refine wpl_store_at rfl 25 (.tmp 2) (.tmp 114) rfl w1.heap.size (leafJ j.v.kind false 0 ⟨#[]⟩).cells rfl rfl _ _ B2 info_value rfl (jv_one _) ?_; intro w5 hw; have hbe := Bes.row (X := fun q => q = w1.heap.size) hw rfl; replace HB := HB.trans (Bes.below hbe (fun q e => by have e2 : q = w1.heap.size := e; have := HZ.out; omega) HB.size); replace B2 := hid_row hw B2; clear hw hbe))
          refine bodyPost_ret (results_box rfl _ _ w1.heap.size _ (leafJ j.v.kind false 0 ⟨#[]⟩).cells _ rfl B2 Tryz.underlying25 rfl info_value) rfl ?_
          exact nd_leaf HI.out.1 mi0 mze HK.out HB
end Go.Proofs.YtnjhmnolngdfaaaGreatDoor
