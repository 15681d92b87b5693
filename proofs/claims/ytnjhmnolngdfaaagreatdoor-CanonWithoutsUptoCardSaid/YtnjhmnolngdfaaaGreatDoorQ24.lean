/- Layer 3: a value whose objects' fields stand the other way round (coveylaw03.turned), walked. Layer 3: the law CanonOne answers true. The document's layer 1: the characters of a sound text, and the order of two. -/
import Derived.Maps.AppendAt
import Derived.Test.YtnjhmnolngdfaaaGreatDoorQ23
import Derived.Test.YtnjhmnolngdfaaaGreatDoorQ16
import Derived.Test.YtnjhmnolngdfaaaGreatDoorQZip
namespace Go.Proofs.YtnjhmnolngdfaaaGreatDoor
section
open Go.RowKit Go.PlainAid
set_option linter.unusedVariables false
set_option linter.unusedSimpArgs false
/-- The result under way: its box, and the row that it holds. -/
structure PK (b1 g : Nat) (E : TypeId) (size : Nat) (arr : Array Value) (v : Value) (n : Nat) (xs : List Value) (acc : List JV) (w : World) : Prop where
  box : IBox w g 25 arr
  own : w.ownsRow b1 E size v n xs
  els : ∀ y ∈ acc, IsJV w y ∧ Off (fun q => q < b1 ∨ v.ownBlock = some q) y
  st : g < b1 ∧ b1 ≤ w.heap.size
section
variable {b1 g : Nat} {E : TypeId} {size : Nat} {arr : Array Value} {v : Value} {n : Nat} {xs : List Value} {acc : List JV} {w w' : World}
theorem PK.below (h : PK b1 g E size arr v n xs acc w) (hb : Below w.heap.size w w') : PK b1 g E size arr v n xs acc w' :=
  ⟨IBox.below h.box hb (IBox.lt h.box), own_below h.own hb, fun y hy => ⟨IsJV.below hb (h.els y hy).1, (h.els y hy).2⟩, ⟨h.st.1, Nat.le_trans h.st.2 hb.size⟩⟩
theorem PK.more (h : PK b1 g E size arr v n xs acc w) {v' : Value} {n' : Nat} {xs' : List Value} {j : JV} (ho : w'.ownsRow b1 E size v' n' xs') (hb : Bes (fun q => v.ownBlock = some q) w w') (hat : v'.ownBlock = v.ownBlock ∨ v'.ownBlock = some w.heap.size)
    (hj : IsJV w j) (hoj : Off (fun q => q < b1 ∨ v.ownBlock = some q) j) : PK b1 g E size arr v' n' xs' (acc ++ [j]) w' := by
  obtain ⟨h1, h2⟩ := h.st
  have lo : ∀ q, v.ownBlock = some q → b1 ≤ q := fun q e => (own_in h.own e).1
  refine ⟨Bes.box hb h.box (fun e => by have := lo g e; omega), ho, fun y hy => ?_, ⟨h1, Nat.le_trans h2 hb.size⟩⟩
  have key : ∀ y : JV, IsJV w y → Off (fun q => q < b1 ∨ v.ownBlock = some q) y → IsJV w' y ∧ Off (fun q => q < b1 ∨ v'.ownBlock = some q) y := fun y a b => by
    refine ⟨IsJV.bes hb a (Off.mono (fun q e => Or.inr e) b), ?_⟩
    refine Off.mono (fun q e => ?_) (Off.or b (off_heap a))
    rcases e with e | e
    · exact .inl (.inl e)
    · rcases hat with h3 | h3
      · exact .inl (.inr (h3 ▸ e))
      · rw [h3] at e
        have e2 := Option.some.inj e
        exact .inr (by show w.heap.size ≤ q; omega)
  rcases List.mem_append.1 hy with hy | hy
  · exact key y (h.els y hy).1 (h.els y hy).2
  · obtain rfl : y = j := by simpa using hy
    exact key y hj hoj
theorem PK.put (h : PK b1 g E size arr v n xs acc w) {arr2 : Array Value} (hw : Hid (w' = w.setRow g arr2)) : PK b1 g E size arr2 v n xs acc w' := by
  have hb := Bes.row (X := fun q => q = g) hw rfl
  refine ⟨hid_row hw h.box, Bes.own hb h.own (fun q e he => ?_), fun y hy => ?_, ⟨h.st.1, Nat.le_trans h.st.2 hb.size⟩⟩
  · have := (own_in h.own e).1; have he2 : q = g := he; have := h.st.1; omega
  · obtain ⟨a, b⟩ := h.els y hy
    exact ⟨IsJV.bes hb a (Off.mono (fun q e => Or.inl (by have e2 : q = g := e; have := h.st.1; omega)) b), b⟩
end
theorem psz_sv : (Tryz.prog.info? 22).map (·.size) = some 1 := by kernel_rfl
theorem psz_sf : (Tryz.prog.info? 23).map (·.size) = some 1 := by kernel_rfl
theorem pk_list {b1 g : Nat} {arr : Array Value} {A : Option Addr} {c : Nat} {acc : List JV} {w : World} (h : PK b1 g 25 6 arr (.slice A acc.length c) acc.length (valL acc) acc w) (hb : acc.length * 80 ≤ reach) : IsJV w (listJ A c acc) ∧ Off (fun q => q < b1) (listJ A c acc) := by
  obtain ⟨A', c', he, hj, _⟩ := own_vals h.own rfl (fun x hx => (h.els x hx).1) hb
  injection he with e1 _ e3
  subst e1 e3
  refine ⟨hj, ?_⟩
  unfold listJ Off
  refine ⟨fun _ a ha e => ?_, fun h => absurd rfl h, offL_of fun x hx => Off.mono (fun q e => Or.inl e) (h.els x hx).2, by unfold OffL; exact True.intro⟩
  have h1 := own_at h.own a ha
  have e2 : a.block < b1 := e
  omega
theorem er_pl {n : Nat} (A : Option Addr) (c : Nat) (acc : List JV) (L : List JT) (h : acc.map er = L.take n) (hn : L.length = n) : er (listJ A c acc) = .mk 4 false 0 ⟨#[]⟩ L [] [] := by
  rw [List.take_of_length_le (by omega)] at h
  rw [← h, ← erL_map]
  unfold listJ
  rw [er_mk]
  rfl
theorem pval_fill (j : JV) : Instr.fill (fun i => some (i * 6, 6)) ((Array.range (1 * 6)).map ((Value.agg JV.zero.cells).cells[· % (Value.agg JV.zero.cells).cells.size]!)) [(0, .agg j.cells)] = some j.cells := by kernel_rfl
theorem jv_nm_le {w : World} {j : JV} (h : IsJV w j) {i : Nat} {n : ByteArray} (hn : j.ns[i]? = some n) : n.size ≤ reach := by
  obtain ⟨v, l, ns, vs⟩ := j
  unfold IsJV at h
  exact (NamesAt.get h.1.2.2.2.2.2.2.2.2 hn).2
theorem pk_obj {b1 g : Nat} {arr : Array Value} {A : Option Addr} {c : Nat} {L : List (ByteArray × JV)} {w : World} (h : PK b1 g 52 7 arr (.slice A L.length c) L.length (fldL L) (L.map (·.2)) w) (hn : ∀ p ∈ L, p.1.size ≤ reach) (hb : L.length * 96 ≤ reach) : IsJV w (objJ A c L) ∧ Off (fun q => q < b1) (objJ A c L) := by
  have hm : ∀ p ∈ L, p.2 ∈ L.map (·.2) := fun p hp => List.mem_map.2 ⟨p, hp, rfl⟩
  obtain ⟨A', c', he, hj⟩ := own_obj h.own rfl (fun p hp => ⟨hn p hp, (h.els _ (hm p hp)).1⟩) hb
  injection he with e1 _ e3
  subst e1 e3
  refine ⟨hj, ?_⟩
  unfold objJ Off
  refine ⟨fun h => absurd rfl h, fun _ a ha e => ?_, by unfold OffL; exact True.intro, offL_of fun x hx => Off.mono (fun q e => Or.inl e) (h.els x hx).2⟩
  have h1 := own_at h.own a ha
  have e2 : a.block < b1 := e
  omega
/-- What turned gives. -/
def TuV (j : JV) (w : World) (e : Ending) (w' : World) : Prop := ∃ k, e = .returned (.agg k.cells) ∧ IsJV w' k ∧ er k = turT (er j) ∧ Off (fun q => q < w.heap.size) k ∧ Below w.heap.size w w'
end
end Go.Proofs.YtnjhmnolngdfaaaGreatDoor
namespace Go.Proofs.YtnjhmnolngdfaaaGreatDoor
section
open Go.RowKit Go.PlainAid
set_option linter.unusedVariables false
set_option linter.unusedSimpArgs false
theorem one_code {c : Int} (h : c = 0 ∨ c = 2 ∨ c = 8) (hc : c ≠ 0) (w : World) : Calls Tryz.prog 12 #[.iface 31 (.int .i64 c)] w fun e w' => e = .returned (.int .i64 c) ∧ w = w' := by
  have := code_e h w
  rwa [errVn hc] at this
theorem own_base {w : World} {a b : Nat} {v : Value} {l : List UInt8} (h : OwnB w b v l) (hab : a ≤ b) : OwnB w a v l := by
  obtain ⟨h1, h2⟩ := h
  refine ⟨h1, ?_⟩
  rcases h2 with h2 | ⟨g, cap, cur, e, hg, r⟩
  · exact .inl h2
  · exact .inr ⟨g, cap, cur, e, Nat.le_trans hab hg, r⟩
theorem WrV.both {j : JV} {w w' : World} {e : Ending} {c : Int} {l : List UInt8} (h : wrtS (er j) = (c, l)) (k : WrV j w e w') : e = .returned (.tuple #[.string ⟨l.toArray⟩, errV c]) ∧ Below w.heap.size w w' := by
  obtain ⟨k1, k2⟩ := k
  rw [h] at k1
  exact ⟨k1, k2⟩
/-- The reference's Plain, from nothing on. -/
theorem rplain_any {j : JV} {g : ByteArray} {w : World} (HJ : IsJV w j) (hl : (pr g.data.toList (er j)).length ≤ plTop) : Calls Tryz.prog 22 #[.slice none 0 0, .agg j.cells, .string g] w fun e w' => ∃ v, e = .returned v ∧ OwnB w' w.heap.size v (plX g.data.toList (er j) []) ∧ Below w.heap.size w w' := by
  have HLL := Lib.hid (show ([] : List UInt8).length + (pr g.data.toList (er j)).length ≤ plTop by rw [List.length_nil]; omega)
  clear hl
  have HB := Below.refl w.heap.size w
  go_enter Tryz.func22, Tryz.ntmps22
  go_wp2_with (first
    | (refine wpl_box_at rfl 25 (.tmp 1) rfl _ rfl ?_; intro w1 hw; have hb := hid_grow hw; have B4 := (hid_alloc hw).1; replace HB := zT HB hb; replace HJ := HJ.below hb; clear hb hw)
    | ((with_reducible refine is_load ?_); refine wpl_load_box rfl 25 (.tmp 4) rfl _ rfl _ _ _ B4 Tryz.underlying25 rfl info_value ?_))
  refine (plain_any (base := w1.heap.size) (l := []) HJ (off_heap HJ) (OwnB.nil _ _) (Nat.le_refl _) HLL.out).mono ?_
  rintro e w6 ⟨v1, rfl, HO1, hK⟩
  have hb := hK.1
  go_wp2
  go_ret
  exact ⟨v1, rfl, own_base HO1 HB.size, zT HB hb⟩
end
end Go.Proofs.YtnjhmnolngdfaaaGreatDoor
namespace Go.Proofs.YtnjhmnolngdfaaaGreatDoor
open Go.RowKit Go.PlainAid
set_option linter.unusedVariables false
set_option linter.unusedSimpArgs false
/-- The characters of a text, in order. -/
def Pts (P : List Int) (l : List UInt8) : Prop := (∀ p ∈ P, Scal p) ∧ P.flatMap Lib.encodeRune = l
theorem pts_next {s : ByteArray} {P : List Int} {k : Nat} (hP : Pts P (s.data.toList.take k)) (hk : k < s.size) (hb : ¬ badU s k) : Pts (P ++ [((Utf8.decode s k).1 : Int)]) (s.data.toList.take (k + (Utf8.decode s k).2)) := by
  have hne : s.data.toList.drop k ≠ [] := by
    intro h
    rw [List.drop_eq_nil_iff] at h
    have : s.data.toList.length = s.size := by simp
    omega
  have hb2 : ¬ ((Lib.decodeL (s.data.toList.drop k)).1 = 65533 ∧ (Lib.decodeL (s.data.toList.drop k)).2 ≤ 1) := by rw [Lib.decodeL_drop]; exact hb
  have h1 := Lib.encode_decode _ hne (fun h => hb2 ⟨h.1, by omega⟩)
  have h2 := dec_scal _ hb2
  rw [Lib.decodeL_drop] at h1 h2
  refine ⟨fun p hp => ?_, ?_⟩
  · rcases List.mem_append.1 hp with hp | hp
    · exact hP.1 p hp
    · obtain rfl : p = _ := by simpa using hp
      exact h2
  · rw [List.flatMap_append, hP.2, List.take_add, List.flatMap_cons, List.flatMap_nil, List.append_nil, h1]
def ints (P : List Int) : List Value := P.map (Value.int .i64)
def PtR (s : ByteArray) (w : World) (e : Ending) (w' : World) : Prop := ∃ v P, e = .returned (.tuple #[v, .int .i64 (-1)]) ∧ w'.ownsRow w.heap.size 3 1 v P.length (ints P) ∧ Pts P s.data.toList ∧ Below w.heap.size w w'
set_option maxRecDepth 10000 in
set_option maxHeartbeats 8000000 in
theorem points_row {s : ByteArray} (hs : s.size ≤ 17592186044400) (hbad : badI s < 0) (w : World) : Calls Tryz.prog 71 #[.string s] w (PtR s w) := by
  obtain ⟨ie, hie1, hie2, hie3, hie4⟩ := vint_info
  have HN := Lib.hid hbad
  clear hbad
  go_enter Tryz.func71, Tryz.ntmps71
  go_wp2
  go_loopw [4, 5] (fun ov av wr => ∃ (k n : Nat) (v : Value) (P : List Int), v = ov ∧ av = .int .i64 k ∧ k ≤ s.size ∧ wr.ownsRow w.heap.size 3 1 v P.length (ints P) ∧ P.length ≤ k ∧ s.size ≤ k + n ∧ Hid (badFrom s n k = badI s) ∧ Hid (Pts P (s.data.toList.take k)) ∧ Below w.heap.size w wr) (fun _ av _ => s.size - (intOf av).toNat)
  case atStart => exact ⟨0, s.size, _, [], rfl, rfl, Nat.zero_le _, ⟨rfl, .inl ⟨rfl, rfl⟩⟩, Nat.le_refl _, by omega, Lib.hid rfl, Lib.hid ⟨(fun p hp => by cases hp), rfl⟩, Below.refl _ _⟩
  case round =>
    obtain ⟨k, n, v, P, rfl, rfl, hk, HO, hmk, hkn, HS, HP, HB⟩ := hrel
    by_cases hlt : k < s.size
    · have hkr : s.size ≤ 140737488355328 := by omega
      have hlt' : (k : Int) < (s.size : Int) := by omega
      obtain ⟨n2, hn2⟩ : ∃ n2, n = n2 + 1 := ⟨n - 1, by omega⟩
      subst hn2
      have hbu : ¬ badU s k := fun h => by
        have h1 := HS.out.symm.trans (bf_bad hlt h)
        have h2 := HN.out
        omega
      have hd := vdec_bounds s k hlt
      have HS2 : Hid (badFrom s n2 (k + (Utf8.decode s k).2) = badI s) := Lib.hid ((bf_go hlt hbu).symm.trans HS.out)
      have HP2 := Lib.hid (pts_next HP.out hlt hbu)
      have hat := atS_ok hbu
      obtain ⟨D1, D2, hD⟩ : ∃ D1 D2, Utf8.decode s k = (D1, D2) := ⟨_, _, rfl⟩
      rw [hD] at hat hd HS2 HP2
      have hd0 : 0 < D2 := hd.1
      have hdl : k + D2 ≤ s.size := hd.2
      have HS3 : Hid (badFrom s n2 (k + D2) = badI s) := HS2
      have HP3 : Hid (Pts (P ++ [(D1 : Int)]) (s.data.toList.take (k + D2))) := HP2
      have hd1 : ¬ (D2 : Int) = 0 := by omega
      have hd2 : (k : Int) + (D2 : Int) ≤ (s.size : Int) := by omega
      have HA := Lib.hid hat
      clear hat hD hbu hd HS HS2 HP HP2
      go_wp2_with (first
        | (go_at_call 91; (with_reducible refine (at_any hlt hkr _).mono ?_); rintro e w2 ⟨rfl, hb⟩; rw [HA.out]; have hbz := HB.size; replace HO := own_below HO (hb.mono (Nat.le_refl _)); replace HB := zT HB hb; clear hb hbz)
        | ((with_reducible refine is_slice ?_); refine wpl_slice_at 1 [(0, .int .i64 (D1 : Int))] #[.int .i64 (D1 : Int)] ie _ (by rw [hie3]; exact vint_fill _) rfl 106 3 _ rfl rfl Tryz.underlying106 hie1 hie2 (by rw [hie3]; decide) (by rw [hie3]; decide) ?_; intro w9 hw; have hb := hid_grow hw; have B9 := (hid_alloc hw).1; clear hw; replace HO := own_below HO hb; replace HB := zT HB hb; clear hb; have hbz := HB.size)
        | (at_builtin; refine wpl_append_fresh rfl (.tmp 22) (.tmp 24) 106 rfl w.heap.size 3 ie _ 1 8 Tryz.underlying106 hie1 hie2 hie3 hie4 rfl (by decide) v P.length (ints P) rfl HO _ 1 #[.int .i64 (D1 : Int)] _ B9 rfl rfl (by simp [Value.oneCell']) (by unfold maxLen; omega) (by omega) hbz ?_; intro v9 w10 ho9 hb9; replace HO := ho9; replace HB := HB.trans hb9; clear ho9 hb9 B9 hbz))
      go_roundw
      case rel => exact ⟨k + D2, n2, v9, P ++ [(D1 : Int)], rfl, by go_num, hdl, by simpa [ints] using HO, by simp; omega, by omega, HS3, HP3, HB⟩
      case measure => simp [intOf]; omega
    · have hlt' : ¬ (k : Int) < (s.size : Int) := by omega
      have hks : s.data.toList.take k = s.data.toList := List.take_of_length_le (by have : s.data.toList.length = s.size := by simp
                                                                                    omega)
      rw [hks] at HP
      clear hks
      go_wp2
      go_ret2
      exact ⟨_, P, rfl, HO, HP.out, HB⟩
theorem below_drw {w w' : World} (h : Below w.heap.size w w') (k : Nat) : Below w.heap.size w (w'.drewN k) := h.trans ((show Below w'.heap.size w' (w'.drewN k) from ⟨rfl, rfl, rfl, Nat.le_refl _, fun _ _ => rfl⟩).mono h.size)
theorem own_ints {w : World} {base : Nat} {E : TypeId} {v : Value} {P : List Int} (h : w.ownsRow base E 1 v P.length (ints P)) : ∃ A c, v = .slice A P.length c ∧ ∀ i p, P[i]? = some p → ∃ g, A = some ⟨g, 0, none⟩ ∧ w.cell? ⟨g, i, none⟩ = some (.int .i64 p) := by
  obtain ⟨_, h2⟩ := h
  rcases h2 with ⟨h2, h3⟩ | ⟨g, cap, cur, e, hb, hg, _, _, hs, ht⟩
  · refine ⟨none, 0, by rw [h3]; exact h2, fun i p hp => ?_⟩
    have : P = [] := List.length_eq_zero_iff.1 h3
    rw [this] at hp
    simp at hp
  · refine ⟨_, cap, e, fun i p hp => ⟨g, rfl, ?_⟩⟩
    have hI : IBox w g E cur := hg
    rw [hI.cell i]
    have h5 : (ints P)[i]? = some (.int .i64 p) := by unfold ints; rw [List.getElem?_map, hp]; rfl
    rw [← ht, List.getElem?_take] at h5
    split at h5
    · simpa using h5
    · cases h5
theorem cmp_step {P Q : List Int} {k : Nat} {p q : Int} (hp : P[k]? = some p) (hq : Q[k]? = some q) : cmpI (P.drop k) (Q.drop k) = if p < q then -1 else if q < p then 1 else cmpI (P.drop (k + 1)) (Q.drop (k + 1)) := by
  obtain ⟨h1, e1⟩ := List.getElem?_eq_some_iff.1 hp
  obtain ⟨h2, e2⟩ := List.getElem?_eq_some_iff.1 hq
  rw [List.drop_eq_getElem_cons h1, List.drop_eq_getElem_cons h2, e1, e2]
  conv => lhs; unfold cmpI
theorem cmp_stop {P Q : List Int} {k : Nat} (hp : k ≤ P.length) (hq : k ≤ Q.length) (h : ¬ (k < P.length ∧ k < Q.length)) : cmpI (P.drop k) (Q.drop k) = if P.length < Q.length then -1 else if Q.length < P.length then 1 else 0 := by
  cases hx : P.drop k with
  | nil =>
    have h1 := congrArg List.length hx
    rw [List.length_drop, List.length_nil] at h1
    cases hy : Q.drop k with
    | nil =>
      have h2 := congrArg List.length hy
      rw [List.length_drop, List.length_nil] at h2
      rw [if_neg (by omega), if_neg (by omega)]
      rfl
    | cons y r =>
      have h2 := congrArg List.length hy
      rw [List.length_drop, List.length_cons] at h2
      rw [if_pos (by omega)]
      rfl
  | cons x r =>
    have h1 := congrArg List.length hx
    rw [List.length_drop, List.length_cons] at h1
    cases hy : Q.drop k with
    | nil =>
      have h2 := congrArg List.length hy
      rw [List.length_drop, List.length_nil] at h2
      rw [if_neg (by omega), if_pos (by omega)]
      rfl
    | cons y r2 =>
      have h2 := congrArg List.length hy
      rw [List.length_drop, List.length_cons] at h2
      omega
theorem enc_pos (p : Int) : 1 ≤ (Lib.encodeRune p).length := by
  cases h : Lib.encodeRune p with
  | nil => exact absurd h (enc_ne p)
  | cons c r => simp
theorem pts_len : ∀ (P : List Int), P.length ≤ (P.flatMap Lib.encodeRune).length
  | [] => Nat.le_refl _
  | p :: r => by
    rw [List.flatMap_cons, List.length_append, List.length_cons]
    have := enc_pos p
    have := pts_len r
    omega
theorem ints_below {w w' : World} {A : Option Addr} {P : List Int} (hb : Below w.heap.size w w') (h : ∀ i p, P[i]? = some p → ∃ g, A = some ⟨g, 0, none⟩ ∧ w.cell? ⟨g, i, none⟩ = some (.int .i64 p)) : ∀ i p, P[i]? = some p → ∃ g, A = some ⟨g, 0, none⟩ ∧ w'.cell? ⟨g, i, none⟩ = some (.int .i64 p) := fun i p hp => by
  obtain ⟨g, h1, h2⟩ := h i p hp
  exact ⟨g, h1, cell_below hb h2⟩
set_option maxRecDepth 10000 in
set_option maxHeartbeats 8000000 in
theorem cmpr_any {a b : ByteArray} (ha : a.size ≤ 1048576) (hb : b.size ≤ 1048576) (hba : badI a < 0) (hbb : badI b < 0) (w : World) : Calls Tryz.prog 49 #[.string a, .string b] w fun e w' => e = .returned (.int .i64 (cmpN a b)) ∧ Below w.heap.size w w' := by
  have HB := Below.refl w.heap.size w
  have HA := Lib.hid ha
  have HBS := Lib.hid hb
  have HBA := Lib.hid hba
  have HBB := Lib.hid hbb
  clear ha hb hba hbb
  go_enter Tryz.func49, Tryz.ntmps49
  go_wp2_with fail
  refine (points_row (by have := HA.out; omega) HBA.out _).mono ?_
  rintro e w1 ⟨v1, P, rfl, HO1, HP, hb⟩
  obtain ⟨A1, c1, rfl, HC1⟩ := own_ints HO1
  replace HB := zT HB hb
  clear hb HO1
  go_wp2_with fail
  refine (points_row (by have := HBS.out; omega) HBB.out _).mono ?_
  rintro e w2 ⟨v2, Q, rfl, HO2, HQ, hb⟩
  obtain ⟨A2, c2, rfl, HC2⟩ := own_ints HO2
  replace HB := zT HB hb
  replace HC1 := Lib.hid (ints_below hb HC1)
  replace HC2 := Lib.hid HC2
  clear hb HO2
  have HE : Hid (cmpI P Q = cmpN a b) := Lib.hid (by unfold cmpN; rw [← HP.2, ← HQ.2, cmp_pts P Q HP.1 HQ.1])
  have hPl : P.length ≤ 1048576 := by
    have h1 := pts_len P
    rw [HP.2] at h1
    have h2 := HA.out
    have h3 : a.data.toList.length = a.size := by simp
    omega
  have hQl : Q.length ≤ 1048576 := by
    have h1 := pts_len Q
    rw [HQ.2] at h1
    have h2 := HBS.out
    have h3 : b.data.toList.length = b.size := by simp
    omega
  clear HP HQ
  go_wp2
  go_loopw [9] (fun iv wr => ∃ k : Nat, iv = .int .i64 k ∧ k ≤ P.length ∧ k ≤ Q.length ∧ Hid (cmpI (P.drop k) (Q.drop k) = cmpN a b) ∧ Below w2.heap.size w2 wr) (fun iv _ => P.length - (intOf iv).toNat)
  case atStart => exact ⟨0, rfl, Nat.zero_le _, Nat.zero_le _, Lib.hid (by rw [List.drop_zero, List.drop_zero]; exact HE.out), Below.refl _ _⟩
  case round =>
    obtain ⟨k, rfl, hk1, hk2, HX, HD⟩ := hrel
    have HBW := zT HB HD
    by_cases h12 : k < P.length ∧ k < Q.length
    · obtain ⟨h1, h2⟩ := h12
      obtain ⟨p, hp⟩ : ∃ p, P[k]? = some p := ⟨_, List.getElem?_eq_getElem h1⟩
      obtain ⟨q, hq⟩ : ∃ q, Q[k]? = some q := ⟨_, List.getElem?_eq_getElem h2⟩
      obtain ⟨g1, e1, x1⟩ := ints_below HD HC1.out k p hp
      obtain ⟨g2, e2, x2⟩ := ints_below HD HC2.out k q hq
      subst e1 e2
      have HY := Lib.hid ((cmp_step hp hq).symm.trans HX.out)
      clear hp hq
      by_cases hlt : p < q
      · have HZ : Hid ((-1 : Int) = cmpN a b) := Lib.hid (by have := HY.out; rwa [if_pos hlt] at this)
        go_wp2
        go_quiet (fail)
        go_wp2
        go_ret
        exact ⟨ret_int HZ.out, below_drw HBW _⟩
      · by_cases hgt : q < p
        · have HZ : Hid ((1 : Int) = cmpN a b) := Lib.hid (by have := HY.out; rwa [if_neg hlt, if_pos hgt] at this)
          go_wp2
          go_quiet (fail)
          go_wp2
          go_quiet (fail)
          go_wp2
          go_ret
          exact ⟨ret_int HZ.out, below_drw (below_drw HBW _) _⟩
        · have HZ : Hid (cmpI (P.drop (k + 1)) (Q.drop (k + 1)) = cmpN a b) := Lib.hid (by have := HY.out; rwa [if_neg hlt, if_neg hgt] at this)
          go_wp2
          go_quiet (fail)
          go_wp2
          go_quiet (fail)
          go_wp2
          go_roundw
          case rel => exact ⟨k + 1, by go_num, h1, h2, HZ, below_drw HD _⟩
          case measure => simp [intOf]; omega
    · have HZ := Lib.hid ((cmp_stop hk1 hk2 h12).symm.trans HX.out)
      rcases Nat.lt_trichotomy P.length Q.length with h | h | h
      · have HW : Hid ((-1 : Int) = cmpN a b) := Lib.hid (by have := HZ.out; rwa [if_pos h] at this)
        have hk : ¬ k < P.length := by omega
        go_wp2
        go_ret
        exact ⟨ret_int HW.out, HBW⟩
      · have HW : Hid ((0 : Int) = cmpN a b) := Lib.hid (by have := HZ.out; rwa [if_neg (by omega), if_neg (by omega)] at this)
        have hk : ¬ k < P.length := by omega
        go_wp2
        go_ret
        exact ⟨ret_int HW.out, HBW⟩
      · have HW : Hid ((1 : Int) = cmpN a b) := Lib.hid (by have := HZ.out; rwa [if_neg (by omega), if_pos h] at this)
        have hk : ¬ k < Q.length := by omega
        have hk3 : k < P.length := by omega
        go_wp2
        go_ret
        exact ⟨ret_int HW.out, HBW⟩
end Go.Proofs.YtnjhmnolngdfaaaGreatDoor
