/- Layer 3: a value whose objects' fields stand the other way round (coveylaw03.turned), walked. Layer 3: the law CanonOne answers true. The document's layer 1: the characters of a sound text, and the -/
import Derived.Maps.AppendAt
import Derived.Test.YtnjhmnolngdfaaaGreatDoorQ18
import Derived.Test.YtnjhmnolngdfaaaGreatDoorQ11
import Derived.Test.YtnjhmnolngdfaaaGreatDoorQZip
set_option linter.unusedVariables false
set_option linter.unusedSimpArgs false
set_option maxHeartbeats 16000000
set_option maxRecDepth 100000
namespace Go.Proofs.YtnjhmnolngdfaaaGreatDoor
section
open Go.RowKit Go.PlainAid
structure PK (b1 g : Nat) (E : TypeId) (size : Nat) (arr : Array Value) (v : Value) (n : Nat) (xs : List Value) (acc : List JV) (w : World) : Prop where
  box : qAW w g 25 arr
  own : w.ownsRow b1 E size v n xs
  els : ∀ y ∈ acc, qAi w y ∧ Off (fun q => q < b1 ∨ v.ownBlock = some q) y
  st : g < b1 ∧ b1 ≤ w.heap.size
section
variable {b1 g : Nat} {E : TypeId} {size : Nat} {arr : Array Value} {v : Value} {n : Nat} {xs : List Value} {acc : List JV} {w w' : World}
theorem PK.below (h : PK b1 g E size arr v n xs acc w) (hb : Below w.heap.size w w') : PK b1 g E size arr v n xs acc w' :=
  ⟨qAW.below h.box hb (qAW.lt h.box), qBY h.own hb, fun y hy => ⟨qAi.below hb (h.els y hy).1, (h.els y hy).2⟩, ⟨h.st.1, Nat.le_trans h.st.2 hb.size⟩⟩
theorem PK.more (h : PK b1 g E size arr v n xs acc w) {v' : Value} {n' : Nat} {xs' : List Value} {j : JV} (ho : w'.ownsRow b1 E size v' n' xs') (hb : Bes (fun q => v.ownBlock = some q) w w') (hat : v'.ownBlock = v.ownBlock ∨ v'.ownBlock = some w.heap.size)
    (hj : qAi w j) (hoj : Off (fun q => q < b1 ∨ v.ownBlock = some q) j) : PK b1 g E size arr v' n' xs' (acc ++ [j]) w' := by
  obtain ⟨h1, h2⟩ := h.st; (have lo : ∀ q, v.ownBlock = some q → b1 ≤ q := fun q e => (qAh h.own e).1); refine ⟨Bes.box hb h.box (fun e => by have := lo g e; omega), ho, fun y hy => ?_, ⟨h1, Nat.le_trans h2 hb.size⟩⟩
  have key : ∀ y : JV, qAi w y → Off (fun q => q < b1 ∨ v.ownBlock = some q) y → qAi w' y ∧ Off (fun q => q < b1 ∨ v'.ownBlock = some q) y := fun y a b => by
    refine ⟨qAi.bes hb a (Off.mono (fun q e => Or.inr e) b), ?_⟩; refine Off.mono (fun q e => ?_) (Off.or b (qCD a)); rcases e with e | e
    · exact .inl (.inl e)
    · rcases hat with h3 | h3
      · exact .inl (.inr (h3 ▸ e))
      · rw [h3] at e; have e2 := Option.some.inj e; exact .inr (by show w.heap.size ≤ q; omega)
  rcases List.mem_append.1 hy with hy | hy
  · exact key y (h.els y hy).1 (h.els y hy).2
  · (obtain rfl : y = j := by simpa using hy); exact key y hj hoj
theorem PK.put (h : PK b1 g E size arr v n xs acc w) {arr2 : Array Value} (hw : Hid (w' = w.setRow g arr2)) : PK b1 g E size arr2 v n xs acc w' := by
  have hb := Bes.row (X := fun q => q = g) hw rfl; refine ⟨qAQ hw h.box, Bes.own hb h.own (fun q e he => ?_), fun y hy => ?_, ⟨h.st.1, Nat.le_trans h.st.2 hb.size⟩⟩
  · have := (qAh h.own e).1; have he2 : q = g := he; have := h.st.1; omega
  · obtain ⟨a, b⟩ := h.els y hy; exact ⟨qAi.bes hb a (Off.mono (fun q e => Or.inl (by have e2 : q = g := e; have := h.st.1; omega)) b), b⟩
end
theorem qLq : (Tryz.prog.info? 22).map (·.size) = some 1 := by kernel_rfl
theorem qPU : (Tryz.prog.info? 23).map (·.size) = some 1 := by kernel_rfl
theorem qNo {b1 g : Nat} {arr : Array Value} {A : Option Addr} {c : Nat} {acc : List JV} {w : World} (h : PK b1 g 25 6 arr (.slice A acc.length c) acc.length (qDK acc) acc w) (hb : acc.length * 80 ≤ qAy) : qAi w (qBy A c acc) ∧ Off (fun q => q < b1) (qBy A c acc) := by
  obtain ⟨A', c', he, hj, _⟩ := qD7 h.own rfl (fun x hx => (h.els x hx).1) hb; injection he with e1 _ e3; subst e1 e3; refine ⟨hj, ?_⟩; unfold qBy Off; refine ⟨fun _ a ha e => ?_, fun h => absurd rfl h, qCi fun x hx => Off.mono (fun q e => Or.inl e) (h.els x hx).2, by unfold qCd; exact True.intro⟩; have h1 := qFI h.own a ha; have e2 : a.block < b1 := e; omega
theorem qP1 {n : Nat} (A : Option Addr) (c : Nat) (acc : List JV) (L : List JT) (h : acc.map er = L.take n) (hn : L.length = n) : er (qBy A c acc) = .mk 4 false 0 ⟨#[]⟩ L [] [] := by
  rw [List.take_of_length_le (by omega)] at h; rw [← h, ← qBw]; unfold qBy; rw [qBs]; rfl
theorem qFZ (j : JV) : Instr.fill (fun i => some (i * 6, 6)) ((Array.range (1 * 6)).map ((Value.agg JV.zero.cells).cells[· % (Value.agg JV.zero.cells).cells.size]!)) [(0, .agg j.cells)] = some j.cells := by kernel_rfl
theorem qL5 {w : World} {j : JV} (h : qAi w j) {i : Nat} {n : ByteArray} (hn : j.ns[i]? = some n) : n.size ≤ qAy := by
  obtain ⟨v, l, ns, vs⟩ := j; unfold qAi at h; exact (qBA.get h.1.2.2.2.2.2.2.2.2 hn).2
theorem qPi {b1 g : Nat} {arr : Array Value} {A : Option Addr} {c : Nat} {L : List (ByteArray × JV)} {w : World} (h : PK b1 g 52 7 arr (.slice A L.length c) L.length (qCB L) (L.map (·.2)) w) (hn : ∀ p ∈ L, p.1.size ≤ qAy) (hb : L.length * 96 ≤ qAy) : qAi w (qDD A c L) ∧ Off (fun q => q < b1) (qDD A c L) := by
  (have hm : ∀ p ∈ L, p.2 ∈ L.map (·.2) := fun p hp => List.mem_map.2 ⟨p, hp, rfl⟩); obtain ⟨A', c', he, hj⟩ := qGu h.own rfl (fun p hp => ⟨hn p hp, (h.els _ (hm p hp)).1⟩) hb; injection he with e1 _ e3; subst e1 e3; refine ⟨hj, ?_⟩; unfold qDD Off; refine ⟨fun h => absurd rfl h, fun _ a ha e => ?_, by unfold qCd; exact True.intro, qCi fun x hx => Off.mono (fun q e => Or.inl e) (h.els x hx).2⟩; have h1 := qFI h.own a ha; have e2 : a.block < b1 := e; omega
def TuV (j : JV) (w : World) (e : Ending) (w' : World) : Prop := ∃ k, e = .returned (.agg k.cells) ∧ qAi w' k ∧ er k = qQQ (er j) ∧ Off (fun q => q < w.heap.size) k ∧ Below w.heap.size w w'
end
end Go.Proofs.YtnjhmnolngdfaaaGreatDoor
namespace Go.Proofs.YtnjhmnolngdfaaaGreatDoor
section
open Go.RowKit Go.PlainAid
theorem qMq {w : World} {a b : Nat} {v : Value} {l : List UInt8} (h : qCg w b v l) (hab : a ≤ b) : qCg w a v l := by
  obtain ⟨h1, h2⟩ := h; refine ⟨h1, ?_⟩; rcases h2 with h2 | ⟨g, cap, cur, e, hg, r⟩
  · exact .inl h2
  · exact .inr ⟨g, cap, cur, e, Nat.le_trans hab hg, r⟩
theorem WrV.both {j : JV} {w w' : World} {e : Ending} {c : Int} {l : List UInt8} (h : qBz (er j) = (c, l)) (k : WrV j w e w') : e = .returned (.tuple #[.string ⟨l.toArray⟩, qQF c]) ∧ Below w.heap.size w w' := by
  obtain ⟨k1, k2⟩ := k; rw [h] at k1; exact ⟨k1, k2⟩
theorem qGE {j : JV} {g : ByteArray} {w : World} (HJ : qAi w j) (hl : (pr g.data.toList (er j)).length ≤ qCA) : Calls Tryz.prog 22 #[.slice none 0 0, .agg j.cells, .string g] w fun e w' => ∃ v, e = .returned v ∧ qCg w' w.heap.size v (plX g.data.toList (er j) []) ∧ Below w.heap.size w w' := by
  have HLL := Lib.hid (show ([] : List UInt8).length + (pr g.data.toList (er j)).length ≤ qCA by rw [List.length_nil]; omega); clear hl; have HB := Below.refl w.heap.size w; go_enter Tryz.func22, Tryz.ntmps22
  go_wp2_with (first
    | (refine qAM rfl 25 (.tmp 1) rfl _ rfl ?_; intro w1 hw; have hb := qAD hw; have B4 := (qAC hw).1; replace HB := zT HB hb; replace HJ := HJ.below hb; clear hb hw)
    | ((with_reducible refine qAR ?_); refine qAL rfl 25 (.tmp 4) rfl _ rfl _ _ _ B4 Tryz.underlying25 rfl qAA ?_))
  refine (qLF (base := w1.heap.size) (l := []) HJ (qCD HJ) (qCg.nil _ _) (Nat.le_refl _) HLL.out).mono ?_; rintro e w6 ⟨v1, rfl, HO1, hK⟩; have hb := hK.1; go_wp2; go_ret; exact ⟨v1, rfl, qMq HO1 HB.size, zT HB hb⟩
end
end Go.Proofs.YtnjhmnolngdfaaaGreatDoor
namespace Go.Proofs.YtnjhmnolngdfaaaGreatDoor
open Go.RowKit Go.PlainAid
def Pts (P : List Int) (l : List UInt8) : Prop := (∀ p ∈ P, qDp p) ∧ P.flatMap Lib.encodeRune = l
theorem qMI {s : ByteArray} {P : List Int} {k : Nat} (hP : Pts P (s.data.toList.take k)) (hk : k < s.size) (hb : ¬ qDq s k) : Pts (P ++ [((Utf8.decode s k).1 : Int)]) (s.data.toList.take (k + (Utf8.decode s k).2)) := by
  have hne : s.data.toList.drop k ≠ [] := by
    intro h; rw [List.drop_eq_nil_iff] at h; (have : s.data.toList.length = s.size := by simp); omega
  (have hb2 : ¬ ((Lib.decodeL (s.data.toList.drop k)).1 = 65533 ∧ (Lib.decodeL (s.data.toList.drop k)).2 ≤ 1) := by rw [Lib.decodeL_drop]; exact hb); have h1 := Lib.encode_decode _ hne (fun h => hb2 ⟨h.1, by omega⟩); have h2 := qIr _ hb2; rw [Lib.decodeL_drop] at h1 h2; refine ⟨fun p hp => ?_, ?_⟩
  · rcases List.mem_append.1 hp with hp | hp
    · exact hP.1 p hp
    · (obtain rfl : p = _ := by simpa using hp); exact h2
  · rw [List.flatMap_append, hP.2, List.take_add, List.flatMap_cons, List.flatMap_nil, List.append_nil, h1]
def qOc (P : List Int) : List Value := P.map (Value.int .i64)
def PtR (s : ByteArray) (w : World) (e : Ending) (w' : World) : Prop := ∃ v P, e = .returned (.tuple #[v, .int .i64 (-1)]) ∧ w'.ownsRow w.heap.size 3 1 v P.length (qOc P) ∧ Pts P s.data.toList ∧ Below w.heap.size w w'
theorem qF3 {s : ByteArray} (hs : s.size ≤ 17592186044400) (hbad : qCk s < 0) (w : World) : Calls Tryz.prog 71 #[.string s] w (PtR s w) := by
  obtain ⟨ie, hie1, hie2, hie3, hie4⟩ := qHj; have HN := Lib.hid hbad; clear hbad; go_enter Tryz.func71, Tryz.ntmps71; go_wp2
  go_loopw [4, 5] (fun ov av wr => ∃ (k n : Nat) (v : Value) (P : List Int), v = ov ∧ av = .int .i64 k ∧ k ≤ s.size ∧ wr.ownsRow w.heap.size 3 1 v P.length (qOc P) ∧ P.length ≤ k ∧ s.size ≤ k + n ∧ Hid (qBv s n k = qCk s) ∧ Hid (Pts P (s.data.toList.take k)) ∧ Below w.heap.size w wr) (fun _ av _ => s.size - (intOf av).toNat)
  case atStart => exact ⟨0, s.size, _, [], rfl, rfl, Nat.zero_le _, ⟨rfl, .inl ⟨rfl, rfl⟩⟩, Nat.le_refl _, by omega, Lib.hid rfl, Lib.hid ⟨(fun p hp => by cases hp), rfl⟩, Below.refl _ _⟩
  case round =>
    obtain ⟨k, n, v, P, rfl, rfl, hk, HO, hmk, hkn, HS, HP, HB⟩ := hrel
    by_cases hlt : k < s.size
    · (have hkr : s.size ≤ 140737488355328 := by omega); (have hlt' : (k : Int) < (s.size : Int) := by omega); obtain ⟨n2, hn2⟩ : ∃ n2, n = n2 + 1 := ⟨n - 1, by omega⟩; subst hn2
      have hbu : ¬ qDq s k := fun h => by
        have h1 := HS.out.symm.trans (qKk hlt h); have h2 := HN.out; omega
      have hd := qFm s k hlt; have HS2 : Hid (qBv s n2 (k + (Utf8.decode s k).2) = qCk s) := Lib.hid ((qOL hlt hbu).symm.trans HS.out); have HP2 := Lib.hid (qMI HP.out hlt hbu); have hat := qJS hbu; obtain ⟨D1, D2, hD⟩ : ∃ D1 D2, Utf8.decode s k = (D1, D2) := ⟨_, _, rfl⟩; rw [hD] at hat hd HS2 HP2; have hd0 : 0 < D2 := hd.1; have hdl : k + D2 ≤ s.size := hd.2; have HS3 : Hid (qBv s n2 (k + D2) = qCk s) := HS2; have HP3 : Hid (Pts (P ++ [(D1 : Int)]) (s.data.toList.take (k + D2))) := HP2; (have hd1 : ¬ (D2 : Int) = 0 := by omega); (have hd2 : (k : Int) + (D2 : Int) ≤ (s.size : Int) := by omega); have HA := Lib.hid hat; clear hat hD hbu hd HS HS2 HP HP2
      go_wp2_with (first
        | (go_at_call 91; (with_reducible refine (qIb hlt hkr _).mono ?_); rintro e w2 ⟨rfl, hb⟩; rw [HA.out]; have hbz := HB.size; replace HO := qBY HO (hb.mono (Nat.le_refl _)); replace HB := zT HB hb; clear hb hbz)
        | ((with_reducible refine qAm ?_); refine qAU 1 [(0, .int .i64 (D1 : Int))] #[.int .i64 (D1 : Int)] ie _ (by rw [hie3]; exact qHl _) rfl 106 3 _ rfl rfl Tryz.underlying106 hie1 hie2 (by rw [hie3]; decide) (by rw [hie3]; decide) ?_; intro w9 hw; have hb := qAD hw; have B9 := (qAC hw).1; clear hw; replace HO := qBY HO hb; replace HB := zT HB hb; clear hb; have hbz := HB.size)
        | (at_builtin; refine qDH rfl (.tmp 22) (.tmp 24) 106 rfl w.heap.size 3 ie _ 1 8 Tryz.underlying106 hie1 hie2 hie3 hie4 rfl (by decide) v P.length (qOc P) rfl HO _ 1 #[.int .i64 (D1 : Int)] _ B9 rfl rfl (by simp [Value.oneCell']) (by unfold maxLen; omega) (by omega) hbz ?_; intro v9 w10 ho9 hb9; replace HO := ho9; replace HB := HB.trans hb9; clear ho9 hb9 B9 hbz))
      go_roundw
      case rel => exact ⟨k + D2, n2, v9, P ++ [(D1 : Int)], rfl, by go_num, hdl, by simpa [qOc] using HO, by simp; omega, by omega, HS3, HP3, HB⟩
      case measure => simp [intOf]; omega
    · have hlt' : ¬ (k : Int) < (s.size : Int) := by omega
      have hks : s.data.toList.take k = s.data.toList := List.take_of_length_le (by
          have : s.data.toList.length = s.size := by simp
          omega)
      rw [hks] at HP; clear hks; go_wp2; go_ret2; exact ⟨_, P, rfl, HO, HP.out, HB⟩
theorem qD1 {w w' : World} (h : Below w.heap.size w w') (k : Nat) : Below w.heap.size w (w'.drewN k) := h.trans ((show Below w'.heap.size w' (w'.drewN k) from ⟨rfl, rfl, rfl, Nat.le_refl _, fun _ _ => rfl⟩).mono h.size)
theorem qJC {w : World} {base : Nat} {E : TypeId} {v : Value} {P : List Int} (h : w.ownsRow base E 1 v P.length (qOc P)) : ∃ A c, v = .slice A P.length c ∧ ∀ i p, P[i]? = some p → ∃ g, A = some ⟨g, 0, none⟩ ∧ w.cell? ⟨g, i, none⟩ = some (.int .i64 p) := by
  obtain ⟨_, h2⟩ := h; rcases h2 with ⟨h2, h3⟩ | ⟨g, cap, cur, e, hb, hg, _, _, hs, ht⟩
  · refine ⟨none, 0, by rw [h3]; exact h2, fun i p hp => ?_⟩; have : P = [] := List.length_eq_zero_iff.1 h3; rw [this] at hp; simp at hp
  · refine ⟨_, cap, e, fun i p hp => ⟨g, rfl, ?_⟩⟩; have hI : qAW w g E cur := hg; rw [hI.cell i]; (have h5 : (qOc P)[i]? = some (.int .i64 p) := by unfold qOc; rw [List.getElem?_map, hp]; rfl); rw [← ht, List.getElem?_take] at h5
    split at h5
    · simpa using h5
    · cases h5
theorem qMX {P Q : List Int} {k : Nat} {p q : Int} (hp : P[k]? = some p) (hq : Q[k]? = some q) : qLy (P.drop k) (Q.drop k) = if p < q then -1 else if q < p then 1 else qLy (P.drop (k + 1)) (Q.drop (k + 1)) := by
  obtain ⟨h1, e1⟩ := List.getElem?_eq_some_iff.1 hp; obtain ⟨h2, e2⟩ := List.getElem?_eq_some_iff.1 hq; rw [List.drop_eq_getElem_cons h1, List.drop_eq_getElem_cons h2, e1, e2]
  conv => lhs; unfold qLy
theorem qMi {P Q : List Int} {k : Nat} (hp : k ≤ P.length) (hq : k ≤ Q.length) (h : ¬ (k < P.length ∧ k < Q.length)) : qLy (P.drop k) (Q.drop k) = if P.length < Q.length then -1 else if Q.length < P.length then 1 else 0 := by
 cases hx : P.drop k with
 | nil =>
  have h1 := congrArg List.length hx; rw [List.length_drop, List.length_nil] at h1
  cases hy : Q.drop k with
  | nil =>
   have h2 := congrArg List.length hy; rw [List.length_drop, List.length_nil] at h2; rw [if_neg (by omega), if_neg (by omega)]; rfl
  | cons y r =>
   have h2 := congrArg List.length hy; rw [List.length_drop, List.length_cons] at h2; rw [if_pos (by omega)]; rfl
 | cons x r =>
  have h1 := congrArg List.length hx; rw [List.length_drop, List.length_cons] at h1
  cases hy : Q.drop k with
  | nil =>
   have h2 := congrArg List.length hy; rw [List.length_drop, List.length_nil] at h2; rw [if_neg (by omega), if_pos (by omega)]; rfl
  | cons y r2 =>
   have h2 := congrArg List.length hy; rw [List.length_drop, List.length_cons] at h2; omega
theorem qNX (p : Int) : 1 ≤ (Lib.encodeRune p).length := by
  cases h : Lib.encodeRune p with
  | nil => exact absurd h (qHX p)
  | cons c r => simp
theorem qIY : ∀ (P : List Int), P.length ≤ (P.flatMap Lib.encodeRune).length
  | [] => Nat.le_refl _
  | p :: r => by
    rw [List.flatMap_cons, List.length_append, List.length_cons]; have := qNX p; have := qIY r; omega
theorem qEa {w w' : World} {A : Option Addr} {P : List Int} (hb : Below w.heap.size w w') (h : ∀ i p, P[i]? = some p → ∃ g, A = some ⟨g, 0, none⟩ ∧ w.cell? ⟨g, i, none⟩ = some (.int .i64 p)) : ∀ i p, P[i]? = some p → ∃ g, A = some ⟨g, 0, none⟩ ∧ w'.cell? ⟨g, i, none⟩ = some (.int .i64 p) := fun i p hp => by
  obtain ⟨g, h1, h2⟩ := h i p hp; exact ⟨g, h1, qAB hb h2⟩
theorem qM0 {a b : ByteArray} (ha : a.size ≤ 1048576) (hb : b.size ≤ 1048576) (hba : qCk a < 0) (hbb : qCk b < 0) (w : World) : Calls Tryz.prog 49 #[.string a, .string b] w fun e w' => e = .returned (.int .i64 (qCz a b)) ∧ Below w.heap.size w w' := by
 have HB := Below.refl w.heap.size w; have HA := Lib.hid ha; have HBS := Lib.hid hb; have HBA := Lib.hid hba; have HBB := Lib.hid hbb; clear ha hb hba hbb; go_enter Tryz.func49, Tryz.ntmps49
 go_wp2_with fail
 refine (qF3 (by have := HA.out; omega) HBA.out _).mono ?_; rintro e w1 ⟨v1, P, rfl, HO1, HP, hb⟩; obtain ⟨A1, c1, rfl, HC1⟩ := qJC HO1; replace HB := zT HB hb; clear hb HO1
 go_wp2_with fail
 refine (qF3 (by have := HBS.out; omega) HBB.out _).mono ?_; rintro e w2 ⟨v2, Q, rfl, HO2, HQ, hb⟩; obtain ⟨A2, c2, rfl, HC2⟩ := qJC HO2; replace HB := zT HB hb; replace HC1 := Lib.hid (qEa hb HC1); replace HC2 := Lib.hid HC2; clear hb HO2; have HE : Hid (qLy P Q = qCz a b) := Lib.hid (by unfold qCz; rw [← HP.2, ← HQ.2, qK4 P Q HP.1 HQ.1])
 have hPl : P.length ≤ 1048576 := by
  have h1 := qIY P; rw [HP.2] at h1; have h2 := HA.out; (have h3 : a.data.toList.length = a.size := by simp); omega
 have hQl : Q.length ≤ 1048576 := by
  have h1 := qIY Q; rw [HQ.2] at h1; have h2 := HBS.out; (have h3 : b.data.toList.length = b.size := by simp); omega
 clear HP HQ; go_wp2
 go_loopw [9] (fun iv wr => ∃ k : Nat, iv = .int .i64 k ∧ k ≤ P.length ∧ k ≤ Q.length ∧ Hid (qLy (P.drop k) (Q.drop k) = qCz a b) ∧ Below w2.heap.size w2 wr) (fun iv _ => P.length - (intOf iv).toNat)
 case atStart => exact ⟨0, rfl, Nat.zero_le _, Nat.zero_le _, Lib.hid (by rw [List.drop_zero, List.drop_zero]; exact HE.out), Below.refl _ _⟩
 case round =>
  obtain ⟨k, rfl, hk1, hk2, HX, HD⟩ := hrel; have HBW := zT HB HD
  by_cases h12 : k < P.length ∧ k < Q.length
  ·obtain ⟨h1, h2⟩ := h12; obtain ⟨p, hp⟩ : ∃ p, P[k]? = some p := ⟨_, List.getElem?_eq_getElem h1⟩; obtain ⟨q, hq⟩ : ∃ q, Q[k]? = some q := ⟨_, List.getElem?_eq_getElem h2⟩; obtain ⟨g1, e1, x1⟩ := qEa HD HC1.out k p hp; obtain ⟨g2, e2, x2⟩ := qEa HD HC2.out k q hq; subst e1 e2; have HY := Lib.hid ((qMX hp hq).symm.trans HX.out); clear hp hq
   by_cases hlt : p < q
   ·have HZ : Hid ((-1 : Int) = qCz a b) := Lib.hid (by have := HY.out; rwa [if_pos hlt] at this); go_wp2
    go_quiet (fail)
    go_wp2; go_ret; exact ⟨qBD HZ.out, qD1 HBW _⟩
   ·by_cases hgt : q < p
    ·have HZ : Hid ((1 : Int) = qCz a b) := Lib.hid (by have := HY.out; rwa [if_neg hlt, if_pos hgt] at this); go_wp2
     go_quiet (fail)
     go_wp2
     go_quiet (fail)
     go_wp2; go_ret; exact ⟨qBD HZ.out, qD1 (qD1 HBW _) _⟩
    ·have HZ : Hid (qLy (P.drop (k + 1)) (Q.drop (k + 1)) = qCz a b) := Lib.hid (by have := HY.out; rwa [if_neg hlt, if_neg hgt] at this); go_wp2
     go_quiet (fail)
     go_wp2
     go_quiet (fail)
     go_wp2; go_roundw
     case rel => exact ⟨k + 1, by go_num, h1, h2, HZ, qD1 HD _⟩
     case measure => simp [intOf]; omega
  ·have HZ := Lib.hid ((qMi hk1 hk2 h12).symm.trans HX.out); rcases Nat.lt_trichotomy P.length Q.length with h | h | h
   ·have HW : Hid ((-1 : Int) = qCz a b) := Lib.hid (by have := HZ.out; rwa [if_pos h] at this); (have hk : ¬ k < P.length := by omega); go_wp2; go_ret; exact ⟨qBD HW.out, HBW⟩
   ·have HW : Hid ((0 : Int) = qCz a b) := Lib.hid (by have := HZ.out; rwa [if_neg (by omega), if_neg (by omega)] at this); (have hk : ¬ k < P.length := by omega); go_wp2; go_ret; exact ⟨qBD HW.out, HBW⟩
   ·have HW : Hid ((1 : Int) = qCz a b) := Lib.hid (by have := HZ.out; rwa [if_neg (by omega), if_pos h] at this); (have hk : ¬ k < Q.length := by omega); (have hk3 : k < P.length := by omega); go_wp2; go_ret; exact ⟨qBD HW.out, HBW⟩
end Go.Proofs.YtnjhmnolngdfaaaGreatDoor
namespace Go.Proofs.YtnjhmnolngdfaaaGreatDoor
open Go.RowKit Go.PlainAid
theorem qDY (k : Int) (w : World) : (Instr.build 25 ([(0, .int .i64 k)] : List (Nat × Value)).toArray).run Tryz.prog w = .ok (.agg (qBG k false 0 ⟨#[]⟩).cells) w := by kernel_rfl
theorem qMv : (Tryz.prog.info? 4).map (·.size) = some 1 := by kernel_rfl
theorem qNW : (Tryz.prog.info? 2).map (·.size) = some 1 := by kernel_rfl
theorem qNz : (Tryz.prog.info? 9).map (·.size) = some 1 := by kernel_rfl
def NdV (j : JV) (w : World) (e : Ending) (w' : World) : Prop := ∃ k, e = .returned (.agg k.cells) ∧ qAi w' k ∧ er k = qBP (er j) ∧ Off (fun q => q < w.heap.size) k ∧ Below w.heap.size w w'
theorem qGZ {j : JV} {w w' : World} {k i : Int} {b : Bool} {t : ByteArray} (hk : I64 k) (hi : I64 i) (ht : t.size ≤ qAy) (he : qBP (er j) = .mk k b i t [] [] []) (hb : Below w.heap.size w w') : NdV j w (.returned (.agg (qBG k b i t).cells)) w' := by
  obtain ⟨h1, h2, h3⟩ := qDT w' w hk hi ht; exact ⟨_, rfl, h1, h2.trans he.symm, h3, hb⟩
theorem qLi (j : JV) : qBP (er j) = if j.v.kind = 1 then .mk 1 j.v.b 0 ⟨#[]⟩ [] [] [] else if j.v.kind = 2 then .mk 2 false j.v.i ⟨#[]⟩ [] [] [] else if j.v.kind = 3 then .mk 3 false 0 j.v.t [] [] []
    else if j.v.kind = 4 then .mk 4 false 0 ⟨#[]⟩ ((erL j.l).map qBP) [] [] else if j.v.kind = 5 then .mk 5 false 0 ⟨#[]⟩ [] ((qJ7 j.ns (erL j.vs)).map (·.1)) ((qJ7 j.ns (erL j.vs)).map (·.2)) else .mk j.v.kind false 0 ⟨#[]⟩ [] [] [] := by
  rw [qBs]
  by_cases h1 : j.v.kind = 1
  · rw [if_pos h1, h1, qHw]
  · by_cases h2 : j.v.kind = 2
    · rw [if_neg h1, if_pos h2, h2, qH0]
    · by_cases h3 : j.v.kind = 3
      · rw [if_neg h1, if_neg h2, if_pos h3, h3, qIB]
      · by_cases h4 : j.v.kind = 4
        · rw [if_neg h1, if_neg h2, if_neg h3, if_pos h4, h4, qHy]
        · by_cases h5 : j.v.kind = 5
          · rw [if_neg h1, if_neg h2, if_neg h3, if_neg h4, if_pos h5, h5, qIT]
          · rw [if_neg h1, if_neg h2, if_neg h3, if_neg h4, if_neg h5, qDf h1 h2 h3 h4 h5]
theorem qHI {X : Type} {P : Program} {md : Region.Mode} {ops : Array Oper} {Q : Exit → Act → World → Prop} {S : World → Prop} {n : Nat} {l : Array Bool} {a : Act} {w : World} (act : X → Act → Act) (F : X → World → Prop)
    (h1 : Hid (∀ x a' w', F x w' → a' = act x a → Q .normal a' w') → wpAnyH P md ops Q S n l a w)
    (h2 : ∀ x w', F x w' → Q .normal (act x a) w') : wpAnyH P md ops Q S n l a w := h1 (Lib.hid fun x a' w' hf e => e ▸ h2 x w' hf)
theorem qIa {α β : Type} {g : ByteArray × α → ByteArray × β} (hg : ∀ p, (g p).1 = p.1) (L : List (ByteArray × α)) (nm : ByteArray) : ∀ k, qES (L.map g) nm k = qES L nm k
  | 0 => rfl
  | k + 1 => by
    unfold qES; rw [List.getElem?_map]
    cases L[k]? with
    | none => rfl
    | some p =>
      simp only [Option.map_some, hg p, qIa hg L nm k]
theorem qIp {α β : Type} {g : ByteArray × α → ByteArray × β} (hg : ∀ p, (g p).1 = p.1) (L : List (ByteArray × α)) (f : ByteArray × α) : (qFs L f).map g = qFs (L.map g) (g f) := by
  unfold qFs; rw [List.map_append, List.map_cons, List.map_take, List.map_drop, hg f, qIa hg, List.length_map]
theorem qEx {α : Type} (L : List (ByteArray × α)) (f : ByteArray × α) : (qFs L f).length = L.length + 1 := by
  have := (qCS L f).length_eq
  simpa using this
theorem qMS {α : Type} {L : List α} {m : Nat} {p f : α} (hp : L[m]? = some p) : ((L.take (m + 1) ++ f :: L.drop (m + 1)).set (m + 1) p).set m f = L.take m ++ f :: L.drop m := by
  obtain ⟨h1, h2⟩ := List.getElem?_eq_some_iff.1 hp; have e1 : L.take (m + 1) = L.take m ++ [p] := qBe hp; (have e2 : L.drop m = p :: L.drop (m + 1) := by rw [List.drop_eq_getElem_cons h1, h2]); have l1 : (L.take m).length = m := by rw [List.length_take]; omega
  rw [e1, e2, List.set_append_right _ _ (by rw [List.length_append, l1]; simp), show m + 1 - (L.take m ++ [p]).length = 0 by rw [List.length_append, l1]; simp, List.set_cons_zero, List.append_assoc,
    List.set_append_right _ _ (by omega), l1, Nat.sub_self]
  rfl
theorem qIS {α : Type} {L : List α} {m : Nat} {f : α} (hm : m < L.length) : (L.take (m + 1) ++ f :: L.drop (m + 1))[m]? = L[m]? := by
  rw [List.getElem?_append_left (by rw [List.length_take]; omega), List.getElem?_take, if_pos (by omega)]
theorem qFc {α : Type} {L : List α} {m : Nat} {f : α} : (L.take m ++ f :: L.drop m).length = L.length + 1 := by
  rw [List.length_append, List.length_take, List.length_cons, List.length_drop]; omega
def qKm (t : JT) : Prop := ∃ d, qBc t d = true
theorem qMW {j : JV} (hk : j.v.kind = 4) (h : qKm (er j)) {i : Nat} {x : JV} (hx : j.l[i]? = some x) : qKm (er x) := by
  obtain ⟨d, h⟩ := h; rw [qBs, hk, qHv, Bool.and_eq_true, qC0] at h; exact ⟨_, h.1 _ (by rw [qBw]; exact List.mem_map_of_mem (List.mem_of_getElem? hx))⟩
theorem qNn {j : JV} (hk : j.v.kind = 5) (hl : j.ns.length = j.vs.length) (h : qKm (er j)) : (∀ n ∈ j.ns, qCk n < 0) ∧ ∀ (i : Nat) (x : JV), j.vs[i]? = some x → qKm (er x) := by
  obtain ⟨d, h⟩ := h; rw [qBs, hk, qIX, Bool.and_eq_true, qCe _ _ _ _ (by rw [qBj]; exact hl)] at h; exact ⟨fun n hn => (h.1.1 n hn).1, fun i x hx => ⟨_, h.1.2.1 _ (by rw [qBw]; exact List.mem_map_of_mem (List.mem_of_getElem? hx))⟩⟩
section
variable {b1 g : Nat} {E : TypeId} {size : Nat} {arr : Array Value} {v : Value} {n : Nat} {xs xs' : List Value} {acc acc' : List JV} {w w' : World}
theorem PK.same (h : PK b1 g E size arr v n xs acc w) (ho : w'.ownsRow b1 E size v n xs') (hb : Bes (fun q => v.ownBlock = some q) w w') : PK b1 g E size arr v n xs' acc w' := by
  obtain ⟨h1, h2⟩ := h.st; (have lo : ∀ q, v.ownBlock = some q → b1 ≤ q := fun q e => (qAh h.own e).1); exact ⟨Bes.box hb h.box (fun e => by have := lo g e; omega), ho, fun y hy => ⟨qAi.bes hb (h.els y hy).1 (Off.mono (fun q e => Or.inr e) (h.els y hy).2), (h.els y hy).2⟩, ⟨h1, Nat.le_trans h2 hb.size⟩⟩
theorem PK.reacc (h : PK b1 g E size arr v n xs acc w) (ha : ∀ y ∈ acc', y ∈ acc) : PK b1 g E size arr v n xs acc' w := ⟨h.box, h.own, fun y hy => h.els y (ha y hy), h.st⟩
end
def LSW (g bl off : Nat) (yc : Array Value) (xs : List Value) (w : World) : Prop := qAW w g 25 yc ∧ w.rangeAt bl off xs
theorem LSW.to {g bl off : Nat} {yc : Array Value} {xs : List Value} {w w' : World} (h : LSW g bl off yc xs w) (e : ∀ k, k = g ∨ k = bl → w'.heap[k]? = w.heap[k]?) : LSW g bl off yc xs w' :=
  ⟨(e g (.inl rfl)).trans h.1, qC7 (e bl (.inr rfl)) h.2⟩
theorem LSW.lt {g bl off : Nat} {yc : Array Value} {p : ByteArray × JV} {w : World} (h : LSW g bl off yc (qBB p).toList w) {k : Nat} (hk : k = g ∨ k = bl) : k < w.heap.size := by
  rcases hk with rfl | rfl
  · exact h.1.lt
  · exact block_lt_of_cell (h.2 0 (.string p.1) rfl)
theorem Bes.sub {X Y : Nat → Prop} {w w' : World} (h : Bes X w w') (hXY : ∀ k, X k → Y k) : Bes Y w w' := ⟨h.os, h.tape, h.output, h.size, fun k hk hn => h.block k hk (fun x => hn (hXY k x))⟩
theorem qMR {w : World} {base : Nat} {E : TypeId} {size : Nat} {v : Value} {n : Nat} {xs : List Value} (h : w.ownsRow base E size v (n + 1) xs) : ∃ g c, v = .slice (some ⟨g, 0, none⟩) (n + 1) c := by
  rcases h.2 with ⟨_, h0⟩ | ⟨g, cap, cur, hv, _⟩
  · cases h0
  · exact ⟨g, cap, hv⟩
section
variable {ops : Array Oper} {rest : List Oper} {o : Oper} {a : Act} {w : World} {Q : Exit → Act → World → Prop} {K : Act → World → Prop}
theorem qGO (hgd : o.guard = none) (s x : Operand) (t : TypeId)
    (ho : o.op = .call { callee := .builtin .append, args := #[s, x], argTypes := #[t, t] })
    {b1 g0 : Nat} {e : TypeId} {arr : Array Value} (i : TypeInfo) (z : Value) (size bytes : Nat) (ht : Tryz.prog.underlying t = some (.slice e)) (hi : Tryz.prog.info? e = some i) (hz : i.zero = some z)
    (hsize : i.size = size) (hby : i.bytes = bytes) (hzs : z.cells.size = size) (hsz : 0 < size)
    (v : Value) (n : Nat) (xs : List Value) (acc : List JV) (j : JV) (hs : a.eval s = v) (hk : PK b1 g0 e size arr v n xs acc w)
    (g c : Nat) (cells : Array Value) (ty : TypeId) (IB : qAW w g ty cells) (hcs : cells.size = size) (hx : a.eval x = .slice (some ⟨g, 0, none⟩) 1 c) (h1 : cells.all (·.oneCell') = true)
    (hj : qAi w j) (hoj : Off (fun q => q < b1 ∨ v.ownBlock = some q) j) (h63 : n + 1 ≤ maxLen) (hbytes : (n + 1) * bytes ≤ 140737488355328)
    (h : ∀ ga cap w', PK b1 g0 e size arr (.slice (some ⟨ga, 0, none⟩) (n + 1) cap) (n + 1) (xs ++ cells.toList) (acc ++ [j]) w' → Bes (fun q => v.ownBlock = some q) w w' → (v.ownBlock = some ga ∨ ga = w.heap.size) → wpList Tryz.prog ops Q rest (a.put o.dst (.slice (some ⟨ga, 0, none⟩) (n + 1) cap)) w') : wpList Tryz.prog ops Q (o :: rest) a w := by
  refine wpList_append_own_at w hgd s x t ho b1 e i z size bytes ht hi hz hsize hby hzs hsz v n xs hs hk.own ⟨g, 0, none⟩ 1 c cells.toList hx (by simp [hcs]) ?_ ?_ h63 hbytes hk.st.2 ?_
  · intro j u hu; (have hadd : (⟨g, 0, none⟩ : Addr).add j = ⟨g, j, none⟩ := by unfold Addr.add; split <;> simp_all); rw [hadd, IB.cell]
    simpa using hu
  · intro u hu; have := Array.all_eq_true_iff_forall_mem.1 h1 u (by simpa using hu); exact this
  · intro v' w' h2 h3 _ h5; have hb := Bes.grown (X := fun q => v.ownBlock = some q) h3 (fun _ e => e); obtain ⟨ga, cap, rfl⟩ := qMR h2; refine h ga cap w' (hk.more h2 hb h5 hj hoj) hb ?_; rcases h5 with h5 | h5
    · exact .inl h5.symm
    · exact .inr (Option.some.inj h5)
theorem qHL (x y : Operand) (ho : o.op = .store 52 x y) {base g n c : Nat} {R : List (ByteArray × JV)} (h : w.ownsRow base 52 7 (.slice (some ⟨g, 0, none⟩) n c) n (qCB R)) (hR : R.length = n) {i : Nat} (hi : i < n) (p : ByteArray × JV)
    (hx : a.eval x = .pointer (some ⟨g, i * 7, none⟩)) (hy : a.eval y = .agg (qBB p)) (hQ : ∀ w', w'.ownsRow base 52 7 (.slice (some ⟨g, 0, none⟩) n c) n (qCB (R.set i p)) → Bes (fun q => q = g) w w' → K (a.put o.dst undef) w') : o.wp Tryz.prog a w K Q := by
  obtain ⟨h1, h2, h3⟩ := qLU h hR hi p; exact wp_store_mid 52 x y ho g (i * 7) (qBB p) hx hy h1 qAV (qAw p) (hQ _ h2 h3)
end
theorem qKG {w : World} {j : JV} (h : qAi w j) {n : ByteArray} (hn : n ∈ j.ns) : n.size ≤ qAy := by
  obtain ⟨i, hi⟩ := List.getElem?_of_mem hn; exact qL5 h hi
theorem qP6 (A : Option Addr) (c : Nat) (L : List (ByteArray × JV)) (M : List (ByteArray × JT)) (h : (L.map fun p => (p.1, er p.2)) = M) : er (qDD A c L) = .mk 5 false 0 ⟨#[]⟩ [] (M.map (·.1)) (M.map (·.2)) := by
  rw [qGD, ← h, List.map_map, List.map_map]; rfl
end Go.Proofs.YtnjhmnolngdfaaaGreatDoor
namespace Go.Proofs.YtnjhmnolngdfaaaGreatDoor
open Go.RowKit Go.PlainAid
theorem qLD {j : JV} {w : World} (HJ : qAi w j) (hs : SzT (er j) ≤ 1048576) (hk4 : j.v.kind ≠ 4) (hk5 : j.v.kind ≠ 5) : Calls Tryz.prog 29 #[.agg j.cells] w (NdV j w) := by
    obtain ⟨l1, l2, l3, l4, l5⟩ := qCI HJ; obtain ⟨s1, s2, s3, s4⟩ := qDZ j; (have hI : I64 j.v.kind ∧ I64 j.v.i ∧ j.v.t.size ≤ qAy := by obtain ⟨v, _, _, _⟩ := j; unfold qAi at HJ; exact ⟨HJ.1.1, HJ.1.2.1, HJ.1.2.2.1⟩); have HI := Lib.hid hI; have HP := Lib.hid (qLi j); have LL := Lib.hid l1; have LV := Lib.hid l2; have LN := Lib.hid l3; have S3 := Lib.hid s3; have S4 := Lib.hid s4; have HSS := Lib.hid hs; (have hLn : j.v.Ln ≤ 1048576 := by omega); (have hFn : j.v.Fn ≤ 1048576 := by omega); clear l1 l2 l3 hI s1 s2 s3 s4 hs; have HB := Below.refl w.heap.size w
    by_cases hk1 : j.v.kind = 1
    · have HK : Hid (qBP (er j) = .mk 1 j.v.b 0 ⟨#[]⟩ [] [] []) := Lib.hid (by rw [HP.out, if_pos hk1]); have HKD := Lib.hid hk1; clear hk1; go_enter Tryz.func29, Tryz.ntmps29
      go_wp2_with (first
        | (refine qAO 3 rfl rfl 25 rfl rfl (.tmp 10) rfl _ qAY (qBG 1 false 0 ⟨#[]⟩).cells rfl rfl qAA rfl (qAP _) ?_; intro w3 hw; have hb := qAD hw; have B3 := (qAC hw).1; have hz3 := Lib.hid (qAC hw).2.1; replace B1 := zI B1 hb; replace B2 := zI B2 hb; replace HB := zT HB hb; replace HJ := HJ.below hb; clear hb hw; clear c1_0; have c1_0 : w3.cell? ⟨_, 0, none⟩ = some (.int .i64 1) := (B1.cell 0).trans (by rw [← HKD.out]; rfl); have c1_1 : w3.cell? ⟨_, 1, none⟩ = some (.bool j.v.b) := B1.cell 1; have c1_2 : w3.cell? ⟨_, 2, none⟩ = some (.int .i64 j.v.i) := B1.cell 2; have c1_3 : w3.cell? ⟨_, 3, none⟩ = some (.string j.v.t) := B1.cell 3; have c1_4 : w3.cell? ⟨_, 4, none⟩ = some (.slice j.v.LA j.v.Ln j.v.Lc) := B1.cell 4; have c1_5 : w3.cell? ⟨_, 5, none⟩ = some (.slice j.v.FA j.v.Fn j.v.Fc) := B1.cell 5; have hzz : w1.heap.size = w.heap.size + 1 ∧ w2.heap.size = w.heap.size + 2 ∧ w3.heap.size = w.heap.size + 3 := (by have := hz1.out; have := hz2.out; have := hz3.out; omega); have HZ := Lib.hid hzz; clear hzz hz1 hz2 hz3)
        | (refine qAM rfl 25 (.tmp 0) rfl _ rfl ?_; intro w1 hw; have hb := qAD hw; have B1 := (qAC hw).1; have hz1 := Lib.hid (qAC hw).2.1; replace HB := zT HB hb; replace HJ := HJ.below hb; clear hb hw)
        | ((with_reducible refine qAG ?_); refine qAE rfl 25 rfl _ qAY ?_; intro w2 hw; have hb := qAD hw; have B2 := qAI hw; have hz2 := Lib.hid (qAC hw).2.1; replace B1 := zI B1 hb; replace HB := zT HB hb; replace HJ := HJ.below hb; clear hb hw; have c1_0 : w2.cell? ⟨_, 0, none⟩ = some (.int .i64 1) := (B1.cell 0).trans (by rw [← HKD.out]; rfl))
        | ((with_reducible refine qAT ?_); refine qAK (vals := _) (qDY 1) rfl _ rfl rfl ?_)
        | ((with_reducible refine qAF ?_); refine qAs rfl 4 (.tmp 17) (.tmp 16) rfl w2.heap.size 1 rfl _ rfl _ _ B3 (by decide) qMv rfl ?_; intro w4 hw; have hbe := Bes.row (X := fun q => q = w2.heap.size) hw rfl; replace HB := HB.trans (Bes.below hbe (fun q e => by have e2 : q = w2.heap.size := e; have := HZ.out; omega) HB.size); replace B2 := Bes.box hbe B2 (fun e => by have := HZ.out; omega); replace B3 := qAQ hw B3; clear hw hbe)
        | ((with_reducible refine qAR ?_); refine qAL rfl 25 (.tmp 3) rfl _ rfl _ (qBG 1 j.v.b 0 ⟨#[]⟩).cells _ B3 Tryz.underlying25 rfl qAA ?_)
        | ((with_reducible refine qAF ?_); refine qAH rfl 25 (.tmp 2) (.tmp 114) rfl w1.heap.size (qBG 1 j.v.b 0 ⟨#[]⟩).cells rfl rfl _ _ B2 qAA rfl (qAP _) ?_; intro w5 hw; have hbe := Bes.row (X := fun q => q = w1.heap.size) hw rfl; replace HB := HB.trans (Bes.below hbe (fun q e => by have e2 : q = w1.heap.size := e; have := HZ.out; omega) HB.size); replace B2 := qAQ hw B2; clear hw hbe))
      refine bodyPost_ret (qAb rfl _ _ w1.heap.size _ (qBG 1 j.v.b 0 ⟨#[]⟩).cells _ rfl B2 Tryz.underlying25 rfl qAA) rfl ?_; exact qGZ qKh mi0 mze HK.out HB
    · by_cases hk2 : j.v.kind = 2
      · have HK : Hid (qBP (er j) = .mk 2 false j.v.i ⟨#[]⟩ [] [] []) := Lib.hid (by rw [HP.out, if_neg hk1, if_pos hk2]); have HKD := Lib.hid hk2; clear hk1 hk2; go_enter Tryz.func29, Tryz.ntmps29
        go_wp2_with (first
          | (refine qAO 3 rfl rfl 25 rfl rfl (.tmp 10) rfl _ qAY (qBG 2 false 0 ⟨#[]⟩).cells rfl rfl qAA rfl (qAP _) ?_; intro w3 hw; have hb := qAD hw; have B3 := (qAC hw).1; have hz3 := Lib.hid (qAC hw).2.1; replace B1 := zI B1 hb; replace B2 := zI B2 hb; replace HB := zT HB hb; replace HJ := HJ.below hb; clear hb hw; clear c1_0; have c1_0 : w3.cell? ⟨_, 0, none⟩ = some (.int .i64 2) := (B1.cell 0).trans (by rw [← HKD.out]; rfl); have c1_1 : w3.cell? ⟨_, 1, none⟩ = some (.bool j.v.b) := B1.cell 1; have c1_2 : w3.cell? ⟨_, 2, none⟩ = some (.int .i64 j.v.i) := B1.cell 2; have c1_3 : w3.cell? ⟨_, 3, none⟩ = some (.string j.v.t) := B1.cell 3; have c1_4 : w3.cell? ⟨_, 4, none⟩ = some (.slice j.v.LA j.v.Ln j.v.Lc) := B1.cell 4; have c1_5 : w3.cell? ⟨_, 5, none⟩ = some (.slice j.v.FA j.v.Fn j.v.Fc) := B1.cell 5; have hzz : w1.heap.size = w.heap.size + 1 ∧ w2.heap.size = w.heap.size + 2 ∧ w3.heap.size = w.heap.size + 3 := (by have := hz1.out; have := hz2.out; have := hz3.out; omega); have HZ := Lib.hid hzz; clear hzz hz1 hz2 hz3)
          | (refine qAM rfl 25 (.tmp 0) rfl _ rfl ?_; intro w1 hw; have hb := qAD hw; have B1 := (qAC hw).1; have hz1 := Lib.hid (qAC hw).2.1; replace HB := zT HB hb; replace HJ := HJ.below hb; clear hb hw)
          | ((with_reducible refine qAG ?_); refine qAE rfl 25 rfl _ qAY ?_; intro w2 hw; have hb := qAD hw; have B2 := qAI hw; have hz2 := Lib.hid (qAC hw).2.1; replace B1 := zI B1 hb; replace HB := zT HB hb; replace HJ := HJ.below hb; clear hb hw; have c1_0 : w2.cell? ⟨_, 0, none⟩ = some (.int .i64 2) := (B1.cell 0).trans (by rw [← HKD.out]; rfl))
          | ((with_reducible refine qAT ?_); refine qAK (vals := _) (qDY 2) rfl _ rfl rfl ?_)
          | ((with_reducible refine qAF ?_); refine qAs rfl 2 (.tmp 22) (.tmp 21) rfl w2.heap.size 2 rfl _ rfl _ _ B3 (by decide) qNW rfl ?_; intro w4 hw; have hbe := Bes.row (X := fun q => q = w2.heap.size) hw rfl; replace HB := HB.trans (Bes.below hbe (fun q e => by have e2 : q = w2.heap.size := e; have := HZ.out; omega) HB.size); replace B2 := Bes.box hbe B2 (fun e => by have := HZ.out; omega); replace B3 := qAQ hw B3; clear hw hbe)
          | ((with_reducible refine qAR ?_); refine qAL rfl 25 (.tmp 3) rfl _ rfl _ (qBG 2 false j.v.i ⟨#[]⟩).cells _ B3 Tryz.underlying25 rfl qAA ?_)
          | ((with_reducible refine qAF ?_); refine qAH rfl 25 (.tmp 2) (.tmp 114) rfl w1.heap.size (qBG 2 false j.v.i ⟨#[]⟩).cells rfl rfl _ _ B2 qAA rfl (qAP _) ?_; intro w5 hw; have hbe := Bes.row (X := fun q => q = w1.heap.size) hw rfl; replace HB := HB.trans (Bes.below hbe (fun q e => by have e2 : q = w1.heap.size := e; have := HZ.out; omega) HB.size); replace B2 := qAQ hw B2; clear hw hbe))
        refine bodyPost_ret (qAb rfl _ _ w1.heap.size _ (qBG 2 false j.v.i ⟨#[]⟩).cells _ rfl B2 Tryz.underlying25 rfl qAA) rfl ?_; exact qGZ qLO HI.out.2.1 mze HK.out HB
      · by_cases hk3 : j.v.kind = 3
        · have HK : Hid (qBP (er j) = .mk 3 false 0 j.v.t [] [] []) := Lib.hid (by rw [HP.out, if_neg hk1, if_neg hk2, if_pos hk3]); have HKD := Lib.hid hk3; clear hk1 hk2 hk3; go_enter Tryz.func29, Tryz.ntmps29
          go_wp2_with (first
            | (refine qAO 3 rfl rfl 25 rfl rfl (.tmp 10) rfl _ qAY (qBG 3 false 0 ⟨#[]⟩).cells rfl rfl qAA rfl (qAP _) ?_; intro w3 hw; have hb := qAD hw; have B3 := (qAC hw).1; have hz3 := Lib.hid (qAC hw).2.1; replace B1 := zI B1 hb; replace B2 := zI B2 hb; replace HB := zT HB hb; replace HJ := HJ.below hb; clear hb hw; clear c1_0; have c1_0 : w3.cell? ⟨_, 0, none⟩ = some (.int .i64 3) := (B1.cell 0).trans (by rw [← HKD.out]; rfl); have c1_1 : w3.cell? ⟨_, 1, none⟩ = some (.bool j.v.b) := B1.cell 1; have c1_2 : w3.cell? ⟨_, 2, none⟩ = some (.int .i64 j.v.i) := B1.cell 2; have c1_3 : w3.cell? ⟨_, 3, none⟩ = some (.string j.v.t) := B1.cell 3; have c1_4 : w3.cell? ⟨_, 4, none⟩ = some (.slice j.v.LA j.v.Ln j.v.Lc) := B1.cell 4; have c1_5 : w3.cell? ⟨_, 5, none⟩ = some (.slice j.v.FA j.v.Fn j.v.Fc) := B1.cell 5; have hzz : w1.heap.size = w.heap.size + 1 ∧ w2.heap.size = w.heap.size + 2 ∧ w3.heap.size = w.heap.size + 3 := (by have := hz1.out; have := hz2.out; have := hz3.out; omega); have HZ := Lib.hid hzz; clear hzz hz1 hz2 hz3)
            | (refine qAM rfl 25 (.tmp 0) rfl _ rfl ?_; intro w1 hw; have hb := qAD hw; have B1 := (qAC hw).1; have hz1 := Lib.hid (qAC hw).2.1; replace HB := zT HB hb; replace HJ := HJ.below hb; clear hb hw)
            | ((with_reducible refine qAG ?_); refine qAE rfl 25 rfl _ qAY ?_; intro w2 hw; have hb := qAD hw; have B2 := qAI hw; have hz2 := Lib.hid (qAC hw).2.1; replace B1 := zI B1 hb; replace HB := zT HB hb; replace HJ := HJ.below hb; clear hb hw; have c1_0 : w2.cell? ⟨_, 0, none⟩ = some (.int .i64 3) := (B1.cell 0).trans (by rw [← HKD.out]; rfl))
            | ((with_reducible refine qAT ?_); refine qAK (vals := _) (qDY 3) rfl _ rfl rfl ?_)
            | ((with_reducible refine qAF ?_); refine qAs rfl 9 (.tmp 27) (.tmp 26) rfl w2.heap.size 3 rfl _ rfl _ _ B3 (by decide) qNz rfl ?_; intro w4 hw; have hbe := Bes.row (X := fun q => q = w2.heap.size) hw rfl; replace HB := HB.trans (Bes.below hbe (fun q e => by have e2 : q = w2.heap.size := e; have := HZ.out; omega) HB.size); replace B2 := Bes.box hbe B2 (fun e => by have := HZ.out; omega); replace B3 := qAQ hw B3; clear hw hbe)
            | ((with_reducible refine qAR ?_); refine qAL rfl 25 (.tmp 3) rfl _ rfl _ (qBG 3 false 0 j.v.t).cells _ B3 Tryz.underlying25 rfl qAA ?_)
            | ((with_reducible refine qAF ?_); refine qAH rfl 25 (.tmp 2) (.tmp 114) rfl w1.heap.size (qBG 3 false 0 j.v.t).cells rfl rfl _ _ B2 qAA rfl (qAP _) ?_; intro w5 hw; have hbe := Bes.row (X := fun q => q = w1.heap.size) hw rfl; replace HB := HB.trans (Bes.below hbe (fun q e => by have e2 : q = w1.heap.size := e; have := HZ.out; omega) HB.size); replace B2 := qAQ hw B2; clear hw hbe))
          refine bodyPost_ret (qAb rfl _ _ w1.heap.size _ (qBG 3 false 0 j.v.t).cells _ rfl B2 Tryz.underlying25 rfl qAA) rfl ?_; exact qGZ qOU mi0 HI.out.2.2 HK.out HB
        · have HK : Hid (qBP (er j) = .mk j.v.kind false 0 ⟨#[]⟩ [] [] []) := Lib.hid (by rw [HP.out, if_neg hk1, if_neg hk2, if_neg hk3, if_neg hk4, if_neg hk5]); (have q1 : (j.v.kind == 1) = false := by simpa using hk1); (have q2 : (j.v.kind == 2) = false := by simpa using hk2); (have q3 : (j.v.kind == 3) = false := by simpa using hk3); (have q4 : (j.v.kind == 4) = false := by simpa using hk4); (have q5 : (j.v.kind == 5) = false := by simpa using hk5); clear hk1 hk2 hk3 hk4 hk5; go_enter Tryz.func29, Tryz.ntmps29
          go_wp2_with (first
            | (refine qAO 3 rfl rfl 25 rfl rfl (.tmp 10) rfl _ qAY (qBG j.v.kind false 0 ⟨#[]⟩).cells rfl rfl qAA rfl (qAP _) ?_; intro w3 hw; have hb := qAD hw; have B3 := (qAC hw).1; have hz3 := Lib.hid (qAC hw).2.1; replace B1 := zI B1 hb; replace B2 := zI B2 hb; replace HB := zT HB hb; replace HJ := HJ.below hb; clear hb hw; clear c1_0; have c1_0 : w3.cell? ⟨_, 0, none⟩ = some (.int .i64 j.v.kind) := (B1.cell 0).trans (by rfl); have c1_1 : w3.cell? ⟨_, 1, none⟩ = some (.bool j.v.b) := B1.cell 1; have c1_2 : w3.cell? ⟨_, 2, none⟩ = some (.int .i64 j.v.i) := B1.cell 2; have c1_3 : w3.cell? ⟨_, 3, none⟩ = some (.string j.v.t) := B1.cell 3; have c1_4 : w3.cell? ⟨_, 4, none⟩ = some (.slice j.v.LA j.v.Ln j.v.Lc) := B1.cell 4; have c1_5 : w3.cell? ⟨_, 5, none⟩ = some (.slice j.v.FA j.v.Fn j.v.Fc) := B1.cell 5; have hzz : w1.heap.size = w.heap.size + 1 ∧ w2.heap.size = w.heap.size + 2 ∧ w3.heap.size = w.heap.size + 3 := (by have := hz1.out; have := hz2.out; have := hz3.out; omega); have HZ := Lib.hid hzz; clear hzz hz1 hz2 hz3)
            | (refine qAM rfl 25 (.tmp 0) rfl _ rfl ?_; intro w1 hw; have hb := qAD hw; have B1 := (qAC hw).1; have hz1 := Lib.hid (qAC hw).2.1; replace HB := zT HB hb; replace HJ := HJ.below hb; clear hb hw)
            | ((with_reducible refine qAG ?_); refine qAE rfl 25 rfl _ qAY ?_; intro w2 hw; have hb := qAD hw; have B2 := qAI hw; have hz2 := Lib.hid (qAC hw).2.1; replace B1 := zI B1 hb; replace HB := zT HB hb; replace HJ := HJ.below hb; clear hb hw; have c1_0 : w2.cell? ⟨_, 0, none⟩ = some (.int .i64 j.v.kind) := (B1.cell 0).trans (by rfl))
            | ((with_reducible refine qAT ?_); refine qAK (vals := _) (qDY j.v.kind) rfl _ rfl rfl ?_)
            | ((with_reducible refine qAR ?_); refine qAL rfl 25 (.tmp 3) rfl _ rfl _ (qBG j.v.kind false 0 ⟨#[]⟩).cells _ B3 Tryz.underlying25 rfl qAA ?_)
            | ((with_reducible refine qAF ?_); refine qAH rfl 25 (.tmp 2) (.tmp 114) rfl w1.heap.size (qBG j.v.kind false 0 ⟨#[]⟩).cells rfl rfl _ _ B2 qAA rfl (qAP _) ?_; intro w5 hw; have hbe := Bes.row (X := fun q => q = w1.heap.size) hw rfl; replace HB := HB.trans (Bes.below hbe (fun q e => by have e2 : q = w1.heap.size := e; have := HZ.out; omega) HB.size); replace B2 := qAQ hw B2; clear hw hbe))
          refine bodyPost_ret (qAb rfl _ _ w1.heap.size _ (qBG j.v.kind false 0 ⟨#[]⟩).cells _ rfl B2 Tryz.underlying25 rfl qAA) rfl ?_; exact qGZ HI.out.1 mi0 mze HK.out HB
end Go.Proofs.YtnjhmnolngdfaaaGreatDoor
