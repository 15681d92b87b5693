/- Layer 2, the document's reader (coveyref02): a row of values under way; list. -/
import Derived.Maps.AppendAt
import Derived.Test.YtjhncopbiblenaaGreatDoorJvB
import Derived.Test.YtjhncopbiblenaaGreatDoorRrF
namespace Go.Proofs.YtjhncopbiblenaaGreatDoor
open Go.RowKit Go.PlainAid
set_option linter.unusedVariables false
set_option linter.unusedSimpArgs false
/-- What reading a value leaves. -/
def RvV (w : World) (t : JT) (e : Ending) (w' : World) : Prop := ∃ j, e = .returned (.agg j.cells) ∧ IsJV w' j ∧ er j = t ∧ Off (fun q => q < w.heap.size) j
def RvN (e : Ending) : Prop := ∃ j : JV, e = .returned (.agg j.cells)
/-- Values within d more lists and objects are read as they should. -/
def RvOK (d : Nat) : Prop := ∀ {w : World} {r : Nat} {s : ByteArray} {i : Nat}, RR w r s i 0 0 → i ≤ s.size → s.size ≤ 65536 → Calls Tryz.prog 21 #[At r, .int .i64 (32 - (d : Int))] w (RGot (valueTo s d i) r s w (RvV w) RvN)
theorem RvOK.at {d : Nat} (h : RvOK d) {w : World} {r : Nat} {s : ByteArray} {i : Nat} (h1 : RR w r s i 0 0) (h3 : i ≤ s.size) (h4 : s.size ≤ 65536) : Calls Tryz.prog 21 #[At r, .int .i64 (32 - (d : Int))] w (RGot (valueTo s d i) r s w (RvV w) RvN) := h h1 h3 h4
/-- The memory of a list or an object under way. -/
structure RK (r : Nat) (s : ByteArray) (base : Nat) (E : TypeId) (size : Nat) (k : Nat) (v : Value) (n : Nat) (xs : List Value) (acc : List JV) (w : World) : Prop where
  rd : RR w r s k 0 0
  own : w.ownsRow base E size v n xs
  els : ∀ y ∈ acc, IsJV w y ∧ Off (fun q => q < base ∨ v.ownBlock = some q) y
  st : r < base ∧ base ≤ w.heap.size
section
variable {r : Nat} {s : ByteArray} {base : Nat} {E : TypeId} {size k : Nat} {v : Value} {n : Nat} {xs : List Value} {acc : List JV} {w w' : World}
theorem RK.mv (h : RK r s base E size k v n xs acc w) (hm : Mv r w w') {k' : Nat} (hr : RR w' r s k' 0 0) : RK r s base E size k' v n xs acc w' := by
  obtain ⟨h1, h2⟩ := h.st
  refine ⟨hr, Bes.own hm h.own (fun q e he => ?_), fun y hy => ?_, ⟨h1, Nat.le_trans h2 hm.size⟩⟩
  · have := (own_in h.own e).1; have he2 : q = r := he; omega
  · obtain ⟨a, b⟩ := h.els y hy
    exact ⟨IsJV.bes hm a (Off.mono (fun q e => Or.inl (by have e2 : q = r := e; omega)) b), b⟩
theorem RK.below (h : RK r s base E size k v n xs acc w) (hb : Below w.heap.size w w') : RK r s base E size k v n xs acc w' := h.mv (Mv.of hb) (h.rd.below hb)
/-- The row grew by the cells of one element, the value j among them. -/
theorem RK.more (h : RK r s base E size k v n xs acc w) {v' : Value} {n' : Nat} {xs' : List Value} {j : JV} (ho : w'.ownsRow base E size v' n' xs') (hb : Bes (fun q => v.ownBlock = some q) w w') (hat : v'.ownBlock = v.ownBlock ∨ v'.ownBlock = some w.heap.size)
    (hj : IsJV w j) (hoj : Off (fun q => q < base ∨ v.ownBlock = some q) j) : RK r s base E size k v' n' xs' (acc ++ [j]) w' := by
  obtain ⟨h1, h2⟩ := h.st
  have lo : ∀ q, v.ownBlock = some q → base ≤ q := fun q e => (own_in h.own e).1
  refine ⟨Bes.box hb h.rd (fun e => by have := lo r e; omega), ho, fun y hy => ?_, ⟨h1, Nat.le_trans h2 hb.size⟩⟩
  have key : ∀ y : JV, IsJV w y → Off (fun q => q < base ∨ v.ownBlock = some q) y → IsJV w' y ∧ Off (fun q => q < base ∨ v'.ownBlock = some q) y := fun y a b => by
    refine ⟨IsJV.bes hb a (Off.mono (fun q e => Or.inr e) b), ?_⟩
    refine Off.mono (fun q e => ?_) (Off.or b (off_heap a))
    rcases e with e | e
    · exact .inl (.inl e)
    · rcases hat with h3 | h3
      · exact .inl (.inr (h3 ▸ e))
      · rw [h3] at e
        have e2 := Option.some.inj e
        exact .inr (by show w.heap.size ≤ q; omega)
  rcases List.mem_append.1 hy with hy | hy
  · exact key y (h.els y hy).1 (h.els y hy).2
  · obtain rfl : y = j := by simpa using hy
    exact key y hj hoj
end
/-- The row grown by one element that lies in a block of its own; what else is kept. -/
theorem wpl_append_kept {P : Program} {ops : Array Oper} {rest : List Oper} {o : Oper} {a : Act} {w : World} {Q : Exit → Act → World → Prop} (hgd : o.guard = none) (s x : Operand) (t : TypeId)
    (ho : o.op = .call { callee := .builtin .append, args := #[s, x], argTypes := #[t, t] })
    (base : Nat) (e : TypeId) (i : TypeInfo) (z : Value) (size bytes : Nat) (ht : P.underlying t = some (.slice e)) (hi : P.info? e = some i) (hz : i.zero = some z)
    (hsize : i.size = size) (hby : i.bytes = bytes) (hzs : z.cells.size = size) (hsz : 0 < size)
    (v : Value) (n : Nat) (xs : List Value) (hs : a.eval s = v) (hown : w.ownsRow base e size v n xs)
    (g c : Nat) (cells : Array Value) (ty : TypeId) (IB : IBox w g ty cells) (hcs : cells.size = size) (hx : a.eval x = .slice (some ⟨g, 0, none⟩) 1 c) (h1 : cells.all (·.oneCell') = true)
    (h63 : n + 1 ≤ maxLen) (hbytes : (n + 1) * bytes ≤ 140737488355328) (hbase : base ≤ w.heap.size)
    (h : ∀ v' w', w'.ownsRow base e size v' (n + 1) (xs ++ cells.toList) → Bes (fun q => v.ownBlock = some q) w w' → (v'.ownBlock = v.ownBlock ∨ v'.ownBlock = some w.heap.size) → wpList P ops Q rest (a.put o.dst v') w') : wpList P ops Q (o :: rest) a w := by
  refine wpList_append_own_at w hgd s x t ho base e i z size bytes ht hi hz hsize hby hzs hsz v n xs hs hown ⟨g, 0, none⟩ 1 c cells.toList hx (by simp [hcs]) ?_ ?_ h63 hbytes hbase ?_
  · intro j u hu
    have hadd : (⟨g, 0, none⟩ : Addr).add j = ⟨g, j, none⟩ := by unfold Addr.add; split <;> simp_all
    rw [hadd, IB.cell]
    simpa using hu
  · intro u hu
    have := Array.all_eq_true_iff_forall_mem.1 h1 u (by simpa using hu)
    exact this
  · intro v' w' h2 h3 _ h5
    exact h v' w' h2 (Bes.grown h3 (fun _ e => e)) h5
theorem Bes.own9 {r base : Nat} {w a b : World} {v : Value} {E : TypeId} {size n : Nat} {xs : List Value} (h : Bes (fun k => k = r) w a) (hb : Bes (fun q => v.ownBlock = some q) a b) (ho : a.ownsRow base E size v n xs) (hB : w.heap.size ≤ base) : Mv r w b :=
  Bes.trans h hb (fun _ x => x) (fun i hi x => by have := (own_in ho x).1; omega)
theorem rinfo_val : (Tryz.prog.info? 26).map (fun i => (i.zero, i.size, i.bytes)) = some (some (.agg JV.zero.cells), 6, 88) := by kernel_rfl
theorem rval_slice0 : ∃ ie z, Tryz.prog.info? 26 = some ie ∧ ie.zero = some z ∧ ie.size = 6 ∧ ie.bytes = 88 ∧ z = .agg JV.zero.cells := by
  have h := rinfo_val
  cases hq : Tryz.prog.info? 26 with
  | none => rw [hq] at h; cases h
  | some ie =>
    rw [hq] at h
    simp only [Option.map_some, Option.some.injEq, Prod.mk.injEq] at h
    exact ⟨ie, _, rfl, h.1, h.2.1, h.2.2, rfl⟩
theorem rval_fill (j : JV) : Instr.fill (fun i => some (i * 6, 6)) ((Array.range (1 * 6)).map ((Value.agg JV.zero.cells).cells[· % (Value.agg JV.zero.cells).cells.size]!)) [(0, .agg j.cells)] = some j.cells := by kernel_rfl
theorem each_more {σ : Type} {s : ByteArray} {endc : Int} (he : endc ≠ 44) {step : Nat → σ → Out σ} {n k : Nat} {x : σ} : eachL s endc step (n + 1) k x = match step k x with
    | .bad c p => .bad c p
    | .ok y k2 => match moreTo s endc k2 with
      | .ok true k3 => eachL s endc step n k3 y
      | .ok false k3 => .ok y k3
      | .bad c p => .bad c p := by
  conv => lhs; unfold eachL
  cases step k x with
  | bad c p => rfl
  | ok y k2 =>
    simp only
    unfold moreTo
    by_cases h1 : pk s (skipTo s k2) = 44
    · rw [if_neg (by rw [h1]; exact fun e => he e.symm), if_pos h1, if_pos h1]
    · rw [if_neg h1, if_neg h1]
      by_cases h2 : pk s (skipTo s k2) = endc
      · rw [if_pos h2, if_pos h2]
      · rw [if_neg h2, if_neg h2]
theorem more_goes {s : ByteArray} {endc : Int} {k : Nat} (he : 0 ≤ endc) : Goes s k (moreTo s endc k) := by
  unfold moreTo
  have h0 := skip_ge (s := s) (i := k)
  split
  · rename_i h
    have h1 := pk_lt h (by omega)
    have h2 := skip_ge (s := s) (i := skipTo s k + 1)
    exact Goes.okk (by omega) (skip_le (by omega))
  · split
    · rename_i h
      have h1 := pk_lt h he
      exact Goes.okk (by omega) (by omega)
    · exact Goes.bad
theorem more_bad {s : ByteArray} {endc : Int} {k : Nat} {c : Int} {p : Nat} (h : moreTo s endc k = .bad c p) : c = 3 := by
  unfold moreTo at h
  split at h
  · cases h
  · split at h
    · cases h
    · injection h with h _; exact h.symm
/-- What list gives: the row of values. -/
def RlV (w : World) (l : List JT) (e : Ending) (w' : World) : Prop := ∃ A c acc, e = .returned (.slice A acc.length c) ∧ IsJV w' (listJ A c acc) ∧ acc.map er = l ∧ Off (fun q => q < w.heap.size) (listJ A c acc)
def SlN (e : Ending) : Prop := ∃ A n c, e = .returned (.slice A n c)
theorem SlN.nil : SlN (.returned (.slice none 0 0)) := ⟨_, _, _, rfl⟩
theorem SlN.own {w : World} {base : Nat} {E : TypeId} {size : Nat} {v : Value} {n : Nat} {xs : List Value} (h : w.ownsRow base E size v n xs) : SlN (.returned v) := by
  rcases h.2 with ⟨rfl, _⟩ | ⟨g, cap, cur, rfl, _⟩
  · exact SlN.nil
  · exact ⟨_, _, _, rfl⟩
theorem RlV.nil {w w' : World} : RlV w [] (.returned (.slice none 0 0)) w' := ⟨none, 0, [], rfl, by
  unfold listJ IsJV
  refine ⟨⟨mi4, mi0, mze, rfl, rfl, rfl, by decide, by decide, ?_⟩, ?_, ?_⟩
  · unfold NamesAt; exact True.intro
  · unfold IsRow; exact True.intro
  · unfold IsRow; exact True.intro, rfl, by
  unfold listJ Off OffL
  exact ⟨fun h => absurd rfl h, fun h => absurd rfl h, True.intro, True.intro⟩⟩
theorem RlV.of {r : Nat} {s : ByteArray} {E : TypeId} {k : Nat} {v : Value} {acc : List JV} {w0 w : World} (h : RK r s w0.heap.size E 6 k v acc.length (valL acc) acc w) (hb : acc.length * 80 ≤ reach) : RlV w0 (acc.map er) (.returned v) w := by
  obtain ⟨A, c, rfl, hj, ha⟩ := own_vals h.own rfl (fun x hx => (h.els x hx).1) hb
  refine ⟨A, c, acc, rfl, hj, rfl, ?_⟩
  unfold listJ Off
  refine ⟨fun _ a e hlt => ?_, fun h => absurd rfl h, offL_of fun x hx => Off.mono (fun q e => Or.inl e) (h.els x hx).2, by unfold OffL; exact True.intro⟩
  have := ha a e
  have hlt2 : a.block < w0.heap.size := hlt
  omega
theorem rlist_len {r : Nat} {s : ByteArray} {base : Nat} {E : TypeId} {k : Nat} {v : Value} {acc : List JV} {j : JV} {w : World} (h : RK r s base E 6 k v (acc.length + 1) (valL acc ++ j.cells.toList) (acc ++ [j]) w) : RK r s base E 6 k v (acc ++ [j]).length (valL (acc ++ [j])) (acc ++ [j]) w := by
  rw [List.length_append, valL_app, valL_one]
  exact h
set_option maxRecDepth 10000 in
set_option maxHeartbeats 8000000 in
theorem rlist_any {d : Nat} (hd : d ≤ 31) (hval : RvOK d) {w : World} {r : Nat} {s : ByteArray} {i i1 : Nat} (h : RR w r s i1 0 0) (hi1 : i1 = i + 1) (hi : i < s.size) (hs : s.size ≤ 65536) :
    Calls Tryz.prog 40 #[At r, .int .i64 (32 - (d : Int))] w (RGot (eachTo s 93 (listStep (valueTo s d)) i []) r s w (RlV w) SlN) := by
  obtain ⟨ie, z, hie1, hie2, hie3, hie4, hz⟩ := rval_slice0
  subst hz
  have HR := h
  have HM := Mv.refl r w
  have hrw := HR.lt
  have hi1s : i1 ≤ s.size := by omega
  obtain ⟨k, hk⟩ : ∃ k, k = skipTo s i1 := ⟨_, rfl⟩
  have hks : k ≤ s.size := by rw [hk]; exact skip_le hi1s
  have HK1 := Lib.hid hk
  have heq : eachTo s 93 (listStep (valueTo s d)) i [] = if pk s k = 93 then .ok [] (k + 1) else eachL s 93 (listStep (valueTo s d)) (s.size + 1) k [] := by
    rw [hk, hi1]; rfl
  clear hk
  by_cases hlt : k < s.size
  · have b0 := bt_nonneg s k
    have b1 := bt_le s k
    by_cases h93 : bt s k = 93
    · have q93 : (bt s k == 93) = true := by rw [h93]; rfl
      have HK : Hid (eachTo s 93 (listStep (valueTo s d)) i [] = .ok [] (k + 1)) := Lib.hid (by rw [heq, if_pos ((pk_in hlt).trans h93)])
      clear heq h93
      go_enter Tryz.func40, Tryz.ntmps40
      go_wp2_with (first
        | (go_at_call 20; (with_reducible refine (rblanks_any HR hi1s hs).mono ?_); rintro e w2 ⟨rfl, hr, hm⟩; rw [← HK1.out] at hr; replace HR := hr; replace HM := HM.trans hm; clear hr hm; have c0 := HR.c0; have c1 := HR.c1; have f1 := HR.f1; have c2 := HR.c2)
        | (go_at_call 35; (with_reducible refine (rnextB_in HR hlt).mono ?_); rintro e w2 ⟨rfl, hr, hm⟩; replace HR := hr; replace HM := HM.trans hm; clear c0 c1 f1 c2 hr hm; have c0 := HR.c0; have c1 := HR.c1; have f1 := HR.f1; have c2 := HR.c2)
        | ((with_reducible refine is_store ?_); refine wpl_rat rfl (.tmp 28) (.tmp 26) rfl rfl (k + 1) (by rfl) HR ?_; intro w4 hr hm; clear c0 c1 f1 c2; replace HR := hr; replace HM := HM.trans hm; clear hr hm; have c0 := HR.c0; have c1 := HR.c1; have f1 := HR.f1; have c2 := HR.c2))
      go_ret
      exact RGot.ok HK.out HM RlV.nil HR
    · have q93 : (bt s k == 93) = false := by simpa using h93
      have HE : Hid (eachTo s 93 (listStep (valueTo s d)) i [] = eachL s 93 (listStep (valueTo s d)) (s.size + 1) k []) := Lib.hid (by rw [heq, if_neg (by rw [pk_in hlt]; exact h93)])
      clear heq
      clear h93
      go_enter Tryz.func40, Tryz.ntmps40
      go_wp2_with (first
        | (go_at_call 20; (with_reducible refine (rblanks_any HR hi1s hs).mono ?_); rintro e w2 ⟨rfl, hr, hm⟩; rw [← HK1.out] at hr; replace HR := hr; replace HM := HM.trans hm; clear hr hm; have c0 := HR.c0; have c1 := HR.c1; have f1 := HR.f1; have c2 := HR.c2)
        | (go_at_call 35; (with_reducible refine (rnextB_in HR hlt).mono ?_); rintro e w2 ⟨rfl, hr, hm⟩; replace HR := hr; replace HM := HM.trans hm; clear c0 c1 f1 c2 hr hm; have c0 := HR.c0; have c1 := HR.c1; have f1 := HR.f1; have c2 := HR.c2))
      clear b0 b1 c0 c1 f1 c2
      go_loopw [7] (fun ov wr => ∃ (k n : Nat) (v : Value) (acc : List JV), v = ov ∧ k ≤ s.size ∧ RK r s w.heap.size 26 6 k v acc.length (valL acc) acc wr ∧ Hid (eachL s 93 (listStep (valueTo s d)) n k (acc.map er) = eachTo s 93 (listStep (valueTo s d)) i []) ∧ s.size < k + n ∧ acc.length ≤ k ∧ Mv r w wr) (fun _ wr => s.size - atOf wr r)
      case atStart => exact ⟨k, s.size + 1, _, [], rfl, hks, ⟨HR, ⟨rfl, .inl ⟨rfl, rfl⟩⟩, (fun y hy => by cases hy), ⟨hrw, HM.size⟩⟩, Lib.hid HE.out.symm, Nat.lt_succ_of_le (Nat.le_add_left _ _), Nat.zero_le _, HM⟩
      case round =>
        clear HR HM HE hks HK1
        obtain ⟨k, n, v, acc, rfl, hks, HL, HS, hkn, hal, HM⟩ := hrel
        have HR := HL.rd
        have c0 := HR.c0
        have c1 := HR.c1
        have f1 := HR.f1
        have c2 := HR.c2
        have hat := HR.at
        have hwz := HM.size
        obtain ⟨n2, hn2⟩ : ∃ n2, n = n2 + 1 := ⟨n - 1, by omega⟩
        subst hn2
        have hst : Hid (eachL s 93 (listStep (valueTo s d)) (n2 + 1) k (acc.map er) = match valueTo s d k with
            | .bad c p => .bad c p
            | .ok t k2 => match moreTo s 93 k2 with
              | .ok true k3 => eachL s 93 (listStep (valueTo s d)) n2 k3 (acc.map er ++ [t])
              | .ok false k3 => .ok (acc.map er ++ [t]) k3
              | .bad c p => .bad c p) := Lib.hid (by
          rw [each_more (by decide)]
          unfold listStep
          cases valueTo s d k <;> rfl)
        cases ho : valueTo s d k with
        | bad c p =>
          have HK : Hid (eachTo s 93 (listStep (valueTo s d)) i [] = .bad c p) := Lib.hid (by rw [← HS.out, hst.out, ho])
          have HO := Lib.hid ho
          clear ho hst HS
          go_wp2_with (first
            | (go_at_call 21; (refine (hval.at HR hks hs).mono ?_); rw [HO.out]; rintro e w5 ⟨hm, ⟨j, rfl⟩, hc, i3, hr⟩; have hc2 : (c == 0) = false := (by simpa using hc); have hc3 : (c != 0) = true := (by simpa using hc); have HC := Lib.hid hc; clear hc c0 c1 f1 c2; replace HR := hr; replace HM := HM.trans hm; clear hr hm; have c0 := HR.c0; have c1 := HR.c1; have f1 := HR.f1; have c2 := HR.c2)
            | (refine wpl_newbox 8 rfl rfl 26 rfl rfl (.tmp 37) rfl _ zeroV j.cells rfl rfl info_value rfl (jv_one _) ?_; intro w7 hw; have hb := hid_grow hw; clear hw; replace HR := HR.below hb; replace HM := HM.trans (Mv.of hb); clear hb c0 c1 f1 c2; have c0 := HR.c0; have c1 := HR.c1; have f1 := HR.f1; have c2 := HR.c2))
          go_ret
          exact RGot.bad HK.out HM SlN.nil HC.out HR
        | ok t k2 =>
          have hg := value_goes d k t k2 ho
          have hk1 : k < k2 := hg.1
          have hk2 : k2 ≤ s.size := hg.2
          have HO := Lib.hid ho
          cases hm : moreTo s 93 k2 with
          | bad c p =>
            have hc3 := more_bad hm
            subst hc3
            have HK : Hid (eachTo s 93 (listStep (valueTo s d)) i [] = .bad 3 p) := Lib.hid (by rw [← HS.out, hst.out, ho]; simp only [hm])
            have HMO := Lib.hid hm
            clear ho hst HS hm hg
            go_wp2_with (first
              | (go_at_call 21; (refine (hval.at HR hks hs).mono ?_); rw [HO.out]; rintro e w5 ⟨hm, ⟨j, rfl, hj, hje, hjo⟩, hr⟩; have HJE := Lib.hid hje; have hjf : Off (fun q => q < w.heap.size ∨ v.ownBlock = some q) j := Off.mono (fun q e => e.elim (fun e => Nat.lt_of_lt_of_le e hwz) (fun e => (own_in HL.own e).2)) hjo; have HJF := Lib.hid hjf; clear hje hjf hjo; clear c0 c1 f1 c2; replace HL := HL.mv hm hr; replace HM := HM.trans hm; clear HR hr hm; have HR := HL.rd; have c0 := HR.c0; have c1 := HR.c1; have f1 := HR.f1; have c2 := HR.c2)
              | (refine wpl_newbox 8 rfl rfl 26 rfl rfl (.tmp 37) rfl _ zeroV j.cells rfl rfl info_value rfl (jv_one _) ?_; intro w7 hw; have hb := hid_grow hw; have B8 := (hid_alloc hw).1; clear hw; replace HL := HL.below hb; replace hj := IsJV.below hb hj; replace HM := HM.trans (Mv.of hb); clear hb c0 c1 f1 c2 HR; have HR := HL.rd; have c0 := HR.c0; have c1 := HR.c1; have f1 := HR.f1; have c2 := HR.c2)
              | ((with_reducible refine is_load ?_); refine wpl_load_box rfl 26 (.tmp 8) rfl _ rfl _ _ _ B8 Tryz.underlying26 rfl info_value ?_)
              | ((with_reducible refine is_slice ?_); refine wpl_slice_at 1 [(0, .agg j.cells)] j.cells ie _ (by rw [hie3]; exact rval_fill j) rfl 23 26 _ rfl rfl Tryz.underlying23 hie1 hie2 (by rw [hie3]; decide) (by rw [hie3]; decide) ?_; intro w9 hw; have hb := hid_grow hw; have B9 := (hid_alloc hw).1; clear hw; replace HL := HL.below hb; replace hj := IsJV.below hb hj; replace HM := HM.trans (Mv.of hb); clear hb c0 c1 f1 c2 HR; have HR := HL.rd; have c0 := HR.c0; have c1 := HR.c1; have f1 := HR.f1; have c2 := HR.c2)
              | (at_builtin; refine wpl_append_kept rfl (.tmp 44) (.tmp 46) 23 rfl w.heap.size 26 ie _ 6 88 Tryz.underlying23 hie1 hie2 hie3 hie4 rfl (by decide) v acc.length (valL acc) rfl HL.own _ 1 j.cells _ B9 rfl rfl (jv_one _) (by unfold maxLen; omega) (by omega) HL.st.2 ?_; intro v9 w10 ho9 hb9 hat9; have HL2 := rlist_len (HL.more ho9 hb9 hat9 hj HJF.out); replace HM := HM.own9 hb9 HL.own (Nat.le_refl _); clear HR HL hb9 ho9 hat9 B9 c0 c1 f1 c2; have HL := HL2; clear HL2; have HR := HL.rd; have c0 := HR.c0; have c1 := HR.c1; have f1 := HR.f1; have c2 := HR.c2)
              | (go_at_call 58; (with_reducible refine (rmore_any HR hk2 hs (by decide)).mono ?_); rw [HMO.out]; rintro e w11 ⟨hm, rfl, hc, i3, hr⟩; clear c0 c1 f1 c2; replace HR := hr; have hown := HL.own; replace HM := HM.trans hm; clear hr hm hc; have c0 := HR.c0; have c1 := HR.c1; have f1 := HR.f1; have c2 := HR.c2))
            go_ret
            exact RGot.bad HK.out HM (SlN.own hown) (by decide) HR
          | ok b k3 =>
            have hgm := more_goes (by decide) b k3 hm
            have hk3 : k2 < k3 := hgm.1
            have hk3s : k3 ≤ s.size := hgm.2
            have HMO := Lib.hid hm
            cases b
            · have HK : Hid (eachTo s 93 (listStep (valueTo s d)) i [] = .ok (acc.map er ++ [t]) k3) := Lib.hid (by rw [← HS.out, hst.out, ho]; simp only [hm])
              clear ho hst HS hm hg hgm
              go_wp2_with (first
                | (go_at_call 21; (refine (hval.at HR hks hs).mono ?_); rw [HO.out]; rintro e w5 ⟨hm, ⟨j, rfl, hj, hje, hjo⟩, hr⟩; have HJE := Lib.hid hje; have hjf : Off (fun q => q < w.heap.size ∨ v.ownBlock = some q) j := Off.mono (fun q e => e.elim (fun e => Nat.lt_of_lt_of_le e hwz) (fun e => (own_in HL.own e).2)) hjo; have HJF := Lib.hid hjf; clear hje hjf hjo; clear c0 c1 f1 c2; replace HL := HL.mv hm hr; replace HM := HM.trans hm; clear HR hr hm; have HR := HL.rd; have c0 := HR.c0; have c1 := HR.c1; have f1 := HR.f1; have c2 := HR.c2)
                | (refine wpl_newbox 8 rfl rfl 26 rfl rfl (.tmp 37) rfl _ zeroV j.cells rfl rfl info_value rfl (jv_one _) ?_; intro w7 hw; have hb := hid_grow hw; have B8 := (hid_alloc hw).1; clear hw; replace HL := HL.below hb; replace hj := IsJV.below hb hj; replace HM := HM.trans (Mv.of hb); clear hb c0 c1 f1 c2 HR; have HR := HL.rd; have c0 := HR.c0; have c1 := HR.c1; have f1 := HR.f1; have c2 := HR.c2)
                | ((with_reducible refine is_load ?_); refine wpl_load_box rfl 26 (.tmp 8) rfl _ rfl _ _ _ B8 Tryz.underlying26 rfl info_value ?_)
                | ((with_reducible refine is_slice ?_); refine wpl_slice_at 1 [(0, .agg j.cells)] j.cells ie _ (by rw [hie3]; exact rval_fill j) rfl 23 26 _ rfl rfl Tryz.underlying23 hie1 hie2 (by rw [hie3]; decide) (by rw [hie3]; decide) ?_; intro w9 hw; have hb := hid_grow hw; have B9 := (hid_alloc hw).1; clear hw; replace HL := HL.below hb; replace hj := IsJV.below hb hj; replace HM := HM.trans (Mv.of hb); clear hb c0 c1 f1 c2 HR; have HR := HL.rd; have c0 := HR.c0; have c1 := HR.c1; have f1 := HR.f1; have c2 := HR.c2)
                | (at_builtin; refine wpl_append_kept rfl (.tmp 44) (.tmp 46) 23 rfl w.heap.size 26 ie _ 6 88 Tryz.underlying23 hie1 hie2 hie3 hie4 rfl (by decide) v acc.length (valL acc) rfl HL.own _ 1 j.cells _ B9 rfl rfl (jv_one _) (by unfold maxLen; omega) (by omega) HL.st.2 ?_; intro v9 w10 ho9 hb9 hat9; have HL2 := rlist_len (HL.more ho9 hb9 hat9 hj HJF.out); replace HM := HM.own9 hb9 HL.own (Nat.le_refl _); clear HR HL hb9 ho9 hat9 B9 c0 c1 f1 c2; have HL := HL2; clear HL2; have HR := HL.rd; have c0 := HR.c0; have c1 := HR.c1; have f1 := HR.f1; have c2 := HR.c2)
                | (go_at_call 58; (with_reducible refine (rmore_any HR hk2 hs (by decide)).mono ?_); rw [HMO.out]; rintro e w11 ⟨hm, rfl, hr⟩; clear c0 c1 f1 c2; replace HL := HL.mv hm hr; replace HM := HM.trans hm; clear HR hr hm; have HR := HL.rd; have c0 := HR.c0; have c1 := HR.c1; have f1 := HR.f1; have c2 := HR.c2))
              go_ret
              exact RGot.ok HK.out HM (by have hh := RlV.of HL (by unfold reach; simp; omega); rw [List.map_append] at hh; rw [← HJE.out]; exact hh) HR
            · have HK : Hid (eachL s 93 (listStep (valueTo s d)) n2 k3 (acc.map er ++ [t]) = eachTo s 93 (listStep (valueTo s d)) i []) := Lib.hid (by rw [← HS.out, hst.out, ho]; simp only [hm])
              clear ho hst HS hm hg hgm
              go_wp2_with (first
                | (go_at_call 21; (refine (hval.at HR hks hs).mono ?_); rw [HO.out]; rintro e w5 ⟨hm, ⟨j, rfl, hj, hje, hjo⟩, hr⟩; have HJE := Lib.hid hje; have hjf : Off (fun q => q < w.heap.size ∨ v.ownBlock = some q) j := Off.mono (fun q e => e.elim (fun e => Nat.lt_of_lt_of_le e hwz) (fun e => (own_in HL.own e).2)) hjo; have HJF := Lib.hid hjf; clear hje hjf hjo; clear c0 c1 f1 c2; replace HL := HL.mv hm hr; replace HM := HM.trans hm; clear HR hr hm; have HR := HL.rd; have c0 := HR.c0; have c1 := HR.c1; have f1 := HR.f1; have c2 := HR.c2)
                | (refine wpl_newbox 8 rfl rfl 26 rfl rfl (.tmp 37) rfl _ zeroV j.cells rfl rfl info_value rfl (jv_one _) ?_; intro w7 hw; have hb := hid_grow hw; have B8 := (hid_alloc hw).1; clear hw; replace HL := HL.below hb; replace hj := IsJV.below hb hj; replace HM := HM.trans (Mv.of hb); clear hb c0 c1 f1 c2 HR; have HR := HL.rd; have c0 := HR.c0; have c1 := HR.c1; have f1 := HR.f1; have c2 := HR.c2)
                | ((with_reducible refine is_load ?_); refine wpl_load_box rfl 26 (.tmp 8) rfl _ rfl _ _ _ B8 Tryz.underlying26 rfl info_value ?_)
                | ((with_reducible refine is_slice ?_); refine wpl_slice_at 1 [(0, .agg j.cells)] j.cells ie _ (by rw [hie3]; exact rval_fill j) rfl 23 26 _ rfl rfl Tryz.underlying23 hie1 hie2 (by rw [hie3]; decide) (by rw [hie3]; decide) ?_; intro w9 hw; have hb := hid_grow hw; have B9 := (hid_alloc hw).1; clear hw; replace HL := HL.below hb; replace hj := IsJV.below hb hj; replace HM := HM.trans (Mv.of hb); clear hb c0 c1 f1 c2 HR; have HR := HL.rd; have c0 := HR.c0; have c1 := HR.c1; have f1 := HR.f1; have c2 := HR.c2)
                | (at_builtin; refine wpl_append_kept rfl (.tmp 44) (.tmp 46) 23 rfl w.heap.size 26 ie _ 6 88 Tryz.underlying23 hie1 hie2 hie3 hie4 rfl (by decide) v acc.length (valL acc) rfl HL.own _ 1 j.cells _ B9 rfl rfl (jv_one _) (by unfold maxLen; omega) (by omega) HL.st.2 ?_; intro v9 w10 ho9 hb9 hat9; have HL2 := rlist_len (HL.more ho9 hb9 hat9 hj HJF.out); replace HM := HM.own9 hb9 HL.own (Nat.le_refl _); clear HR HL hb9 ho9 hat9 B9 c0 c1 f1 c2; have HL := HL2; clear HL2; have HR := HL.rd; have c0 := HR.c0; have c1 := HR.c1; have f1 := HR.f1; have c2 := HR.c2)
                | (go_at_call 58; (with_reducible refine (rmore_any HR hk2 hs (by decide)).mono ?_); rw [HMO.out]; rintro e w11 ⟨hm, rfl, hr⟩; clear c0 c1 f1 c2; replace HL := HL.mv hm hr; replace HM := HM.trans hm; clear HR hr hm; have HR := HL.rd; have c0 := HR.c0; have c1 := HR.c1; have f1 := HR.f1; have c2 := HR.c2))
              go_roundw
              case rel => exact ⟨k3, n2, _, acc ++ [j], rfl, hk3s, HL, by rw [List.map_append]; show Hid (eachL _ _ _ _ _ (acc.map er ++ [er j]) = _); rw [HJE.out]; exact HK, by omega, by simp; omega, HM⟩
              case measure => rw [HR.at, hat]; omega
  · have HE : Hid (eachTo s 93 (listStep (valueTo s d)) i [] = eachL s 93 (listStep (valueTo s d)) (s.size + 1) k []) := Lib.hid (by rw [heq, if_neg (by rw [pk_end (by omega)]; decide)])
    clear heq
    go_enter Tryz.func40, Tryz.ntmps40
    go_wp2_with (first
      | (go_at_call 20; (with_reducible refine (rblanks_any HR hi1s hs).mono ?_); rintro e w2 ⟨rfl, hr, hm⟩; rw [← HK1.out] at hr; replace HR := hr; replace HM := HM.trans hm; clear hr hm; have c0 := HR.c0; have c1 := HR.c1; have f1 := HR.f1; have c2 := HR.c2)
      | (go_at_call 35; (with_reducible refine (rnextB_out HR hlt).mono ?_); rintro e w2 ⟨rfl, hr, hm⟩; replace HR := hr; replace HM := HM.trans hm; clear c0 c1 f1 c2 hr hm; have c0 := HR.c0; have c1 := HR.c1; have f1 := HR.f1; have c2 := HR.c2))
    clear c0 c1 f1 c2
    go_loopw [7] (fun ov wr => ∃ (k n : Nat) (v : Value) (acc : List JV), v = ov ∧ k ≤ s.size ∧ RK r s w.heap.size 26 6 k v acc.length (valL acc) acc wr ∧ Hid (eachL s 93 (listStep (valueTo s d)) n k (acc.map er) = eachTo s 93 (listStep (valueTo s d)) i []) ∧ s.size < k + n ∧ acc.length ≤ k ∧ Mv r w wr) (fun _ wr => s.size - atOf wr r)
    case atStart => exact ⟨k, s.size + 1, _, [], rfl, hks, ⟨HR, ⟨rfl, .inl ⟨rfl, rfl⟩⟩, (fun y hy => by cases hy), ⟨hrw, HM.size⟩⟩, Lib.hid HE.out.symm, Nat.lt_succ_of_le (Nat.le_add_left _ _), Nat.zero_le _, HM⟩
    case round =>
      clear HR HM HE hks HK1
      obtain ⟨k, n, v, acc, rfl, hks, HL, HS, hkn, hal, HM⟩ := hrel
      have HR := HL.rd
      have c0 := HR.c0
      have c1 := HR.c1
      have f1 := HR.f1
      have c2 := HR.c2
      have hat := HR.at
      have hwz := HM.size
      obtain ⟨n2, hn2⟩ : ∃ n2, n = n2 + 1 := ⟨n - 1, by omega⟩
      subst hn2
      have hst : Hid (eachL s 93 (listStep (valueTo s d)) (n2 + 1) k (acc.map er) = match valueTo s d k with
          | .bad c p => .bad c p
          | .ok t k2 => match moreTo s 93 k2 with
            | .ok true k3 => eachL s 93 (listStep (valueTo s d)) n2 k3 (acc.map er ++ [t])
            | .ok false k3 => .ok (acc.map er ++ [t]) k3
            | .bad c p => .bad c p) := Lib.hid (by
        rw [each_more (by decide)]
        unfold listStep
        cases valueTo s d k <;> rfl)
      cases ho : valueTo s d k with
      | bad c p =>
        have HK : Hid (eachTo s 93 (listStep (valueTo s d)) i [] = .bad c p) := Lib.hid (by rw [← HS.out, hst.out, ho])
        have HO := Lib.hid ho
        clear ho hst HS
        go_wp2_with (first
          | (go_at_call 21; (refine (hval.at HR hks hs).mono ?_); rw [HO.out]; rintro e w5 ⟨hm, ⟨j, rfl⟩, hc, i3, hr⟩; have hc2 : (c == 0) = false := (by simpa using hc); have hc3 : (c != 0) = true := (by simpa using hc); have HC := Lib.hid hc; clear hc c0 c1 f1 c2; replace HR := hr; replace HM := HM.trans hm; clear hr hm; have c0 := HR.c0; have c1 := HR.c1; have f1 := HR.f1; have c2 := HR.c2)
          | (refine wpl_newbox 8 rfl rfl 26 rfl rfl (.tmp 37) rfl _ zeroV j.cells rfl rfl info_value rfl (jv_one _) ?_; intro w7 hw; have hb := hid_grow hw; clear hw; replace HR := HR.below hb; replace HM := HM.trans (Mv.of hb); clear hb c0 c1 f1 c2; have c0 := HR.c0; have c1 := HR.c1; have f1 := HR.f1; have c2 := HR.c2))
        go_ret
        exact RGot.bad HK.out HM SlN.nil HC.out HR
      | ok t k2 =>
        have hg := value_goes d k t k2 ho
        have hk1 : k < k2 := hg.1
        have hk2 : k2 ≤ s.size := hg.2
        have HO := Lib.hid ho
        cases hm : moreTo s 93 k2 with
        | bad c p =>
          have hc3 := more_bad hm
          subst hc3
          have HK : Hid (eachTo s 93 (listStep (valueTo s d)) i [] = .bad 3 p) := Lib.hid (by rw [← HS.out, hst.out, ho]; simp only [hm])
          have HMO := Lib.hid hm
          clear ho hst HS hm hg
          go_wp2_with (first
            | (go_at_call 21; (refine (hval.at HR hks hs).mono ?_); rw [HO.out]; rintro e w5 ⟨hm, ⟨j, rfl, hj, hje, hjo⟩, hr⟩; have HJE := Lib.hid hje; have hjf : Off (fun q => q < w.heap.size ∨ v.ownBlock = some q) j := Off.mono (fun q e => e.elim (fun e => Nat.lt_of_lt_of_le e hwz) (fun e => (own_in HL.own e).2)) hjo; have HJF := Lib.hid hjf; clear hje hjf hjo; clear c0 c1 f1 c2; replace HL := HL.mv hm hr; replace HM := HM.trans hm; clear HR hr hm; have HR := HL.rd; have c0 := HR.c0; have c1 := HR.c1; have f1 := HR.f1; have c2 := HR.c2)
            | (refine wpl_newbox 8 rfl rfl 26 rfl rfl (.tmp 37) rfl _ zeroV j.cells rfl rfl info_value rfl (jv_one _) ?_; intro w7 hw; have hb := hid_grow hw; have B8 := (hid_alloc hw).1; clear hw; replace HL := HL.below hb; replace hj := IsJV.below hb hj; replace HM := HM.trans (Mv.of hb); clear hb c0 c1 f1 c2 HR; have HR := HL.rd; have c0 := HR.c0; have c1 := HR.c1; have f1 := HR.f1; have c2 := HR.c2)
            | ((with_reducible refine is_load ?_); refine wpl_load_box rfl 26 (.tmp 8) rfl _ rfl _ _ _ B8 Tryz.underlying26 rfl info_value ?_)
            | ((with_reducible refine is_slice ?_); refine wpl_slice_at 1 [(0, .agg j.cells)] j.cells ie _ (by rw [hie3]; exact rval_fill j) rfl 23 26 _ rfl rfl Tryz.underlying23 hie1 hie2 (by rw [hie3]; decide) (by rw [hie3]; decide) ?_; intro w9 hw; have hb := hid_grow hw; have B9 := (hid_alloc hw).1; clear hw; replace HL := HL.below hb; replace hj := IsJV.below hb hj; replace HM := HM.trans (Mv.of hb); clear hb c0 c1 f1 c2 HR; have HR := HL.rd; have c0 := HR.c0; have c1 := HR.c1; have f1 := HR.f1; have c2 := HR.c2)
            | (at_builtin; refine wpl_append_kept rfl (.tmp 44) (.tmp 46) 23 rfl w.heap.size 26 ie _ 6 88 Tryz.underlying23 hie1 hie2 hie3 hie4 rfl (by decide) v acc.length (valL acc) rfl HL.own _ 1 j.cells _ B9 rfl rfl (jv_one _) (by unfold maxLen; omega) (by omega) HL.st.2 ?_; intro v9 w10 ho9 hb9 hat9; have HL2 := rlist_len (HL.more ho9 hb9 hat9 hj HJF.out); replace HM := HM.own9 hb9 HL.own (Nat.le_refl _); clear HR HL hb9 ho9 hat9 B9 c0 c1 f1 c2; have HL := HL2; clear HL2; have HR := HL.rd; have c0 := HR.c0; have c1 := HR.c1; have f1 := HR.f1; have c2 := HR.c2)
            | (go_at_call 58; (with_reducible refine (rmore_any HR hk2 hs (by decide)).mono ?_); rw [HMO.out]; rintro e w11 ⟨hm, rfl, hc, i3, hr⟩; clear c0 c1 f1 c2; replace HR := hr; have hown := HL.own; replace HM := HM.trans hm; clear hr hm hc; have c0 := HR.c0; have c1 := HR.c1; have f1 := HR.f1; have c2 := HR.c2))
          go_ret
          exact RGot.bad HK.out HM (SlN.own hown) (by decide) HR
        | ok b k3 =>
          have hgm := more_goes (by decide) b k3 hm
          have hk3 : k2 < k3 := hgm.1
          have hk3s : k3 ≤ s.size := hgm.2
          have HMO := Lib.hid hm
          cases b
          · have HK : Hid (eachTo s 93 (listStep (valueTo s d)) i [] = .ok (acc.map er ++ [t]) k3) := Lib.hid (by rw [← HS.out, hst.out, ho]; simp only [hm])
            clear ho hst HS hm hg hgm
            go_wp2_with (first
              | (go_at_call 21; (refine (hval.at HR hks hs).mono ?_); rw [HO.out]; rintro e w5 ⟨hm, ⟨j, rfl, hj, hje, hjo⟩, hr⟩; have HJE := Lib.hid hje; have hjf : Off (fun q => q < w.heap.size ∨ v.ownBlock = some q) j := Off.mono (fun q e => e.elim (fun e => Nat.lt_of_lt_of_le e hwz) (fun e => (own_in HL.own e).2)) hjo; have HJF := Lib.hid hjf; clear hje hjf hjo; clear c0 c1 f1 c2; replace HL := HL.mv hm hr; replace HM := HM.trans hm; clear HR hr hm; have HR := HL.rd; have c0 := HR.c0; have c1 := HR.c1; have f1 := HR.f1; have c2 := HR.c2)
              | (refine wpl_newbox 8 rfl rfl 26 rfl rfl (.tmp 37) rfl _ zeroV j.cells rfl rfl info_value rfl (jv_one _) ?_; intro w7 hw; have hb := hid_grow hw; have B8 := (hid_alloc hw).1; clear hw; replace HL := HL.below hb; replace hj := IsJV.below hb hj; replace HM := HM.trans (Mv.of hb); clear hb c0 c1 f1 c2 HR; have HR := HL.rd; have c0 := HR.c0; have c1 := HR.c1; have f1 := HR.f1; have c2 := HR.c2)
              | ((with_reducible refine is_load ?_); refine wpl_load_box rfl 26 (.tmp 8) rfl _ rfl _ _ _ B8 Tryz.underlying26 rfl info_value ?_)
              | ((with_reducible refine is_slice ?_); refine wpl_slice_at 1 [(0, .agg j.cells)] j.cells ie _ (by rw [hie3]; exact rval_fill j) rfl 23 26 _ rfl rfl Tryz.underlying23 hie1 hie2 (by rw [hie3]; decide) (by rw [hie3]; decide) ?_; intro w9 hw; have hb := hid_grow hw; have B9 := (hid_alloc hw).1; clear hw; replace HL := HL.below hb; replace hj := IsJV.below hb hj; replace HM := HM.trans (Mv.of hb); clear hb c0 c1 f1 c2 HR; have HR := HL.rd; have c0 := HR.c0; have c1 := HR.c1; have f1 := HR.f1; have c2 := HR.c2)
              | (at_builtin; refine wpl_append_kept rfl (.tmp 44) (.tmp 46) 23 rfl w.heap.size 26 ie _ 6 88 Tryz.underlying23 hie1 hie2 hie3 hie4 rfl (by decide) v acc.length (valL acc) rfl HL.own _ 1 j.cells _ B9 rfl rfl (jv_one _) (by unfold maxLen; omega) (by omega) HL.st.2 ?_; intro v9 w10 ho9 hb9 hat9; have HL2 := rlist_len (HL.more ho9 hb9 hat9 hj HJF.out); replace HM := HM.own9 hb9 HL.own (Nat.le_refl _); clear HR HL hb9 ho9 hat9 B9 c0 c1 f1 c2; have HL := HL2; clear HL2; have HR := HL.rd; have c0 := HR.c0; have c1 := HR.c1; have f1 := HR.f1; have c2 := HR.c2)
              | (go_at_call 58; (with_reducible refine (rmore_any HR hk2 hs (by decide)).mono ?_); rw [HMO.out]; rintro e w11 ⟨hm, rfl, hr⟩; clear c0 c1 f1 c2; replace HL := HL.mv hm hr; replace HM := HM.trans hm; clear HR hr hm; have HR := HL.rd; have c0 := HR.c0; have c1 := HR.c1; have f1 := HR.f1; have c2 := HR.c2))
            go_ret
            exact RGot.ok HK.out HM (by have hh := RlV.of HL (by unfold reach; simp; omega); rw [List.map_append] at hh; rw [← HJE.out]; exact hh) HR
          · have HK : Hid (eachL s 93 (listStep (valueTo s d)) n2 k3 (acc.map er ++ [t]) = eachTo s 93 (listStep (valueTo s d)) i []) := Lib.hid (by rw [← HS.out, hst.out, ho]; simp only [hm])
            clear ho hst HS hm hg hgm
            go_wp2_with (first
              | (go_at_call 21; (refine (hval.at HR hks hs).mono ?_); rw [HO.out]; rintro e w5 ⟨hm, ⟨j, rfl, hj, hje, hjo⟩, hr⟩; have HJE := Lib.hid hje; have hjf : Off (fun q => q < w.heap.size ∨ v.ownBlock = some q) j := Off.mono (fun q e => e.elim (fun e => Nat.lt_of_lt_of_le e hwz) (fun e => (own_in HL.own e).2)) hjo; have HJF := Lib.hid hjf; clear hje hjf hjo; clear c0 c1 f1 c2; replace HL := HL.mv hm hr; replace HM := HM.trans hm; clear HR hr hm; have HR := HL.rd; have c0 := HR.c0; have c1 := HR.c1; have f1 := HR.f1; have c2 := HR.c2)
              | (refine wpl_newbox 8 rfl rfl 26 rfl rfl (.tmp 37) rfl _ zeroV j.cells rfl rfl info_value rfl (jv_one _) ?_; intro w7 hw; have hb := hid_grow hw; have B8 := (hid_alloc hw).1; clear hw; replace HL := HL.below hb; replace hj := IsJV.below hb hj; replace HM := HM.trans (Mv.of hb); clear hb c0 c1 f1 c2 HR; have HR := HL.rd; have c0 := HR.c0; have c1 := HR.c1; have f1 := HR.f1; have c2 := HR.c2)
              | ((with_reducible refine is_load ?_); refine wpl_load_box rfl 26 (.tmp 8) rfl _ rfl _ _ _ B8 Tryz.underlying26 rfl info_value ?_)
              | ((with_reducible refine is_slice ?_); refine wpl_slice_at 1 [(0, .agg j.cells)] j.cells ie _ (by rw [hie3]; exact rval_fill j) rfl 23 26 _ rfl rfl Tryz.underlying23 hie1 hie2 (by rw [hie3]; decide) (by rw [hie3]; decide) ?_; intro w9 hw; have hb := hid_grow hw; have B9 := (hid_alloc hw).1; clear hw; replace HL := HL.below hb; replace hj := IsJV.below hb hj; replace HM := HM.trans (Mv.of hb); clear hb c0 c1 f1 c2 HR; have HR := HL.rd; have c0 := HR.c0; have c1 := HR.c1; have f1 := HR.f1; have c2 := HR.c2)
              | (at_builtin; refine wpl_append_kept rfl (.tmp 44) (.tmp 46) 23 rfl w.heap.size 26 ie _ 6 88 Tryz.underlying23 hie1 hie2 hie3 hie4 rfl (by decide) v acc.length (valL acc) rfl HL.own _ 1 j.cells _ B9 rfl rfl (jv_one _) (by unfold maxLen; omega) (by omega) HL.st.2 ?_; intro v9 w10 ho9 hb9 hat9; have HL2 := rlist_len (HL.more ho9 hb9 hat9 hj HJF.out); replace HM := HM.own9 hb9 HL.own (Nat.le_refl _); clear HR HL hb9 ho9 hat9 B9 c0 c1 f1 c2; have HL := HL2; clear HL2; have HR := HL.rd; have c0 := HR.c0; have c1 := HR.c1; have f1 := HR.f1; have c2 := HR.c2)
              | (go_at_call 58; (with_reducible refine (rmore_any HR hk2 hs (by decide)).mono ?_); rw [HMO.out]; rintro e w11 ⟨hm, rfl, hr⟩; clear c0 c1 f1 c2; replace HL := HL.mv hm hr; replace HM := HM.trans hm; clear HR hr hm; have HR := HL.rd; have c0 := HR.c0; have c1 := HR.c1; have f1 := HR.f1; have c2 := HR.c2))
            go_roundw
            case rel => exact ⟨k3, n2, _, acc ++ [j], rfl, hk3s, HL, by rw [List.map_append]; show Hid (eachL _ _ _ _ _ (acc.map er ++ [er j]) = _); rw [HJE.out]; exact HK, by omega, by simp; omega, HM⟩
            case measure => rw [HR.at, hat]; omega
end Go.Proofs.YtjhncopbiblenaaGreatDoor
