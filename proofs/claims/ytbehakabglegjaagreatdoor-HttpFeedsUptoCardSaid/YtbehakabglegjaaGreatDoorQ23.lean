/- Layer 9: a text as it stands in a target. Layer 9: a target is cut into its parts: plain laws; rows of texts and of pairs beside a box. -/
import Derived.Test.YtbehakabglegjaaGreatDoorQ22
import Derived.Test.YtbehakabglegjaaGreatDoorQ21
namespace Go.Proofs.YtbehakabglegjaaGreatDoor
open Go.RowKit Go.PlainAid
set_option linter.unusedVariables false
set_option linter.unusedSimpArgs false
def digT : ByteArray := (⟨#[48, 49, 50, 51, 52, 53, 54, 55, 56, 57, 65, 66, 67, 68, 69, 70]⟩ : ByteArray)
end Go.Proofs.YtbehakabglegjaaGreatDoor
namespace Go.Proofs.YtbehakabglegjaaGreatDoor
open Go.RowKit Go.PlainAid
set_option linter.unusedVariables false
set_option linter.unusedSimpArgs false
theorem partL_bd (en : List UInt8) : ∀ (n : Nat) (l : List UInt8) (i : Nat) (acc t : List UInt8) (k : Nat), partL en n l i acc = .inr (t, k) → i ≤ k ∧ k ≤ i + l.length
  | 0, l, i, acc, t, k, h => by
    injection h with h
    injection h with _ h
    omega
  | n + 1, [], i, acc, t, k, h => by
    unfold partL at h
    injection h with h
    injection h with _ h
    omega
  | n + 1, c :: l, i, acc, t, k, h => by
    unfold partL at h
    simp only [List.length_cons]
    split at h
    · injection h with h
      injection h with _ h
      omega
    · split at h
      · cases h
      · split at h
        · match l, h with
          | [], h => cases h
          | [_], h => cases h
          | a :: b :: l2, h =>
            simp only at h
            split at h
            · cases h
            · have := partL_bd en n l2 (i + 3) _ t k h
              simp only [List.length_cons]
              omega
        · have := partL_bd en n l (i + 1) _ t k h
          omega
theorem partS_bd {en s : List UInt8} {i k : Nat} {t : ByteArray} (h : partS en s i = .inr (t, k)) (hi : i ≤ s.length) : i ≤ k ∧ k ≤ s.length := by
  unfold partS at h
  split at h
  · cases h
  · rename_i t2 k2 e
    split at h
    · injection h with h
      injection h with _ h
      have := partL_bd _ _ _ _ _ _ _ e
      rw [List.length_drop] at this
      omega
    · cases h
/-- The path from a place on, whatever the fuel. -/
def PT (s : List UInt8) (k : Nat) (acc : List ByteArray) (r : (Int × Nat) ⊕ (List ByteArray × Nat)) : Prop := ∀ n, s.length - k < n → pathS s n k acc = r
theorem PT.end_ {s : List UInt8} {k : Nat} {acc : List ByteArray} {r} (h : PT s k acc r) (hk : s[k]? ≠ some 47) : r = .inr (acc, k) := by
  have e := h (s.length - k + 1) (by omega)
  unfold pathS at e
  rw [if_neg hk] at e
  exact e.symm
theorem PT.bad {s : List UInt8} {k : Nat} {acc : List ByteArray} {r} {x : Int × Nat} (h : PT s k acc r) (hk : s[k]? = some 47) (hp : partS [47, 63] s (k + 1) = .inl x) : r = .inl x := by
  have e := h (s.length - k + 1) (by omega)
  unfold pathS at e
  rw [if_pos hk, hp] at e
  exact e.symm
theorem pathS_fuel (s : List UInt8) : ∀ (n m k : Nat) (acc : List ByteArray), s.length - k < n → s.length - k < m → pathS s n k acc = pathS s m k acc
  | 0, _, _, _, h, _ => by cases h
  | _ + 1, 0, _, _, _, h => by cases h
  | n + 1, m + 1, k, acc, hn, hm => by
    unfold pathS
    by_cases hk : s[k]? = some 47
    · rw [if_pos hk, if_pos hk]
      have hl := (List.getElem?_eq_some_iff.1 hk).1
      cases hp : partS [47, 63] s (k + 1) with
      | inl x => rfl
      | inr x =>
        obtain ⟨p, k2⟩ := x
        have hb := partS_bd hp (by omega)
        exact pathS_fuel s n m k2 _ (by omega) (by omega)
    · rw [if_neg hk, if_neg hk]
theorem PT.more {s : List UInt8} {k k2 : Nat} {acc : List ByteArray} {r} {p : ByteArray} (h : PT s k acc r) (hk : s[k]? = some 47) (hp : partS [47, 63] s (k + 1) = .inr (p, k2)) : PT s k2 (acc ++ [p]) r := fun n hn => by
  have hl := (List.getElem?_eq_some_iff.1 hk).1
  have hb := partS_bd hp (by omega)
  have e := h (s.length - k + 1) (by omega)
  conv at e => lhs; unfold pathS
  rw [if_pos hk, hp] at e
  rw [← e]
  exact pathS_fuel s _ _ _ _ hn (by omega)
theorem PT.start (s : List UInt8) : PT s 0 [] (pathS s (s.length + 1) 0 []) := fun n hn => pathS_fuel s _ _ _ _ hn (by omega)
theorem paramS_bd {s : List UInt8} {i k : Nat} {p : ByteArray × ByteArray} (h : paramS s i = .inr (p, k)) (hi : i ≤ s.length) : i ≤ k ∧ k ≤ s.length := by
  unfold paramS at h
  split at h
  · cases h
  · rename_i n k1 e1
    have h1 := partS_bd e1 hi
    split at h
    · rename_i h61
      have hl := (List.getElem?_eq_some_iff.1 h61).1
      split at h
      · cases h
      · rename_i v q e2
        have h2 := partS_bd e2 (by omega)
        injection h with h
        injection h with _ h
        omega
    · injection h with h
      injection h with _ h
      omega
/-- The query from a place on, whatever the fuel. -/
def QT (s : List UInt8) (k : Nat) (acc : List (ByteArray × ByteArray)) (r : (Int × Nat) ⊕ (List (ByteArray × ByteArray))) : Prop := ∀ n, s.length - k < n → queryS s n k acc = r
theorem QT.bad {s : List UInt8} {k : Nat} {acc : List (ByteArray × ByteArray)} {r} {x : Int × Nat} (h : QT s k acc r) (hp : paramS s k = .inl x) : r = .inl x := by
  have e := h (s.length - k + 1) (by omega)
  unfold queryS at e
  rw [hp] at e
  exact e.symm
theorem QT.last {s : List UInt8} {k k2 : Nat} {acc : List (ByteArray × ByteArray)} {r} {p : ByteArray × ByteArray} (h : QT s k acc r) (hp : paramS s k = .inr (p, k2)) (h38 : s[k2]? ≠ some 38) : r = .inr (acc ++ [p]) := by
  have e := h (s.length - k + 1) (by omega)
  unfold queryS at e
  rw [hp] at e
  simp only at e
  rw [if_neg h38] at e
  exact e.symm
theorem queryS_fuel (s : List UInt8) : ∀ (n m k : Nat) (acc : List (ByteArray × ByteArray)), k ≤ s.length → s.length - k < n → s.length - k < m → queryS s n k acc = queryS s m k acc
  | 0, _, _, _, _, h, _ => by cases h
  | _ + 1, 0, _, _, _, _, h => by cases h
  | n + 1, m + 1, k, acc, hk, hn, hm => by
    unfold queryS
    cases hp : paramS s k with
    | inl x => rfl
    | inr x =>
      obtain ⟨p, k2⟩ := x
      have hb := paramS_bd hp hk
      simp only
      by_cases h38 : s[k2]? = some 38
      · rw [if_pos h38, if_pos h38]
        have hl := (List.getElem?_eq_some_iff.1 h38).1
        exact queryS_fuel s n m _ _ (by omega) (by omega) (by omega)
      · rw [if_neg h38, if_neg h38]
theorem QT.more {s : List UInt8} {k k2 : Nat} {acc : List (ByteArray × ByteArray)} {r} {p : ByteArray × ByteArray} (h : QT s k acc r) (hk : k ≤ s.length) (hp : paramS s k = .inr (p, k2)) (h38 : s[k2]? = some 38) : QT s (k2 + 1) (acc ++ [p]) r := fun n hn => by
  have hl := (List.getElem?_eq_some_iff.1 h38).1
  have hb := paramS_bd hp hk
  have e := h (s.length - k + 1) (by omega)
  conv at e => lhs; unfold queryS
  rw [hp] at e
  simp only at e
  rw [if_pos h38] at e
  rw [← e]
  exact queryS_fuel s _ _ _ _ (by omega) hn (by omega)
theorem QT.start {s : List UInt8} {k : Nat} (hk : k ≤ s.length) : QT s k [] (queryS s (s.length + 1) k []) := fun n hn => queryS_fuel s _ _ _ _ hk hn (by omega)
theorem paramS_bad {s : List UInt8} {k : Nat} {x : Int × Nat} (h : partS [61, 38] s k = .inl x) : paramS s k = .inl x := by unfold paramS; rw [h]
theorem paramS_name {s : List UInt8} {k k1 : Nat} {n : ByteArray} (h : partS [61, 38] s k = .inr (n, k1)) (h61 : s[k1]? ≠ some 61) : paramS s k = .inr ((n, ⟨#[]⟩), k1) := by unfold paramS; rw [h]; simp only; rw [if_neg h61]
theorem paramS_bad2 {s : List UInt8} {k k1 : Nat} {n : ByteArray} {x : Int × Nat} (h : partS [61, 38] s k = .inr (n, k1)) (h61 : s[k1]? = some 61) (h2 : partS [38] s (k1 + 1) = .inl x) : paramS s k = .inl x := by unfold paramS; rw [h]; simp only; rw [if_pos h61, h2]
theorem paramS_both {s : List UInt8} {k k1 k2 : Nat} {n v : ByteArray} (h : partS [61, 38] s k = .inr (n, k1)) (h61 : s[k1]? = some 61) (h2 : partS [38] s (k1 + 1) = .inr (v, k2)) : paramS s k = .inr ((n, v), k2) := by unfold paramS; rw [h]; simp only; rw [if_pos h61, h2]
/-- A row's block is none of another type. -/
theorem own_ne {w : World} {base : Nat} {e t : TypeId} {size g : Nat} {v : Value} {n : Nat} {xs : List Value} {arr : Array Value} (h : w.ownsRow base e size v n xs) (hB : IBox w g t arr) (ht : t ≠ e) : v.ownBlock ≠ some g := fun hv => by
  rcases h.2 with ⟨rfl, _⟩ | ⟨k, cap, cur, rfl, _, hg, _⟩
  · cases hv
  · have : k = g := Option.some.inj hv
    subst this
    have hI : w.heap[k]? = some (.cells arr t (0, 0)) := hB
    rw [hI] at hg
    injection hg with hg
    injection hg with _ e2
    exact ht e2
theorem own_by {w w' : World} {base : Nat} {e t : TypeId} {size g : Nat} {v : Value} {n : Nat} {xs : List Value} {arr : Array Value} (h : w.ownsRow base e size v n xs) (hB : IBox w g t arr) (ht : t ≠ e) (hb : Bes (· = g) w w') : w'.ownsRow base e size v n xs :=
  hb.own h fun k hk e2 => own_ne h hB ht (by rw [hk, e2])
theorem box_ne {w : World} {a b : Nat} {s t : TypeId} {x y : Array Value} (h : IBox w a s x) (k : IBox w b t y) (ht : s ≠ t) : a ≠ b := fun e => by
  subst e
  have h2 : w.heap[a]? = some (.cells x s (0, 0)) := h
  have k2 : w.heap[a]? = some (.cells y t (0, 0)) := k
  rw [h2] at k2
  injection k2 with k2
  injection k2 with _ e2
  exact ht e2
theorem box_by {w w' : World} {a b : Nat} {s t : TypeId} {x y : Array Value} (h : IBox w a s x) (k : IBox w b t y) (ht : s ≠ t) (hb : Bes (· = b) w w') : IBox w' a s x := hb.box h (box_ne h k ht)
theorem box_grown {w w' : World} {base g : Nat} {e t : TypeId} {size : Nat} {v : Value} {n : Nat} {xs : List Value} {arr : Array Value} (hB : IBox w g t arr) (h : w.ownsRow base e size v n xs) (ht : t ≠ e) (hg : w.grownBy w' v.ownBlock) : IBox w' g t arr :=
  (Bes.grown (X := fun q => v.ownBlock = some q) hg (fun _ e => e)).box hB (own_ne h hB ht)
theorem own_grown {w w' : World} {base b2 : Nat} {e t : TypeId} {size s2 : Nat} {v v2 : Value} {n n2 : Nat} {xs ys : List Value} (h : w.ownsRow base e size v n xs) (h2 : w.ownsRow b2 t s2 v2 n2 ys) (ht : e ≠ t) (hg : w.grownBy w' v2.ownBlock) : w'.ownsRow base e size v n xs := by
  refine (Bes.grown (X := fun q => v2.ownBlock = some q) hg (fun _ e => e)).own h fun k hk hk2 => ?_
  rcases h.2 with ⟨rfl, _⟩ | ⟨a, cap, cur, rfl, _, ha, _⟩
  · cases hk
  · rcases h2.2 with ⟨rfl, _⟩ | ⟨b, cap2, cur2, rfl, _, hb, _⟩
    · cases hk2
    · have e1 : a = k := Option.some.inj hk
      have e2 : b = k := Option.some.inj hk2
      subst e1
      subst e2
      rw [ha] at hb
      injection hb with hb
      injection hb with _ e3
      exact ht e3
/-- The row grown by one element that lies in a block of its own; what else has changed is told. -/
theorem wpl_grow {P : Program} {ops : Array Oper} {rest : List Oper} {o : Oper} {a : Act} {w : World} {Q : Exit → Act → World → Prop} (hgd : o.guard = none) (s x : Operand) (t : TypeId)
    (ho : o.op = .call { callee := .builtin .append, args := #[s, x], argTypes := #[t, t] })
    (base : Nat) (e : TypeId) (i : TypeInfo) (z : Value) (size bytes : Nat) (ht : P.underlying t = some (.slice e)) (hi : P.info? e = some i) (hz : i.zero = some z)
    (hsize : i.size = size) (hby : i.bytes = bytes) (hzs : z.cells.size = size) (hsz : 0 < size)
    (v : Value) (n : Nat) (xs : List Value) (hs : a.eval s = v) (hown : w.ownsRow base e size v n xs)
    (g c : Nat) (cells : Array Value) (ty : TypeId) (IB : IBox w g ty cells) (hcs : cells.size = size) (hx : a.eval x = .slice (some ⟨g, 0, none⟩) 1 c) (h1 : cells.all (·.oneCell') = true)
    (h63 : n + 1 ≤ maxLen) (hbytes : (n + 1) * bytes ≤ 140737488355328) (hbase : base ≤ w.heap.size)
    (h : ∀ v' w', w'.ownsRow base e size v' (n + 1) (xs ++ cells.toList) → w.grownBy w' v.ownBlock → Below base w w' → wpList P ops Q rest (a.put o.dst v') w') : wpList P ops Q (o :: rest) a w := by
  refine wpList_append_own w hgd s x t ho base e i z size bytes ht hi hz hsize hby hzs hsz v n xs hs hown ⟨g, 0, none⟩ 1 c cells.toList hx (by simp [hcs]) ?_ ?_ h63 hbytes hbase ?_
  · intro j u hu
    have hadd : (⟨g, 0, none⟩ : Addr).add j = ⟨g, j, none⟩ := by unfold Addr.add; split <;> simp_all
    rw [hadd, IB.cell]
    simpa using hu
  · intro u hu
    have := Array.all_eq_true_iff_forall_mem.1 h1 u (by simpa using hu)
    exact this
  · intro v' w' h2 h3 _
    exact h v' w' h2 h3 ((Below.refl base w).grown h3 hbase fun k hk => (hown.lt k hk).1)
def txL (l : List ByteArray) : List Value := l.map Value.string
/-- Texts in a row of the call's own. -/
def OwnT (w : World) (base : Nat) (v : Value) (l : List ByteArray) : Prop := w.ownsRow base 9 1 v l.length (txL l)
/-- Pairs of texts in a row of the call's own. -/
def OwnP (w : World) (base : Nat) (v : Value) (l : List (ByteArray × ByteArray)) : Prop := w.ownsRow base 54 2 v l.length (hdsL l)
theorem own_nil (w : World) (base : Nat) (e : TypeId) (size : Nat) : w.ownsRow base e size (.slice none 0 0) 0 [] := ⟨by rw [Nat.zero_mul]; rfl, .inl ⟨rfl, rfl⟩⟩
theorem own_some {w : World} {base : Nat} {e : TypeId} {size n : Nat} {v : Value} {xs : List Value} (h : w.ownsRow base e size v n xs) (hn : n ≠ 0) : ∃ ad cap, v = .slice (some ad) n cap := by
  rcases h.2 with ⟨_, h0⟩ | ⟨g, cap, cur, rfl, _⟩
  · exact absurd h0 hn
  · exact ⟨_, _, rfl⟩
theorem info_str : ∃ ie, Tryz.prog.info? 9 = some ie ∧ ie.zero = some (.string ⟨#[]⟩) ∧ ie.size = 1 ∧ ie.bytes = 16 := by
  have h : (Tryz.prog.info? 9).map (fun i => (i.zero, i.size, i.bytes)) = some (some (.string ⟨#[]⟩), 1, 16) := by kernel_rfl
  cases hq : Tryz.prog.info? 9 with
  | none => rw [hq] at h; cases h
  | some ie =>
    rw [hq] at h
    simp only [Option.map_some, Option.some.injEq, Prod.mk.injEq] at h
    exact ⟨ie, rfl, h.1, h.2.1, h.2.2⟩
theorem str_fill (a : ByteArray) : Instr.fill (fun i => some (i * 1, 1)) ((Array.range (1 * 1)).map ((Value.string ⟨#[]⟩).cells[· % (Value.string ⟨#[]⟩).cells.size]!)) [(0, .string a)] = some #[.string a] := by kernel_rfl
theorem info_pm : ∃ ie, Tryz.prog.info? 54 = some ie ∧ ie.zero = some (.agg (hdA ⟨#[]⟩ ⟨#[]⟩)) ∧ ie.size = 2 ∧ ie.bytes = 32 := by
  have h : (Tryz.prog.info? 54).map (fun i => (i.zero, i.size, i.bytes)) = some (some (.agg (hdA ⟨#[]⟩ ⟨#[]⟩)), 2, 32) := by kernel_rfl
  cases hq : Tryz.prog.info? 54 with
  | none => rw [hq] at h; cases h
  | some ie =>
    rw [hq] at h
    simp only [Option.map_some, Option.some.injEq, Prod.mk.injEq] at h
    exact ⟨ie, rfl, h.1, h.2.1, h.2.2⟩
theorem info_pm2 : (Tryz.prog.info? 54).map (·.size) = some 2 := by kernel_rfl
theorem zeroPm (w : World) : (zeroValue 54).run Tryz.prog w = .ok (.agg (hdA ⟨#[]⟩ ⟨#[]⟩)) w := (Go.zero_of_info (show (Tryz.prog.info? 54).map (fun i => (i.zero, i.size)) = some (some (.agg (hdA ⟨#[]⟩ ⟨#[]⟩)), 2) by kernel_rfl)).1 w
theorem pm_build (nm : ByteArray) (w : World) : (Instr.build 54 [(0, .string nm)].toArray).run Tryz.prog w = .ok (.agg (hdA nm ⟨#[]⟩)) w := by kernel_rfl
theorem ct_build (s : ByteArray) (w : World) : (Instr.build 91 [(0, .string s)].toArray).run Tryz.prog w = .ok (.agg (CtA s 0)) w := by kernel_rfl
theorem ft_build (k : Int) (w : World) : (Instr.build 85 [(1, .iface 31 (.int .i64 k))].toArray).run Tryz.prog w = .ok (.agg (FaultA 0 k)) w := by kernel_rfl
theorem one_s1 : (Tryz.prog.info? 9).map (·.size) = some 1 := by kernel_rfl
theorem txL_app (l : List ByteArray) (p : ByteArray) : txL l ++ (#[Value.string p] : Array Value).toList = txL (l ++ [p]) := by unfold txL; simp
def qOut (path : List ByteArray) (r : (Int × Nat) ⊕ (List (ByteArray × ByteArray))) : (Int × Nat) ⊕ (List ByteArray × List (ByteArray × ByteArray)) := match r with
  | .inl e => .inl e
  | .inr q => .inr (path, q)
/-- What Split gives. -/
def SpV (w : World) (base : Nat) (r : (Int × Nat) ⊕ (List ByteArray × List (ByteArray × ByteArray))) (e : Ending) : Prop := match r with
  | .inl (c, p) => ∃ v, e = .returned (.tuple #[.slice none 0 0, .slice none 0 0, v]) ∧ IsFault w v c p
  | .inr (path, q) => ∃ pv qv, e = .returned (.tuple #[pv, qv, .nilIface]) ∧ OwnT w base pv path ∧ OwnP w base qv q
end Go.Proofs.YtbehakabglegjaaGreatDoor
