/- From a row's reading of its arguments to what the walks take, with the bulk of the reading above their sizes. -/
import Derived.ChangeArms
import Derived.WideKeyArgs
import Derived.Test.YtbehakabglegjaaGreatDoorQ23
import Derived.Test.YtbehakabglegjaaGreatDoorQ22
import Derived.Test.YtbehakabglegjaaGreatDoorQ00
import Derived.Test.YtbehakabglegjaaGreatDoorQ32
namespace Go.Proofs.YtbehakabglegjaaGreatDoor
open Go.RowKit
set_option linter.unusedVariables false
set_option linter.unusedSimpArgs false
/-- Sizes, as the bulk counts them. -/
def hdSz (l : List (ByteArray × ByteArray)) : Nat := (l.map fun p => p.1.size + p.2.size + 3).sum
def msSz (m : Ms) : Nat := m.meth.size + m.targ.size + m.reas.size + hdSz m.heads + m.body.length
def txSz (l : List ByteArray) : Nat := (l.map fun s => s.size + 1).sum
/-- Numbers, rows of bytes that can be read. -/
def InAt (w : World) (v : Value) (l : List Int) : Prop := ∃ A c, v = .slice A l.length c ∧ ∀ i n, l[i]? = some n → ∃ b off, A = some ⟨b, off, none⟩ ∧ w.cell? ⟨b, off + i, none⟩ = some (.int .i64 n)
def RwAt (w : World) (v : Value) (l : List (List UInt8)) : Prop := ∃ A c, v = .slice A l.length c ∧ ∀ i r, l[i]? = some r → ∃ b off u, A = some ⟨b, off, none⟩ ∧ w.cell? ⟨b, off + i, none⟩ = some u ∧ BtAt w u r ∧ CapOk u
/-- Messages among the arguments. -/
def MgsAt (w : World) (v : Value) (L : List Mm) : Prop := ∃ A c, v = .slice A L.length c ∧ ∀ (i : Nat) (x : Mm), L[i]? = some x → ∃ b off, A = some ⟨b, off, none⟩ ∧ w.rangeAt b (off + i * 6) x.cells.toList ∧ MgAt w x
theorem MgsAt.below {w w' : World} {v : Value} {L : List Mm} (h : MgsAt w v L) (hb : Below w.heap.size w w') : MgsAt w' v L := by
  obtain ⟨A, c, hv, hc⟩ := h
  refine ⟨A, c, hv, fun i x hx => ?_⟩
  obtain ⟨b, off, hA, h1, h2⟩ := hc i x hx
  exact ⟨b, off, hA, range_later hb h1, h2.below hb⟩
theorem bt_below {w w' : World} {v : Value} {l : List UInt8} (h : BtAt w v l) (hb : Below w.heap.size w w') : BtAt w' v l := h.bes (X := fun _ => False) (Bes.of_below hb) (fun _ _ z => z)
theorem RwAt.below {w w' : World} {v : Value} {l : List (List UInt8)} (h : RwAt w v l) (hb : Below w.heap.size w w') : RwAt w' v l := by
  obtain ⟨A, c, hv, hc⟩ := h
  refine ⟨A, c, hv, fun i r hr => ?_⟩
  obtain ⟨b, off, u, hA, h1, h2⟩ := hc i r hr
  exact ⟨b, off, u, hA, cell_later hb h1, bt_below h2.1 hb, h2.2⟩
theorem InAt.below {w w' : World} {v : Value} {l : List Int} (h : InAt w v l) (hb : Below w.heap.size w w') : InAt w' v l := by
  obtain ⟨A, c, hv, hc⟩ := h
  refine ⟨A, c, hv, fun i r hr => ?_⟩
  obtain ⟨b, off, hA, h1⟩ := hc i r hr
  exact ⟨b, off, hA, cell_later hb h1⟩
theorem sum_mem {α : Type} (f : α → Nat) : ∀ {l : List α} {a : α}, a ∈ l → f a ≤ (l.map f).sum
  | b :: r, a, h => by
    rw [List.map_cons, List.sum_cons]
    rcases List.mem_cons.1 h with rfl | h
    · omega
    · have := sum_mem f h; omega
theorem sum_one {α : Type} : ∀ (l : List α), (l.map fun _ => 1).sum = l.length
  | [] => rfl
  | _ :: r => by rw [List.map_cons, List.sum_cons, sum_one r, List.length_cons]; omega
theorem bulk_sum {H : Type} {α : Type} (sz : α → Nat) : ∀ (l : List α) (D : List (DataW H)), l.length = D.length → (∀ (i : Nat) (a : α), l[i]? = some a → ∃ d, D[i]? = some d ∧ sz a ≤ Rows.uptoBulk d) → (l.map sz).sum ≤ Rows.uptoBulkAll D
  | [], _, _, _ => Nat.zero_le _
  | a :: r, [], h, _ => by cases h
  | a :: r, d :: D, h, hp => by
    have h0 : sz a ≤ Rows.uptoBulk d := by
      obtain ⟨d', e, h⟩ := hp 0 a rfl
      cases e
      exact h
    have := bulk_sum sz r D (by simpa using h) (fun i a ha => by have := hp (i + 1) a (by simpa using ha); simpa using this)
    rw [List.map_cons, List.sum_cons]
    simp only [Rows.uptoBulkAll]
    omega
theorem rd_exists_rows {α : Type} {p : Nat → α → Prop} : ∀ (n : Nat), (∀ i, i < n → ∃ j, p i j) → ∃ l : List α, l.length = n ∧ ∀ i j, l[i]? = some j → p i j
  | 0, _ => ⟨[], rfl, fun i j h => by simp at h⟩
  | n + 1, h => by
    obtain ⟨l, hl, hp⟩ := rd_exists_rows n (fun i hi => h i (by omega))
    obtain ⟨j, hj⟩ := h n (by omega)
    refine ⟨l ++ [j], by simp [hl], fun i x hx => ?_⟩
    rcases Nat.lt_or_ge i n with hlt | hge
    · rw [List.getElem?_append_left (by omega)] at hx
      exact hp i x hx
    · have hi : i < (l ++ [j]).length := (List.getElem?_eq_some_iff.1 hx).1
      rw [List.length_append, hl, List.length_singleton] at hi
      obtain rfl : i = n := by omega
      rw [List.getElem?_append_right (by omega), hl, Nat.sub_self] at hx
      have : j = x := by simpa using hx
      exact this ▸ hj
section
variable {w : World}
theorem range_cells {a : Addr} {k n : Nat} {cs : List Value} (hs : a.spot = none) (h : w.cells? 0 (a.add k) n = some cs) : cs.length = n ∧ w.rangeAt a.block (a.off + k) cs := by
  obtain ⟨_, hl, hc⟩ := World.cells?_some h
  refine ⟨hl, fun j v hv => ?_⟩
  have hj : j < n := by rw [← hl]; exact (List.getElem?_eq_some_iff.1 hv).1
  have e : (a.add k).add j = ⟨a.block, a.off + k + j, none⟩ := by
    obtain ⟨b, o, s⟩ := a
    simp only at hs
    subst hs
    unfold Addr.add
    split <;> split <;> simp_all
  have := hc j hj
  rw [e, hv] at this
  exact this
theorem spot_none {a : Addr} {n : Nat} {cs : List Value} (hn : 0 < n) (h : w.cells? 0 a n = some cs) : a.spot = none := by
  obtain ⟨_, hl, hc⟩ := World.cells?_some h
  have h0 := hc 0 hn
  have hcs : ∃ v, cs[0]? = some v := ⟨cs[0]'(by omega), List.getElem?_eq_getElem (by omega)⟩
  obtain ⟨v, hv⟩ := hcs
  rw [hv] at h0
  unfold Addr.add at h0
  simp only [if_true] at h0
  unfold World.cell? at h0
  split at h0
  · split at h0
    · cases h0
    · rename_i hsp
      cases hs : a.spot with
      | none => rfl
      | some s => rw [hs] at hsp; simp at hsp
  · cases h0
end

section
variable {H : Type} {enc : TypeId × Value → H} {w : World} {sp : Nat → Bool} {hd : Bool}
def Sized (t : TypeId) (d : DataW H) : Prop := ∀ k ∈ d.weights Tryz.prog t, k ≤ reachBytes
theorem sized_part {fs : Array Field} {t : TypeId} {ds : List (DataW H)} (hu : Tryz.prog.underlying t = some (.struct fs)) (h : Sized t (.agg ds)) {j : Nat} {f : Field} {d : DataW H} (hf : fs[j]? = some f) (hd : ds[j]? = some d) : Sized f.type d := fun k hk => by
  refine h k ?_
  unfold DataW.weights
  rw [hu]
  exact DataW.weights_mem_each (by rw [List.getElem?_map, Array.getElem?_toList, hf]; rfl) hd k hk
theorem weights_all_mem {e : TypeId} : ∀ {l : List (DataW H)} {d : DataW H}, d ∈ l → ∀ n ∈ d.weights Tryz.prog e, n ∈ DataW.weightsAll Tryz.prog e l
  | d' :: r, d, hd, n, hn => by
    simp only [DataW.weightsAll, List.mem_append]
    rcases List.mem_cons.1 hd with rfl | h
    · exact Or.inl hn
    · exact Or.inr (weights_all_mem h n hn)
theorem slice_read {t e : TypeId} (ht : Tryz.prog.underlying t = some (.slice e)) (hc : 0 < Tryz.prog.cellsOf e) {fuel : Nat} {cs : List Value} {x : DataW H × List MemPlace} (h : DataW.trod enc Tryz.prog w 0 sp hd fuel t cs = some x) (hz : Sized t x.1) :
    ∃ (A : Option Addr) (len cap : Nat) (D : List (DataW H)), cs = [.slice A len cap] ∧ D.length = len ∧ len ≤ cap ∧ Rows.uptoBulkAll D + 1 ≤ Rows.uptoBulk x.1 ∧ len * Tryz.prog.bytesOf e ≤ reachBytes ∧
      ∀ i, i < len → ∃ n cs' y b off, fuel = n + 1 ∧ A = some ⟨b, off, none⟩ ∧ cs'.length = Tryz.prog.cellsOf e ∧ w.rangeAt b (off + i * Tryz.prog.cellsOf e) cs' ∧ DataW.trod enc Tryz.prog w 0 sp hd n e cs' = some y ∧ D[i]? = some y.1 ∧ Sized e y.1 := by
  rcases DataW.trod_slice ht h with ⟨rfl, rfl⟩ | ⟨a, len, cap, elems, rest, n, rfl, rfl, rfl, _, hlc, _, hlen, hel, _, _⟩
  · exact ⟨none, 0, 0, [], rfl, rfl, Nat.le_refl _, by simp [Rows.uptoBulk, Rows.uptoBulkAll], by simp, fun i hi => absurd hi (by omega)⟩
  refine ⟨some a, len, cap, elems.map (·.1), rfl, by rw [List.length_map]; omega, hlc, by simp only [Rows.uptoBulk]; omega, ?_, fun i hi => ?_⟩
  · have := hz ((elems.length + rest.length) * Tryz.prog.bytesOf e) (by unfold DataW.weights; rw [ht]; simp)
    refine Nat.le_trans (Nat.mul_le_mul_right _ ?_) this
    omega
  · have key : ∀ i, i < len → ∃ cs' y, w.cells? 0 (a.add (i * Tryz.prog.cellsOf e)) (Tryz.prog.cellsOf e) = some cs' ∧ DataW.trod enc Tryz.prog w 0 sp hd n e cs' = some y ∧ elems[i]? = some y := fun i hi => by
      have h1 := hel i hi
      have h2 : elems[i]? = some (elems[i]'(by omega)) := List.getElem?_eq_getElem (by omega)
      rw [h2] at h1
      obtain ⟨cs', h3, h4⟩ := Option.bind_eq_some_iff.1 h1
      exact ⟨cs', _, h3, h4, h2⟩
    obtain ⟨cs0, y0, k0, _, _⟩ := key 0 (by omega)
    have hs : a.spot = none := by
      have := spot_none hc k0
      rwa [Nat.zero_mul, show a.add 0 = a from by unfold Addr.add; simp] at this
    obtain ⟨cs', y, k1, k2, k3⟩ := key i hi
    obtain ⟨hl, hr⟩ := range_cells hs k1
    refine ⟨n, cs', y, a.block, a.off, rfl, ?_, hl, hr, k2, by rw [List.getElem?_map, k3]; rfl, fun k hk => ?_⟩
    · obtain ⟨b, o, s⟩ := a
      simp only at hs
      rw [hs]
    · refine hz k ?_
      unfold DataW.weights
      rw [ht]
      refine List.mem_cons_of_mem _ (List.mem_append.2 (Or.inl (weights_all_mem ?_ k hk)))
      exact List.mem_map.2 ⟨y, List.mem_of_getElem? k3, rfl⟩
theorem string_read {t : TypeId} (ht : Tryz.prog.underlying t = some .string) {fuel : Nat} {cs : List Value} {x : DataW H × List MemPlace} (h : DataW.trod enc Tryz.prog w 0 sp hd fuel t cs = some x) (hz : Sized t x.1) : ∃ s : ByteArray, cs = [.string s] ∧ s.size ≤ reach ∧ s.size + 1 ≤ Rows.uptoBulk x.1 := by
  obtain ⟨s, rfl, rfl, _⟩ := DataW.trod_string ht h
  have e0 : s.data.toList.length = s.size := by simp
  refine ⟨s, rfl, ?_, by simp only [Rows.uptoBulk]; omega⟩
  have := hz s.data.toList.length (by unfold DataW.weights; simp)
  unfold reachBytes at this
  have e : s.data.toList.length = s.size := by simp
  unfold reach
  omega
theorem int_read {t : TypeId} (ht : Tryz.prog.underlying t = some (.int .i64)) {fuel : Nat} {cs : List Value} {x : DataW H × List MemPlace} (h : DataW.trod enc Tryz.prog w 0 sp hd fuel t cs = some x) : ∃ n : Int, cs = [.int .i64 n] ∧ I64 n := by
  obtain ⟨n, rfl, rfl, hw⟩ := DataW.trod_int ht h
  refine ⟨n, rfl, ?_⟩
  unfold I64
  simp only [Lit.wf, Bool.and_eq_true, decide_eq_true_eq] at hw
  exact hw
theorem six {α : Type} : ∀ {l : List α}, l.length = 6 → ∃ a b c d e f, l = [a, b, c, d, e, f]
  | [a, b, c, d, e, f], _ => ⟨a, b, c, d, e, f, rfl⟩
theorem two {α : Type} : ∀ {l : List α}, l.length = 2 → ∃ a b, l = [a, b]
  | [a, b], _ => ⟨a, b, rfl⟩

theorem cellsS : Tryz.prog.cellsOf 9 = 1 := by kernel_rfl
theorem cellsI : Tryz.prog.cellsOf 3 = 1 := by kernel_rfl
theorem cellsU : Tryz.prog.cellsOf 5 = 1 := by kernel_rfl
theorem cellsHd : Tryz.prog.cellsOf 51 = 2 := by kernel_rfl
theorem cellsMg : Tryz.prog.cellsOf 25 = 6 := by kernel_rfl
theorem cellsHs : Tryz.prog.cellsOf 22 = 1 := by kernel_rfl
theorem cellsBs : Tryz.prog.cellsOf 23 = 1 := by kernel_rfl
theorem bytesHd : 1 ≤ Tryz.prog.bytesOf 51 := of_decide_eq_true (by kernel_rfl)
theorem bytesU : 1 ≤ Tryz.prog.bytesOf 5 := of_decide_eq_true (by kernel_rfl)
theorem cellsPm : Tryz.prog.cellsOf 54 = 2 := by kernel_rfl
theorem bytesPm : 1 ≤ Tryz.prog.bytesOf 54 := of_decide_eq_true (by kernel_rfl)
theorem header_read {fuel : Nat} {cs : List Value} {x : DataW H × List MemPlace} (h : DataW.trod enc Tryz.prog w 0 sp hd fuel 51 cs = some x) (hz : Sized 51 x.1) : ∃ a b : ByteArray, cs = [.string a, .string b] ∧ (a.size ≤ reach ∧ b.size ≤ reach) ∧ a.size + b.size + 3 ≤ Rows.uptoBulk x.1 := by
  obtain ⟨xs, m, rfl, rfl, hl, hlen, hp⟩ := DataW.trod_struct Tryz.underlying51 h
  rw [cellsHd] at hl
  obtain ⟨c0, c1, rfl⟩ := two hl
  obtain ⟨y0, y1, rfl⟩ := two (show xs.length = 2 from hlen)
  have hu := Tryz.underlying51
  have s0 := sized_part hu hz (j := 0) rfl rfl
  have p0 : DataW.trod enc Tryz.prog w 0 sp hd m 9 (List.take (Tryz.prog.cellsOf 9) (List.drop 0 [c0, c1])) = some y0 := hp 0 _ rfl
  rw [cellsS] at p0
  change DataW.trod enc Tryz.prog w 0 sp hd m 9 [c0] = some y0 at p0
  have s1 := sized_part hu hz (j := 1) rfl rfl
  have p1 : DataW.trod enc Tryz.prog w 0 sp hd m 9 (List.take (Tryz.prog.cellsOf 9) (List.drop 1 [c0, c1])) = some y1 := hp 1 _ rfl
  rw [cellsS] at p1
  change DataW.trod enc Tryz.prog w 0 sp hd m 9 [c1] = some y1 at p1
  obtain ⟨t0, e0, r0, b0⟩ := string_read Tryz.underlying9 p0 s0
  obtain ⟨t1, e1, r1, b1⟩ := string_read Tryz.underlying9 p1 s1
  cases e0
  cases e1
  exact ⟨t0, t1, rfl, ⟨r0, r1⟩, by simp only [Rows.uptoBulk, Rows.uptoBulkAll, List.map_cons, List.map_nil]; omega⟩
theorem headers_read {fuel : Nat} {cs : List Value} {x : DataW H × List MemPlace} (h : DataW.trod enc Tryz.prog w 0 sp hd fuel 22 cs = some x) (hz : Sized 22 x.1) :
    ∃ (v : Value) (L : List (ByteArray × ByteArray)), cs = [v] ∧ HdAt w v L ∧ L.length ≤ reachBytes ∧ (∀ p ∈ L, p.1.size ≤ reach ∧ p.2.size ≤ reach) ∧ hdSz L + 1 ≤ Rows.uptoBulk x.1 := by
  obtain ⟨A, n, c, D, rfl, hDl, hLC, hDb, hb, hel⟩ := slice_read Tryz.underlying22 (by rw [cellsHd]; decide) h hz
  obtain ⟨L, hL, hp⟩ := rd_exists_rows (p := fun i (x : ByteArray × ByteArray) => (∃ b off, A = some ⟨b, off, none⟩ ∧ w.cell? ⟨b, off + i * 2, none⟩ = some (.string x.1) ∧ w.cell? ⟨b, off + i * 2 + 1, none⟩ = some (.string x.2)) ∧ (x.1.size ≤ reach ∧ x.2.size ≤ reach) ∧ ∃ d, D[i]? = some d ∧ x.1.size + x.2.size + 3 ≤ Rows.uptoBulk d) n (fun i hi => by
    obtain ⟨m, cs', y, b, off, _, rfl, _, hr, hy, hyd, hyz⟩ := hel i hi
    obtain ⟨s, u, rfl, hs, hu⟩ := header_read hy hyz
    rw [cellsHd] at hr
    exact ⟨(s, u), ⟨b, off, rfl, by simpa using hr 0 _ rfl, by simpa using hr 1 _ rfl⟩, hs, _, hyd, hu⟩)
  subst hL
  have hbk := bulk_sum (fun p : ByteArray × ByteArray => p.1.size + p.2.size + 3) L D hDl.symm (fun i a ha => (hp i a ha).2.2)
  refine ⟨_, L, rfl, ⟨A, c, rfl, fun i p hi => (hp i p hi).1⟩, Nat.le_trans (by have := Nat.mul_le_mul_left L.length bytesHd; omega) hb, fun p hm => ?_, by unfold hdSz; omega⟩
  obtain ⟨i, hi⟩ := List.getElem?_of_mem hm
  exact (hp i p hi).2.1
theorem param_read {fuel : Nat} {cs : List Value} {x : DataW H × List MemPlace} (h : DataW.trod enc Tryz.prog w 0 sp hd fuel 54 cs = some x) (hz : Sized 54 x.1) : ∃ a b : ByteArray, cs = [.string a, .string b] ∧ (a.size ≤ reach ∧ b.size ≤ reach) ∧ a.size + b.size + 3 ≤ Rows.uptoBulk x.1 := by
  obtain ⟨xs, m, rfl, rfl, hl, hlen, hp⟩ := DataW.trod_struct Tryz.underlying54 h
  rw [cellsPm] at hl
  obtain ⟨c0, c1, rfl⟩ := two hl
  obtain ⟨y0, y1, rfl⟩ := two (show xs.length = 2 from hlen)
  have hu := Tryz.underlying54
  have s0 := sized_part hu hz (j := 0) rfl rfl
  have p0 : DataW.trod enc Tryz.prog w 0 sp hd m 9 (List.take (Tryz.prog.cellsOf 9) (List.drop 0 [c0, c1])) = some y0 := hp 0 _ rfl
  rw [cellsS] at p0
  change DataW.trod enc Tryz.prog w 0 sp hd m 9 [c0] = some y0 at p0
  have s1 := sized_part hu hz (j := 1) rfl rfl
  have p1 : DataW.trod enc Tryz.prog w 0 sp hd m 9 (List.take (Tryz.prog.cellsOf 9) (List.drop 1 [c0, c1])) = some y1 := hp 1 _ rfl
  rw [cellsS] at p1
  change DataW.trod enc Tryz.prog w 0 sp hd m 9 [c1] = some y1 at p1
  obtain ⟨t0, e0, r0, b0⟩ := string_read Tryz.underlying9 p0 s0
  obtain ⟨t1, e1, r1, b1⟩ := string_read Tryz.underlying9 p1 s1
  cases e0
  cases e1
  exact ⟨t0, t1, rfl, ⟨r0, r1⟩, by simp only [Rows.uptoBulk, Rows.uptoBulkAll, List.map_cons, List.map_nil]; omega⟩
theorem params_read {fuel : Nat} {cs : List Value} {x : DataW H × List MemPlace} (h : DataW.trod enc Tryz.prog w 0 sp hd fuel 49 cs = some x) (hz : Sized 49 x.1) :
    ∃ (v : Value) (L : List (ByteArray × ByteArray)), cs = [v] ∧ HdAt w v L ∧ L.length ≤ reachBytes ∧ (∀ p ∈ L, p.1.size ≤ reach ∧ p.2.size ≤ reach) ∧ hdSz L + 1 ≤ Rows.uptoBulk x.1 := by
  obtain ⟨A, n, c, D, rfl, hDl, hLC, hDb, hb, hel⟩ := slice_read Tryz.underlying49 (by rw [cellsPm]; decide) h hz
  obtain ⟨L, hL, hp⟩ := rd_exists_rows (p := fun i (x : ByteArray × ByteArray) => (∃ b off, A = some ⟨b, off, none⟩ ∧ w.cell? ⟨b, off + i * 2, none⟩ = some (.string x.1) ∧ w.cell? ⟨b, off + i * 2 + 1, none⟩ = some (.string x.2)) ∧ (x.1.size ≤ reach ∧ x.2.size ≤ reach) ∧ ∃ d, D[i]? = some d ∧ x.1.size + x.2.size + 3 ≤ Rows.uptoBulk d) n (fun i hi => by
    obtain ⟨m, cs', y, b, off, _, rfl, _, hr, hy, hyd, hyz⟩ := hel i hi
    obtain ⟨s, u, rfl, hs, hu⟩ := param_read hy hyz
    rw [cellsPm] at hr
    exact ⟨(s, u), ⟨b, off, rfl, by simpa using hr 0 _ rfl, by simpa using hr 1 _ rfl⟩, hs, _, hyd, hu⟩)
  subst hL
  have hbk := bulk_sum (fun p : ByteArray × ByteArray => p.1.size + p.2.size + 3) L D hDl.symm (fun i a ha => (hp i a ha).2.2)
  refine ⟨_, L, rfl, ⟨A, c, rfl, fun i p hi => (hp i p hi).1⟩, Nat.le_trans (by have := Nat.mul_le_mul_left L.length bytesPm; omega) hb, fun p hm => ?_, by unfold hdSz; omega⟩
  obtain ⟨i, hi⟩ := List.getElem?_of_mem hm
  exact (hp i p hi).2.1
theorem texts_read {fuel : Nat} {cs : List Value} {x : DataW H × List MemPlace} (h : DataW.trod enc Tryz.prog w 0 sp hd fuel 48 cs = some x) (hz : Sized 48 x.1) :
    ∃ (v : Value) (L : List ByteArray), cs = [v] ∧ TxAt w v L ∧ txSz L + 1 ≤ Rows.uptoBulk x.1 := by
  obtain ⟨A, n, c, D, rfl, hDl, hLC, hDb, hb, hel⟩ := slice_read Tryz.underlying48 (by rw [cellsS]; decide) h hz
  obtain ⟨L, hL, hp⟩ := rd_exists_rows (p := fun i (s : ByteArray) => (∃ b off, A = some ⟨b, off, none⟩ ∧ w.cell? ⟨b, off + i, none⟩ = some (.string s)) ∧ ∃ d, D[i]? = some d ∧ s.size + 1 ≤ Rows.uptoBulk d) n (fun i hi => by
    obtain ⟨m, cs', y, b, off, _, rfl, _, hr, hy, hyd, hyz⟩ := hel i hi
    obtain ⟨s, rfl, _, hu⟩ := string_read Tryz.underlying9 hy hyz
    rw [cellsS] at hr
    exact ⟨s, ⟨b, off, rfl, by simpa using hr 0 _ rfl⟩, _, hyd, hu⟩)
  subst hL
  have hbk := bulk_sum (fun s : ByteArray => s.size + 1) L D hDl.symm (fun i a ha => (hp i a ha).2)
  exact ⟨_, L, rfl, ⟨A, c, rfl, fun i p hi => (hp i p hi).1⟩, by unfold txSz; omega⟩
theorem bytes_read {fuel : Nat} {cs : List Value} {x : DataW H × List MemPlace} (h : DataW.trod enc Tryz.prog w 0 sp hd fuel 23 cs = some x) (hz : Sized 23 x.1) :
    ∃ (v : Value) (L : List UInt8), cs = [v] ∧ (BtAt w v L ∧ CapOk v) ∧ L.length ≤ reachBytes ∧ L.length + 1 ≤ Rows.uptoBulk x.1 := by
  obtain ⟨A, n, c, D, rfl, hDl, hLC, hDb, hb, hel⟩ := slice_read Tryz.underlying23 (by rw [cellsU]; decide) h hz
  obtain ⟨L, hL, hp⟩ := rd_exists_rows (p := fun i (u : UInt8) => (∃ b off, A = some ⟨b, off, none⟩ ∧ w.cell? ⟨b, off + i, none⟩ = some (.int .u8 (u.toNat : Int))) ∧ ∃ d, D[i]? = some d ∧ 1 ≤ Rows.uptoBulk d) n (fun i hi => by
    obtain ⟨m, cs', y, b, off, _, rfl, _, hr, hy, hyd, hyz⟩ := hel i hi
    obtain ⟨k, rfl, hx, hw⟩ := DataW.trod_int Tryz.underlying5 hy
    have hk : 0 ≤ k ∧ k ≤ 255 := by
      simp only [Lit.wf, Bool.and_eq_true, decide_eq_true_eq] at hw
      exact hw
    rw [cellsU] at hr
    refine ⟨UInt8.ofNat k.toNat, ⟨b, off, rfl, ?_⟩, _, hyd, by rw [hx]; simp [Rows.uptoBulk]⟩
    have h0 := hr 0 _ rfl
    rw [Nat.mul_one, Nat.add_zero] at h0
    rw [h0, UInt8.toNat_ofNat']
    have : ((k.toNat % 2 ^ 8 : Nat) : Int) = k := by omega
    rw [this])
  subst hL
  have hbk := bulk_sum (fun _ : UInt8 => 1) L D hDl.symm (fun i a ha => (hp i a ha).2)
  rw [sum_one] at hbk
  exact ⟨_, L, rfl, ⟨⟨A, c, rfl, fun i u hi => (hp i u hi).1⟩, A, _, c, rfl, hLC⟩, Nat.le_trans (by have := Nat.mul_le_mul_left L.length bytesU; omega) hb, by omega⟩
theorem ints_read {fuel : Nat} {cs : List Value} {x : DataW H × List MemPlace} (h : DataW.trod enc Tryz.prog w 0 sp hd fuel 36 cs = some x) (hz : Sized 36 x.1) :
    ∃ (v : Value) (L : List Int), cs = [v] ∧ InAt w v L ∧ (∀ n ∈ L, I64 n) ∧ L.length + 1 ≤ Rows.uptoBulk x.1 := by
  obtain ⟨A, n, c, D, rfl, hDl, hLC, hDb, hb, hel⟩ := slice_read Tryz.underlying36 (by rw [cellsI]; decide) h hz
  obtain ⟨L, hL, hp⟩ := rd_exists_rows (p := fun i (n : Int) => (∃ b off, A = some ⟨b, off, none⟩ ∧ w.cell? ⟨b, off + i, none⟩ = some (.int .i64 n)) ∧ I64 n ∧ ∃ d, D[i]? = some d ∧ 1 ≤ Rows.uptoBulk d) n (fun i hi => by
    obtain ⟨m, cs', y, b, off, _, rfl, _, hr, hy, hyd, hyz⟩ := hel i hi
    obtain ⟨k, e1, hw⟩ := int_read Tryz.underlying3 hy
    obtain ⟨_, _, hx, _⟩ := DataW.trod_int Tryz.underlying3 hy
    subst e1
    rw [cellsI] at hr
    exact ⟨k, ⟨b, off, rfl, by simpa using hr 0 _ rfl⟩, hw, _, hyd, by rw [hx]; simp [Rows.uptoBulk]⟩)
  subst hL
  have hbk := bulk_sum (fun _ : Int => 1) L D hDl.symm (fun i a ha => (hp i a ha).2.2)
  rw [sum_one] at hbk
  refine ⟨_, L, rfl, ⟨A, c, rfl, fun i u hi => (hp i u hi).1⟩, fun n hn => ?_, by omega⟩
  obtain ⟨i, hi⟩ := List.getElem?_of_mem hn
  exact (hp i n hi).2.1
set_option maxRecDepth 10000 in
theorem message_read {fuel : Nat} {cs : List Value} {x : DataW H × List MemPlace} (h : DataW.trod enc Tryz.prog w 0 sp hd fuel 25 cs = some x) (hz : Sized 25 x.1) : ∃ y : Mm, cs = y.cells.toList ∧ MgAt w y ∧ msSz y.m + 1 ≤ Rows.uptoBulk x.1 := by
  obtain ⟨xs, m, rfl, rfl, hl, hlen, hp⟩ := DataW.trod_struct Tryz.underlying25 h
  rw [cellsMg] at hl
  obtain ⟨c0, c1, c2, c3, c4, c5, rfl⟩ := six hl
  obtain ⟨y0, y1, y2, y3, y4, y5, rfl⟩ := six (show xs.length = 6 from hlen)
  have hu := Tryz.underlying25
  have s0 := sized_part hu hz (j := 0) rfl rfl
  have p0 : DataW.trod enc Tryz.prog w 0 sp hd m 9 (List.take (Tryz.prog.cellsOf 9) (List.drop 0 [c0, c1, c2, c3, c4, c5])) = some y0 := hp 0 _ rfl
  rw [cellsS] at p0
  change DataW.trod enc Tryz.prog w 0 sp hd m 9 [c0] = some y0 at p0
  have s1 := sized_part hu hz (j := 1) rfl rfl
  have p1 : DataW.trod enc Tryz.prog w 0 sp hd m 9 (List.take (Tryz.prog.cellsOf 9) (List.drop 1 [c0, c1, c2, c3, c4, c5])) = some y1 := hp 1 _ rfl
  rw [cellsS] at p1
  change DataW.trod enc Tryz.prog w 0 sp hd m 9 [c1] = some y1 at p1
  have p2 : DataW.trod enc Tryz.prog w 0 sp hd m 3 (List.take (Tryz.prog.cellsOf 3) (List.drop 2 [c0, c1, c2, c3, c4, c5])) = some y2 := hp 2 _ rfl
  rw [cellsI] at p2
  change DataW.trod enc Tryz.prog w 0 sp hd m 3 [c2] = some y2 at p2
  have s3 := sized_part hu hz (j := 3) rfl rfl
  have p3 : DataW.trod enc Tryz.prog w 0 sp hd m 9 (List.take (Tryz.prog.cellsOf 9) (List.drop 3 [c0, c1, c2, c3, c4, c5])) = some y3 := hp 3 _ rfl
  rw [cellsS] at p3
  change DataW.trod enc Tryz.prog w 0 sp hd m 9 [c3] = some y3 at p3
  have s4 := sized_part hu hz (j := 4) rfl rfl
  have p4 : DataW.trod enc Tryz.prog w 0 sp hd m 22 (List.take (Tryz.prog.cellsOf 22) (List.drop 4 [c0, c1, c2, c3, c4, c5])) = some y4 := hp 4 _ rfl
  rw [cellsHs] at p4
  change DataW.trod enc Tryz.prog w 0 sp hd m 22 [c4] = some y4 at p4
  have s5 := sized_part hu hz (j := 5) rfl rfl
  have p5 : DataW.trod enc Tryz.prog w 0 sp hd m 23 (List.take (Tryz.prog.cellsOf 23) (List.drop 5 [c0, c1, c2, c3, c4, c5])) = some y5 := hp 5 _ rfl
  rw [cellsBs] at p5
  change DataW.trod enc Tryz.prog w 0 sp hd m 23 [c5] = some y5 at p5
  obtain ⟨t0, e0, r0, q0⟩ := string_read Tryz.underlying9 p0 s0
  obtain ⟨t1, e1, r1, q1⟩ := string_read Tryz.underlying9 p1 s1
  obtain ⟨k2, e2, i2⟩ := int_read Tryz.underlying3 p2
  obtain ⟨t3, e3, r3, q3⟩ := string_read Tryz.underlying9 p3 s3
  obtain ⟨v4, L4, e4, h4, l4, z4, q4⟩ := headers_read p4 s4
  obtain ⟨v5, L5, e5, ⟨h5, _⟩, l5, q5⟩ := bytes_read p5 s5
  cases e0
  cases e1
  cases e2
  cases e3
  cases e4
  cases e5
  unfold reachBytes at l4 l5
  unfold reach at r0 r1 r3 z4
  unfold I64 at i2
  exact ⟨⟨⟨t0, t1, k2, t3, L4, L5⟩, c4, c5⟩, rfl, ⟨h4, h5, by (show L4.length ≤ _; omega), by (show L5.length ≤ _; omega), z4, ⟨r0, r1, r3⟩, by (show _ ≤ k2 ∧ k2 ≤ _; omega)⟩, by (unfold msSz; simp only [Rows.uptoBulk, Rows.uptoBulkAll, List.map_cons, List.map_nil]; omega)⟩
theorem messages_read {fuel : Nat} {cs : List Value} {x : DataW H × List MemPlace} (h : DataW.trod enc Tryz.prog w 0 sp hd fuel 39 cs = some x) (hz : Sized 39 x.1) :
    ∃ (v : Value) (L : List Mm), cs = [v] ∧ MgsAt w v L ∧ (L.map fun y => msSz y.m + 1).sum + 1 ≤ Rows.uptoBulk x.1 := by
  obtain ⟨A, n, c, D, rfl, hDl, hLC, hDb, hb, hel⟩ := slice_read Tryz.underlying39 (by rw [cellsMg]; decide) h hz
  obtain ⟨L, hL, hp⟩ := rd_exists_rows (p := fun i (y : Mm) => (∃ b off, A = some ⟨b, off, none⟩ ∧ w.rangeAt b (off + i * 6) y.cells.toList ∧ MgAt w y) ∧ ∃ d, D[i]? = some d ∧ msSz y.m + 1 ≤ Rows.uptoBulk d) n (fun i hi => by
    obtain ⟨m, cs', y, b, off, _, rfl, _, hr, hy, hyd, hyz⟩ := hel i hi
    obtain ⟨s, rfl, hs, hu⟩ := message_read hy hyz
    rw [cellsMg] at hr
    exact ⟨s, ⟨b, off, rfl, hr, hs⟩, _, hyd, hu⟩)
  subst hL
  have hbk := bulk_sum (fun y : Mm => msSz y.m + 1) L D hDl.symm (fun i a ha => (hp i a ha).2)
  exact ⟨_, L, rfl, ⟨A, c, rfl, fun i p hi => (hp i p hi).1⟩, by omega⟩
theorem rows_read {fuel : Nat} {cs : List Value} {x : DataW H × List MemPlace} (h : DataW.trod enc Tryz.prog w 0 sp hd fuel 61 cs = some x) (hz : Sized 61 x.1) :
    ∃ (v : Value) (L : List (List UInt8)), cs = [v] ∧ RwAt w v L ∧ (L.map fun r => r.length + 1).sum + 1 ≤ Rows.uptoBulk x.1 := by
  obtain ⟨A, n, c, D, rfl, hDl, hLC, hDb, hb, hel⟩ := slice_read Tryz.underlying61 (by rw [cellsBs]; decide) h hz
  obtain ⟨L, hL, hp⟩ := rd_exists_rows (p := fun i (r : List UInt8) => (∃ b off u, A = some ⟨b, off, none⟩ ∧ w.cell? ⟨b, off + i, none⟩ = some u ∧ BtAt w u r ∧ CapOk u) ∧ ∃ d, D[i]? = some d ∧ r.length + 1 ≤ Rows.uptoBulk d) n (fun i hi => by
    obtain ⟨m, cs', y, b, off, _, rfl, _, hr, hy, hyd, hyz⟩ := hel i hi
    obtain ⟨u, r, rfl, hs, _, hu⟩ := bytes_read hy hyz
    rw [cellsBs] at hr
    exact ⟨r, ⟨b, off, u, rfl, by simpa using hr 0 _ rfl, hs⟩, _, hyd, hu⟩)
  subst hL
  have hbk := bulk_sum (fun r : List UInt8 => r.length + 1) L D hDl.symm (fun i a ha => (hp i a ha).2)
  exact ⟨_, L, rfl, ⟨A, c, rfl, fun i p hi => (hp i p hi).1⟩, by omega⟩
end
section
variable {H : Type} {enc : TypeId × Value → H} {w : World}
def BtC (w : World) (v : Value) (l : List UInt8) : Prop := BtAt w v l ∧ CapOk v
set_option maxRecDepth 10000 in
theorem open_message {v : Value} {d : DataW H} {ps : List MemPlace} {b0 : Nat} (hval : Value.okWide Tryz.prog w .any b0 25 v) (h : DataW.Trod enc Tryz.prog w 0 (fun _ => true) true 25 v d ps) (hz : Sized 25 d) : ∃ y : Mm, v = .agg y.cells ∧ MgAt w y ∧ msSz y.m + 1 ≤ Rows.uptoBulk d := by
  obtain ⟨cs, rfl, _⟩ := WideShapes.okWide_struct Tryz.underlying25 hval
  obtain ⟨fuel, hf⟩ := h
  obtain ⟨y, he, hy⟩ := message_read hf hz
  refine ⟨y, ?_, hy⟩
  have : cs = y.cells := Array.ext' he
  rw [this]
set_option maxRecDepth 10000 in
theorem open_bytes {v : Value} {d : DataW H} {ps : List MemPlace} {b0 : Nat} (hval : Value.okWide Tryz.prog w .any b0 23 v) (h : DataW.Trod enc Tryz.prog w 0 (fun _ => true) true 23 v d ps) (hz : Sized 23 d) : ∃ L : List UInt8, BtC w v L ∧ L.length ≤ reachBytes ∧ L.length + 1 ≤ Rows.uptoBulk d := by
  obtain ⟨fuel, hf⟩ := h
  obtain ⟨u, L, he, hb, hl⟩ := bytes_read hf hz
  refine ⟨L, ?_, hl⟩
  obtain ⟨A, c, rfl, _⟩ := id hb.1
  cases v with
  | agg cs => simp [Value.okWide, Tryz.underlying23, Cell.okWide, Cell.ok] at hval
  | slice a b cc =>
    have : Value.slice a b cc = .slice A L.length c := by simpa [Value.cells] using he
    rw [this]
    exact hb
  | _ => simp [Value.cells] at he
set_option maxRecDepth 10000 in
theorem open_ints {v : Value} {d : DataW H} {ps : List MemPlace} {b0 : Nat} (hval : Value.okWide Tryz.prog w .any b0 36 v) (h : DataW.Trod enc Tryz.prog w 0 (fun _ => true) true 36 v d ps) (hz : Sized 36 d) : ∃ L : List Int, InAt w v L ∧ (∀ n ∈ L, I64 n) ∧ L.length + 1 ≤ Rows.uptoBulk d := by
  obtain ⟨fuel, hf⟩ := h
  obtain ⟨u, L, he, hb, hl⟩ := ints_read hf hz
  refine ⟨L, ?_, hl⟩
  obtain ⟨A, c, rfl, _⟩ := id hb
  cases v with
  | agg cs => simp [Value.okWide, Tryz.underlying36, Cell.okWide, Cell.ok] at hval
  | slice a b cc =>
    have : Value.slice a b cc = .slice A L.length c := by simpa [Value.cells] using he
    rw [this]
    exact hb
  | _ => simp [Value.cells] at he
set_option maxRecDepth 10000 in
theorem open_texts {v : Value} {d : DataW H} {ps : List MemPlace} {b0 : Nat} (hval : Value.okWide Tryz.prog w .any b0 48 v) (h : DataW.Trod enc Tryz.prog w 0 (fun _ => true) true 48 v d ps) (hz : Sized 48 d) : ∃ L : List ByteArray, TxAt w v L ∧ txSz L + 1 ≤ Rows.uptoBulk d := by
  obtain ⟨fuel, hf⟩ := h
  obtain ⟨u, L, he, hb, hl⟩ := texts_read hf hz
  refine ⟨L, ?_, hl⟩
  obtain ⟨A, c, rfl, _⟩ := id hb
  cases v with
  | agg cs => simp [Value.okWide, Tryz.underlying48, Cell.okWide, Cell.ok] at hval
  | slice a b cc =>
    have : Value.slice a b cc = .slice A L.length c := by simpa [Value.cells] using he
    rw [this]
    exact hb
  | _ => simp [Value.cells] at he
set_option maxRecDepth 10000 in
theorem open_params {v : Value} {d : DataW H} {ps : List MemPlace} {b0 : Nat} (hval : Value.okWide Tryz.prog w .any b0 49 v) (h : DataW.Trod enc Tryz.prog w 0 (fun _ => true) true 49 v d ps) (hz : Sized 49 d) : ∃ L : List (ByteArray × ByteArray), HdAt w v L ∧ L.length ≤ reachBytes ∧ (∀ p ∈ L, p.1.size ≤ reach ∧ p.2.size ≤ reach) ∧ hdSz L + 1 ≤ Rows.uptoBulk d := by
  obtain ⟨fuel, hf⟩ := h
  obtain ⟨u, L, he, hb, hl⟩ := params_read hf hz
  refine ⟨L, ?_, hl⟩
  obtain ⟨A, c, rfl, _⟩ := id hb
  cases v with
  | agg cs => simp [Value.okWide, Tryz.underlying49, Cell.okWide, Cell.ok] at hval
  | slice a b cc =>
    have : Value.slice a b cc = .slice A L.length c := by simpa [Value.cells] using he
    rw [this]
    exact hb
  | _ => simp [Value.cells] at he
set_option maxRecDepth 10000 in
theorem open_messages {v : Value} {d : DataW H} {ps : List MemPlace} {b0 : Nat} (hval : Value.okWide Tryz.prog w .any b0 39 v) (h : DataW.Trod enc Tryz.prog w 0 (fun _ => true) true 39 v d ps) (hz : Sized 39 d) : ∃ L : List Mm, MgsAt w v L ∧ (L.map fun y => msSz y.m + 1).sum + 1 ≤ Rows.uptoBulk d := by
  obtain ⟨fuel, hf⟩ := h
  obtain ⟨u, L, he, hb, hl⟩ := messages_read hf hz
  refine ⟨L, ?_, hl⟩
  obtain ⟨A, c, rfl, _⟩ := id hb
  cases v with
  | agg cs => simp [Value.okWide, Tryz.underlying39, Cell.okWide, Cell.ok] at hval
  | slice a b cc =>
    have : Value.slice a b cc = .slice A L.length c := by simpa [Value.cells] using he
    rw [this]
    exact hb
  | _ => simp [Value.cells] at he
set_option maxRecDepth 10000 in
theorem open_rows {v : Value} {d : DataW H} {ps : List MemPlace} {b0 : Nat} (hval : Value.okWide Tryz.prog w .any b0 61 v) (h : DataW.Trod enc Tryz.prog w 0 (fun _ => true) true 61 v d ps) (hz : Sized 61 d) : ∃ L : List (List UInt8), RwAt w v L ∧ (L.map fun r => r.length + 1).sum + 1 ≤ Rows.uptoBulk d := by
  obtain ⟨fuel, hf⟩ := h
  obtain ⟨u, L, he, hb, hl⟩ := rows_read hf hz
  refine ⟨L, ?_, hl⟩
  obtain ⟨A, c, rfl, _⟩ := id hb
  cases v with
  | agg cs => simp [Value.okWide, Tryz.underlying61, Cell.okWide, Cell.ok] at hval
  | slice a b cc =>
    have : Value.slice a b cc = .slice A L.length c := by simpa [Value.cells] using he
    rw [this]
    exact hb
  | _ => simp [Value.cells] at he
theorem laidT : laidOutB Tryz.prog = true := by kernel_rfl
/-- An argument reads behind the call as it read before: nothing below the old heap's end has changed. -/
theorem again {t : TypeId} (hr : Tryz.prog.readableRec t = true) (hrow : t < Tryz.prog.types.size) {W W' : World} {v : Value} {d : DataW H} {p before : List MemPlace} (h : DataW.Trod enc Tryz.prog W 0 (fun _ => true) true t v d p)
    (hb : Below W.heap.size W W') (hlt : ∀ q ∈ before, q.block < W.heap.size) (hin : ∀ q ∈ p, q ∈ before) {sp : Nat → Bool} (hs : ∀ q ∈ before, sp q.block = true) : DataW.Trod enc Tryz.prog W' 0 sp true t v d p :=
  WideElems.Trod_stays laidT hr hrow h (fun q hq => hb.same (hlt q (hin q hq))) (fun q hq => hs q (hin q hq))
end
end Go.Proofs.YtbehakabglegjaaGreatDoor
