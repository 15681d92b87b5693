/- The frame of a law's statement: a row's post, where the call only laid new blocks. From a row's reading of its arguments to what the walks take: values of JSON, with the bulk of the reading above their size. Layer 3: from what the rows list of the library's variables to what the walks ask of the world. -/
import Derived.OpenShut
import Derived.ShutString
import Derived.HandedShaped
import Derived.Test.YtnjhmnolngdfaaaGreatDoorRows
import Derived.ChangeArms
import Derived.WideKeyArgs
import Derived.Test.YtnjhmnolngdfaaaGreatDoorCards
import Derived.Test.YtnjhmnolngdfaaaGreatDoorTie
import Derived.PinnedBridge
import Derived.Lib.LaidU8T
import Derived.LaidHandle
import Derived.LaidLaws
import Derived.Lay
import Derived.SevenTiedAt
import Derived.Test.YtnjhmnolngdfaaaGreatDoorQ00
import Derived.Test.YtnjhmnolngdfaaaGreatDoorQ13
import Derived.Test.YtnjhmnolngdfaaaGreatDoorQ22
namespace Go.Proofs.YtnjhmnolngdfaaaGreatDoor
section
open Go.RowKit
variable {H : Type} {enc : TypeId × Value → H} {P : Program}

theorem post_of_below {f : Func} {s : ChangeSpec} {apart fresh handsOn : Bool} {W W' : World} {args : Array Value} {v : Value} {ds gs : List (DataW H)} {before pa pv : List MemPlace}
    (hW : DataW.Whole enc P f.params.toList s.vars apart W args.toList ds gs before)
    (hres : ∀ (b : Nat) (sp : Nat → Bool) (hd : Bool), DataW.TrodAll enc P W' b sp hd f.resultTypes.toList (v.resultList f.resultTypes.size) (s.fn H (ds ++ gs)).results [])
    (hargs : ∀ sp : Nat → Bool, (∀ p ∈ before, sp p.block = true) → DataW.TrodAll enc P W' 0 sp true f.params.toList args.toList (s.fn H (ds ++ gs)).args pa)
    (hvars : ∀ sp : Nat → Bool, (∀ p ∈ before, sp p.block = true) → DataW.TrodVars enc P W' sp s.vars (s.fn H (ds ++ gs)).vars pv)
    (hps : before = pa ++ pv) (hb : Below W.heap.size W W') : s.post enc P f apart fresh handsOn false W args v W' := by
  have hold : ∀ p ∈ before, (fun b => decide (b < W.heap.size)) p.block = true := fun p hp => by simpa using hW.lt p hp
  refine ⟨ds, gs, before, [], pa, pv, hW, hres _ _ _, hargs _ hold, hvars _ hold, World.keptBut_mono (fun p hp => ⟨hp, ?_⟩) (hb.frame (· ∈ before)), fun h => by cases h⟩
  rw [hps, List.mem_append] at hp
  exact Or.inr hp

theorem own : ownKnob Tryz.prog.godebug = none := by kernel_rfl
end
end Go.Proofs.YtnjhmnolngdfaaaGreatDoor
namespace Go.Proofs.YtnjhmnolngdfaaaGreatDoor
section
open Go.RowKit
set_option linter.unusedVariables false
set_option linter.unusedSimpArgs false
theorem bulkL {H : Type} : ∀ (l : List JV) (D : List (DataW H)), l.length = D.length → (∀ (i : Nat) (j : JV), l[i]? = some j → ∃ d, D[i]? = some d ∧ SzT (er j) ≤ Rows.uptoBulk d) → SzL (erL l) ≤ Rows.uptoBulkAll D
  | [], D, _, _ => by unfold erL SzL; exact Nat.zero_le _
  | x :: r, [], h, _ => by cases h
  | x :: r, d :: D, h, hp => by
    unfold erL SzL
    obtain ⟨d', h1, h2⟩ := hp 0 x rfl
    obtain rfl : d = d' := by simpa using h1
    have := bulkL r D (by simpa using h) (fun i j hj => by have := hp (i + 1) j (by simpa using hj); simpa using this)
    simp only [Rows.uptoBulkAll]
    omega
theorem bulkF {H : Type} : ∀ (l : List (ByteArray × JV)) (D : List (DataW H)), l.length = D.length → (∀ (i : Nat) (j : ByteArray × JV), l[i]? = some j → ∃ d, D[i]? = some d ∧ j.1.size + 1 + SzT (er j.2) ≤ Rows.uptoBulk d) → SzN (l.map (·.1)) + SzL (erL (l.map (·.2))) ≤ Rows.uptoBulkAll D
  | [], D, _, _ => by simp [erL, SzL, SzN]
  | x :: r, [], h, _ => by cases h
  | x :: r, d :: D, h, hp => by
    simp only [List.map_cons]
    unfold erL SzL SzN
    obtain ⟨d', h1, h2⟩ := hp 0 x rfl
    obtain rfl : d = d' := by simpa using h1
    have := bulkF r D (by simpa using h) (fun i j hj => by have := hp (i + 1) j (by simpa using hj); simpa using this)
    simp only [Rows.uptoBulkAll]
    omega

theorem rd_exists_rows {α : Type} {p : Nat → α → Prop} : ∀ (n : Nat), (∀ i, i < n → ∃ j, p i j) → ∃ l : List α, l.length = n ∧ ∀ i j, l[i]? = some j → p i j
  | 0, _ => ⟨[], rfl, fun i j h => by simp at h⟩
  | n + 1, h => by
    obtain ⟨l, hl, hp⟩ := rd_exists_rows n (fun i hi => h i (by omega))
    obtain ⟨j, hj⟩ := h n (by omega)
    refine ⟨l ++ [j], by simp [hl], fun i x hx => ?_⟩
    rcases Nat.lt_or_ge i n with hlt | hge
    · rw [List.getElem?_append_left (by omega)] at hx
      exact hp i x hx
    · have hi : i < (l ++ [j]).length := (List.getElem?_eq_some_iff.1 hx).1
      rw [List.length_append, hl, List.length_singleton] at hi
      obtain rfl : i = n := by omega
      rw [List.getElem?_append_right (by omega), hl, Nat.sub_self] at hx
      have : j = x := by simpa using hx
      exact this ▸ hj
section
variable {w : World}
theorem rd_isRow_of {A : Option Addr} {step shift : Nat} : ∀ (l : List JV) (k : Nat), (∀ i j, l[i]? = some j → (∃ b off, A = some ⟨b, off, none⟩ ∧ w.rangeAt b (off + (k + i) * step + shift) j.cells.toList) ∧ IsJV w j) → IsRow w A step shift k l
  | [], k, h => by unfold IsRow; exact True.intro
  | x :: r, k, h => by
    unfold IsRow
    have h0 := h 0 x rfl
    exact ⟨h0.1, h0.2, rd_isRow_of r (k + 1) (fun i j hj => by
      have := h (i + 1) j (by simpa using hj)
      rwa [show k + (i + 1) = k + 1 + i from by omega] at this)⟩
theorem rd_namesAt_of {A : Option Addr} {step : Nat} : ∀ (l : List ByteArray) (k : Nat), (∀ i n, l[i]? = some n → (∃ b off, A = some ⟨b, off, none⟩ ∧ w.cell? ⟨b, off + (k + i) * step, none⟩ = some (.string n)) ∧ n.size ≤ reach) → NamesAt w A step k l
  | [], k, h => by unfold NamesAt; exact True.intro
  | x :: r, k, h => by
    unfold NamesAt
    have h0 := h 0 x rfl
    exact ⟨h0.1, h0.2, rd_namesAt_of r (k + 1) (fun i j hj => by
      have := h (i + 1) j (by simpa using hj)
      rwa [show k + (i + 1) = k + 1 + i from by omega] at this)⟩
theorem range_cells {a : Addr} {k n : Nat} {cs : List Value} (hs : a.spot = none) (h : w.cells? 0 (a.add k) n = some cs) : cs.length = n ∧ w.rangeAt a.block (a.off + k) cs := by
  obtain ⟨_, hl, hc⟩ := World.cells?_some h
  refine ⟨hl, fun j v hv => ?_⟩
  have hj : j < n := by rw [← hl]; exact (List.getElem?_eq_some_iff.1 hv).1
  have e : (a.add k).add j = ⟨a.block, a.off + k + j, none⟩ := by
    obtain ⟨b, o, s⟩ := a
    simp only at hs
    subst hs
    unfold Addr.add
    split <;> split <;> simp_all
  have := hc j hj
  rw [e, hv] at this
  exact this
theorem spot_none {a : Addr} {n : Nat} {cs : List Value} (hn : 0 < n) (h : w.cells? 0 a n = some cs) : a.spot = none := by
  obtain ⟨_, hl, hc⟩ := World.cells?_some h
  have h0 := hc 0 hn
  have hcs : ∃ v, cs[0]? = some v := ⟨cs[0]'(by omega), List.getElem?_eq_getElem (by omega)⟩
  obtain ⟨v, hv⟩ := hcs
  rw [hv] at h0
  unfold Addr.add at h0
  simp only [if_true] at h0
  unfold World.cell? at h0
  split at h0
  · split at h0
    · cases h0
    · rename_i hsp
      cases hs : a.spot with
      | none => rfl
      | some s => rw [hs] at hsp; simp at hsp
  · cases h0
end

section
variable {H : Type} {enc : TypeId × Value → H} {w : World} {sp : Nat → Bool} {hd : Bool}
def Sized (t : TypeId) (d : DataW H) : Prop := ∀ k ∈ d.weights Tryz.prog t, k ≤ reachBytes
theorem sized_part {fs : Array Field} {t : TypeId} {ds : List (DataW H)} (hu : Tryz.prog.underlying t = some (.struct fs)) (h : Sized t (.agg ds)) {j : Nat} {f : Field} {d : DataW H} (hf : fs[j]? = some f) (hd : ds[j]? = some d) : Sized f.type d := fun k hk => by
  refine h k ?_
  unfold DataW.weights
  rw [hu]
  exact DataW.weights_mem_each (by rw [List.getElem?_map, Array.getElem?_toList, hf]; rfl) hd k hk
theorem weights_all_mem {e : TypeId} : ∀ {l : List (DataW H)} {d : DataW H}, d ∈ l → ∀ n ∈ d.weights Tryz.prog e, n ∈ DataW.weightsAll Tryz.prog e l
  | d' :: r, d, hd, n, hn => by
    simp only [DataW.weightsAll, List.mem_append]
    rcases List.mem_cons.1 hd with rfl | h
    · exact Or.inl hn
    · exact Or.inr (weights_all_mem h n hn)
theorem slice_read {t e : TypeId} (ht : Tryz.prog.underlying t = some (.slice e)) (hc : 0 < Tryz.prog.cellsOf e) {fuel : Nat} {cs : List Value} {x : DataW H × List MemPlace} (h : DataW.trod enc Tryz.prog w 0 sp hd fuel t cs = some x) (hz : Sized t x.1) :
    ∃ (A : Option Addr) (len cap : Nat) (D : List (DataW H)), cs = [.slice A len cap] ∧ D.length = len ∧ Rows.uptoBulkAll D + 1 ≤ Rows.uptoBulk x.1 ∧ len * Tryz.prog.bytesOf e ≤ reachBytes ∧
      ∀ i, i < len → ∃ n cs' y b off, fuel = n + 1 ∧ A = some ⟨b, off, none⟩ ∧ cs'.length = Tryz.prog.cellsOf e ∧ w.rangeAt b (off + i * Tryz.prog.cellsOf e) cs' ∧ DataW.trod enc Tryz.prog w 0 sp hd n e cs' = some y ∧ D[i]? = some y.1 ∧ Sized e y.1 := by
  rcases DataW.trod_slice ht h with ⟨rfl, rfl⟩ | ⟨a, len, cap, elems, rest, n, rfl, rfl, rfl, _, _, _, hlen, hel, _, _⟩
  · exact ⟨none, 0, 0, [], rfl, rfl, by simp [Rows.uptoBulk, Rows.uptoBulkAll], by simp, fun i hi => absurd hi (by omega)⟩
  refine ⟨some a, len, cap, elems.map (·.1), rfl, by rw [List.length_map]; omega, by simp only [Rows.uptoBulk]; omega, ?_, fun i hi => ?_⟩
  · have := hz ((elems.length + rest.length) * Tryz.prog.bytesOf e) (by unfold DataW.weights; rw [ht]; simp)
    refine Nat.le_trans (Nat.mul_le_mul_right _ ?_) this
    omega
  · have key : ∀ i, i < len → ∃ cs' y, w.cells? 0 (a.add (i * Tryz.prog.cellsOf e)) (Tryz.prog.cellsOf e) = some cs' ∧ DataW.trod enc Tryz.prog w 0 sp hd n e cs' = some y ∧ elems[i]? = some y := fun i hi => by
      have h1 := hel i hi
      have h2 : elems[i]? = some (elems[i]'(by omega)) := List.getElem?_eq_getElem (by omega)
      rw [h2] at h1
      obtain ⟨cs', h3, h4⟩ := Option.bind_eq_some_iff.1 h1
      exact ⟨cs', _, h3, h4, h2⟩
    obtain ⟨cs0, y0, k0, _, _⟩ := key 0 (by omega)
    have hs : a.spot = none := by
      have := spot_none hc k0
      rwa [Nat.zero_mul, show a.add 0 = a from by unfold Addr.add; simp] at this
    obtain ⟨cs', y, k1, k2, k3⟩ := key i hi
    obtain ⟨hl, hr⟩ := range_cells hs k1
    refine ⟨n, cs', y, a.block, a.off, rfl, ?_, hl, hr, k2, by rw [List.getElem?_map, k3]; rfl, fun k hk => ?_⟩
    · obtain ⟨b, o, s⟩ := a
      simp only at hs
      rw [hs]
    · refine hz k ?_
      unfold DataW.weights
      rw [ht]
      refine List.mem_cons_of_mem _ (List.mem_append.2 (Or.inl (weights_all_mem ?_ k hk)))
      exact List.mem_map.2 ⟨y, List.mem_of_getElem? k3, rfl⟩
theorem string_read {t : TypeId} (ht : Tryz.prog.underlying t = some .string) {fuel : Nat} {cs : List Value} {x : DataW H × List MemPlace} (h : DataW.trod enc Tryz.prog w 0 sp hd fuel t cs = some x) (hz : Sized t x.1) : ∃ s : ByteArray, cs = [.string s] ∧ s.size ≤ reach ∧ s.size + 1 ≤ Rows.uptoBulk x.1 := by
  obtain ⟨s, rfl, rfl, _⟩ := DataW.trod_string ht h
  have e0 : s.data.toList.length = s.size := by simp
  refine ⟨s, rfl, ?_, by simp only [Rows.uptoBulk]; omega⟩
  have := hz s.data.toList.length (by unfold DataW.weights; simp)
  unfold reachBytes at this
  have e : s.data.toList.length = s.size := by simp
  unfold reach
  omega
theorem int_read {t : TypeId} (ht : Tryz.prog.underlying t = some (.int .i64)) {fuel : Nat} {cs : List Value} {x : DataW H × List MemPlace} (h : DataW.trod enc Tryz.prog w 0 sp hd fuel t cs = some x) : ∃ n : Int, cs = [.int .i64 n] ∧ I64 n := by
  obtain ⟨n, rfl, rfl, hw⟩ := DataW.trod_int ht h
  refine ⟨n, rfl, ?_⟩
  unfold I64
  simp only [Lit.wf, Bool.and_eq_true, decide_eq_true_eq] at hw
  exact hw
theorem six {α : Type} : ∀ {l : List α}, l.length = 6 → ∃ a b c d e f, l = [a, b, c, d, e, f]
  | [a, b, c, d, e, f], _ => ⟨a, b, c, d, e, f, rfl⟩
theorem two {α : Type} : ∀ {l : List α}, l.length = 2 → ∃ a b, l = [a, b]
  | [a, b], _ => ⟨a, b, rfl⟩

theorem cells30 : Tryz.prog.cellsOf 25 = 6 := by kernel_rfl
theorem cells58 : Tryz.prog.cellsOf 52 = 7 := by kernel_rfl
theorem cells3 : Tryz.prog.cellsOf 3 = 1 := by kernel_rfl
theorem cells2 : Tryz.prog.cellsOf 2 = 1 := by kernel_rfl
theorem cells4 : Tryz.prog.cellsOf 4 = 1 := by kernel_rfl
theorem cells9 : Tryz.prog.cellsOf 9 = 1 := by kernel_rfl
theorem cells27 : Tryz.prog.cellsOf 22 = 1 := by kernel_rfl
theorem cells28 : Tryz.prog.cellsOf 23 = 1 := by kernel_rfl
theorem bytes30 : 80 ≤ Tryz.prog.bytesOf 25 := of_decide_eq_true (by kernel_rfl)
theorem bytes58 : 96 ≤ Tryz.prog.bytesOf 52 := of_decide_eq_true (by kernel_rfl)

theorem value_readB : ∀ (n fuel : Nat), fuel ≤ n → ∀ (cs : List Value) (x : DataW H × List MemPlace), DataW.trod enc Tryz.prog w 0 sp hd fuel 25 cs = some x → Sized 25 x.1 → ∃ j : JV, cs = j.cells.toList ∧ IsJV w j ∧ SzT (er j) ≤ Rows.uptoBulk x.1 := by
  intro n
  induction n with
  | zero =>
    intro fuel hf cs x h _
    obtain ⟨_, m, rfl, _⟩ := DataW.trod_struct Tryz.underlying25 h
    omega
  | succ n ih =>
    intro fuel hf cs x h hz
    obtain ⟨xs, m, rfl, rfl, hl, hlen, hp⟩ := DataW.trod_struct Tryz.underlying25 h
    rw [cells30] at hl
    obtain ⟨c0, c1, c2, c3, c4, c5, rfl⟩ := six hl
    obtain ⟨y0, y1, y2, y3, y4, y5, rfl⟩ := six (show xs.length = 6 from hlen)
    have hu := Tryz.underlying25
    have s2 := sized_part hu hz (j := 2) rfl rfl
    have s3 := sized_part hu hz (j := 3) rfl rfl
    have s4 := sized_part hu hz (j := 4) rfl rfl
    have s5 := sized_part hu hz (j := 5) rfl rfl
    have p0 : DataW.trod enc Tryz.prog w 0 sp hd m 3 (List.take (Tryz.prog.cellsOf 3) (List.drop 0 [c0, c1, c2, c3, c4, c5])) = some y0 := hp 0 _ rfl
    rw [cells3] at p0
    change DataW.trod enc Tryz.prog w 0 sp hd m 3 [c0] = some y0 at p0
    have p1 : DataW.trod enc Tryz.prog w 0 sp hd m 4 (List.take (Tryz.prog.cellsOf 4) (List.drop 1 [c0, c1, c2, c3, c4, c5])) = some y1 := hp 1 _ rfl
    rw [cells4] at p1
    change DataW.trod enc Tryz.prog w 0 sp hd m 4 [c1] = some y1 at p1
    have p2 : DataW.trod enc Tryz.prog w 0 sp hd m 2 (List.take (Tryz.prog.cellsOf 2) (List.drop 2 [c0, c1, c2, c3, c4, c5])) = some y2 := hp 2 _ rfl
    rw [cells2] at p2
    change DataW.trod enc Tryz.prog w 0 sp hd m 2 [c2] = some y2 at p2
    have p3 : DataW.trod enc Tryz.prog w 0 sp hd m 9 (List.take (Tryz.prog.cellsOf 9) (List.drop 3 [c0, c1, c2, c3, c4, c5])) = some y3 := hp 3 _ rfl
    rw [cells9] at p3
    change DataW.trod enc Tryz.prog w 0 sp hd m 9 [c3] = some y3 at p3
    have p4 : DataW.trod enc Tryz.prog w 0 sp hd m 22 (List.take (Tryz.prog.cellsOf 22) (List.drop 4 [c0, c1, c2, c3, c4, c5])) = some y4 := hp 4 _ rfl
    rw [cells27] at p4
    change DataW.trod enc Tryz.prog w 0 sp hd m 22 [c4] = some y4 at p4
    have p5 : DataW.trod enc Tryz.prog w 0 sp hd m 23 (List.take (Tryz.prog.cellsOf 23) (List.drop 5 [c0, c1, c2, c3, c4, c5])) = some y5 := hp 5 _ rfl
    rw [cells28] at p5
    change DataW.trod enc Tryz.prog w 0 sp hd m 23 [c5] = some y5 at p5
    obtain ⟨k0, e0, i0⟩ := int_read Tryz.underlying3 p0
    obtain ⟨b1, e1, _⟩ := DataW.trod_bool Tryz.underlying4 p1
    obtain ⟨k2, e2, i2⟩ := int_read Tryz.underlying2 p2
    obtain ⟨t3, e3, r3, z3⟩ := string_read Tryz.underlying9 p3 s3
    obtain ⟨LA, Ln, Lc, LD4, e4, hLD, hLz, hLb, hLe⟩ := slice_read Tryz.underlying22 (by rw [cells30]; decide) p4 s4
    obtain ⟨FA, Fn, Fc, LD5, e5, hFD, hFz, hFb, hFe⟩ := slice_read Tryz.underlying23 (by rw [cells58]; decide) p5 s5
    cases e0; cases e1; cases e2; cases e3; cases e4; cases e5
    obtain ⟨l, hll, hlp⟩ := rd_exists_rows (p := fun i (j : JV) => (∃ b off, LA = some ⟨b, off, none⟩ ∧ w.rangeAt b (off + i * 6) j.cells.toList) ∧ IsJV w j ∧ ∃ d, LD4[i]? = some d ∧ SzT (er j) ≤ Rows.uptoBulk d) Ln (fun i hi => by
      obtain ⟨q, cs', y, b, off, hq, rfl, _, hr, hy, hyd, hyz⟩ := hLe i hi
      obtain ⟨j, rfl, hj, hjz⟩ := ih q (by omega) cs' y hy hyz
      rw [cells30] at hr
      exact ⟨j, ⟨b, off, rfl, hr⟩, hj, _, hyd, hjz⟩)
    obtain ⟨fl, hfl, hfp⟩ := rd_exists_rows (p := fun i (f : ByteArray × JV) => ((∃ b off, FA = some ⟨b, off, none⟩ ∧ w.cell? ⟨b, off + i * 7, none⟩ = some (.string f.1)) ∧ f.1.size ≤ reach) ∧ (∃ b off, FA = some ⟨b, off, none⟩ ∧ w.rangeAt b (off + i * 7 + 1) f.2.cells.toList) ∧ IsJV w f.2 ∧ ∃ d, LD5[i]? = some d ∧ f.1.size + 1 + SzT (er f.2) ≤ Rows.uptoBulk d) Fn (fun i hi => by
      obtain ⟨q, cs', y, b, off, hq, rfl, hcl, hr, hy, hyd, hyz⟩ := hFe i hi
      obtain ⟨zs, r, rfl, rfl, hl2, hlen2, hp2⟩ := DataW.trod_struct Tryz.underlying52 hy
      obtain ⟨z0, z1, rfl⟩ := two (show zs.length = 2 from hlen2)
      have hu2 := Tryz.underlying52
      have u0 := sized_part hu2 hyz (j := 0) rfl rfl
      have u1 := sized_part hu2 hyz (j := 1) rfl rfl
      have g0 : DataW.trod enc Tryz.prog w 0 sp hd r 9 (List.take (Tryz.prog.cellsOf 9) (List.drop 0 cs')) = some z0 := hp2 0 _ rfl
      have g1 : DataW.trod enc Tryz.prog w 0 sp hd r 25 (List.take (Tryz.prog.cellsOf 25) (List.drop 1 cs')) = some z1 := hp2 1 _ rfl
      rw [cells9, List.drop_zero] at g0
      rw [cells30] at g1
      obtain ⟨s, es, hs, hsz⟩ := string_read Tryz.underlying9 g0 u0
      obtain ⟨j, ej, hj, hjz⟩ := ih r (by omega) _ _ g1 u1
      rw [cells58] at hr
      refine ⟨(s, j), ⟨⟨b, off, rfl, ?_⟩, hs⟩, ⟨b, off, rfl, ?_⟩, hj, _, hyd, by simp only [Rows.uptoBulk, Rows.uptoBulkAll, List.map_cons, List.map_nil]; omega⟩
      · have h0 : cs'[0]? = some (.string s) := by
          have := congrArg (fun l : List Value => l[0]?) es
          simpa using this
        simpa using hr 0 _ h0
      · intro k v hv
        rw [← ej, List.getElem?_take, List.getElem?_drop] at hv
        split at hv
        · have := hr (1 + k) v hv
          rwa [show off + i * 7 + (1 + k) = off + i * 7 + 1 + k from by omega] at this
        · cases hv)
    refine ⟨.mk ⟨k0, b1, k2, t3, LA, Ln, Lc, FA, Fn, Fc⟩ l (fl.map (·.1)) (fl.map (·.2)), rfl, ?_, ?_⟩
    rotate_left
    · have b1 := bulkL l LD4 (by omega) (fun i j h => (hlp i j h).2.2)
      have b2 := bulkF fl LD5 (by omega) (fun i j h => (hfp i j h).2.2.2)
      rw [er_mk, sz_mk]
      simp only [Rows.uptoBulk, Rows.uptoBulkAll, List.map_cons, List.map_nil]
      show 1 + t3.size + SzL (erL l) + SzN (fl.map (·.1)) + SzL (erL (fl.map (·.2))) ≤ _
      omega
    unfold IsJV
    have hb30 := bytes30
    have hb58 := bytes58
    refine ⟨⟨i0, i2, r3, hll.symm, by simpa using hfl.symm, by simp, ?_, ?_, ?_⟩, ?_, ?_⟩
    · have := Nat.mul_le_mul_left Ln hb30
      unfold reachBytes at hLb; unfold reach
      show Ln * 80 ≤ _
      omega
    · have := Nat.mul_le_mul_left Fn hb58
      unfold reachBytes at hFb; unfold reach
      show Fn * 96 ≤ _
      omega
    · refine rd_namesAt_of _ 0 fun i nm hi => ?_
      rw [List.getElem?_map] at hi
      obtain ⟨f, hf, rfl⟩ := Option.map_eq_some_iff.1 hi
      rw [Nat.zero_add]
      exact (hfp i f hf).1
    · refine rd_isRow_of _ 0 fun i j hi => ?_
      rw [Nat.zero_add]
      exact ⟨(hlp i j hi).1, (hlp i j hi).2.1⟩
    · refine rd_isRow_of _ 0 fun i j hi => ?_
      rw [List.getElem?_map] at hi
      obtain ⟨f, hf, rfl⟩ := Option.map_eq_some_iff.1 hi
      rw [Nat.zero_add]
      exact ⟨(hfp i f hf).2.1, (hfp i f hf).2.2.1⟩
end
section
variable {H : Type} {enc : TypeId × Value → H} {w : World}
set_option maxRecDepth 10000 in
theorem open_value {v : Value} {d : DataW H} {ps : List MemPlace} {b0 : Nat} (hval : Value.okWide Tryz.prog w .any b0 25 v) (h : DataW.Trod enc Tryz.prog w 0 (fun _ => true) true 25 v d ps) (hz : Sized 25 d) : ∃ j : JV, v = .agg j.cells ∧ IsJV w j ∧ SzT (er j) ≤ Rows.uptoBulk d := by
  obtain ⟨cs, rfl, _⟩ := WideShapes.okWide_struct Tryz.underlying25 hval
  obtain ⟨fuel, hf⟩ := h
  obtain ⟨j, he, hx, hz2⟩ := value_readB fuel fuel (Nat.le_refl _) _ _ hf hz
  refine ⟨j, ?_, hx, hz2⟩
  have : cs = j.cells := Array.ext' he
  rw [this]
theorem laidT : laidOutB Tryz.prog = true := by kernel_rfl
/-- An argument reads behind the call as it read before: nothing below the old heap's end has changed. -/
theorem again {t : TypeId} (hr : Tryz.prog.readableRec t = true) (hrow : t < Tryz.prog.types.size) {W W' : World} {v : Value} {d : DataW H} {p before : List MemPlace} (h : DataW.Trod enc Tryz.prog W 0 (fun _ => true) true t v d p)
    (hb : Below W.heap.size W W') (hlt : ∀ q ∈ before, q.block < W.heap.size) (hin : ∀ q ∈ p, q ∈ before) {sp : Nat → Bool} (hs : ∀ q ∈ before, sp q.block = true) : DataW.Trod enc Tryz.prog W' 0 sp true t v d p :=
  WideElems.Trod_stays laidT hr hrow h (fun q hq => hb.same (hlt q (hin q hq))) (fun q hq => hs q (hin q hq))
end
end
end Go.Proofs.YtnjhmnolngdfaaaGreatDoor
namespace Go.Proofs.YtnjhmnolngdfaaaGreatDoor
section
open Go.RowKit Go.Shelf Go.Lib
set_option linter.unusedVariables false
set_option linter.unusedSimpArgs false

theorem laid_both {P : Program} {l : List (String × DataW Unit)} {W : World} (h : laidMetH P l W) : laidMet P (l.filter fun x => x.2.handleName?.isNone) W ∧ handlesMet P (l.filter fun x => x.2.handleName?.isSome) W := by
  unfold laidMetH at h
  generalize hf : (l.filter fun x => x.2.handleName?.isSome) = fl at h
  cases fl with
  | nil =>
    have e : (l.filter fun x => x.2.handleName?.isNone) = l := by
      rw [List.filter_eq_self]
      intro x hx
      cases hn : x.2.handleName? with
      | none => rfl
      | some y =>
        have := List.filter_eq_nil_iff.1 hf x hx
        rw [hn] at this
        simp at this
    rw [e]
    exact ⟨h, fun x hx => by cases hx⟩
  | cons a r => exact h
theorem mem_none {l : List (String × DataW Unit)} {n : String} {d : DataW Unit} (hm : (n, d) ∈ l) (hd : d.handleName?.isNone = true) : (n, d) ∈ l.filter fun x => x.2.handleName?.isNone := List.mem_filter.2 ⟨hm, hd⟩
abbrev renU8 : Ren := ⟨fun x => x, fun k => if k = 5 then 5 else if k = 119 then 152 else if k = 138 then 154 else 155, fun k => if k = 3 then 1 else 2⟩
theorem typesU8 : U8Types Tryz.prog renU8 := ⟨Tryz.underlying5, Tryz.underlying152, Tryz.underlying154, Tryz.underlying155⟩
theorem extraU8 : U8Extra Tryz.prog renU8 := ⟨by kernel_rfl, by kernel_rfl, by kernel_rfl, by kernel_rfl, by kernel_rfl, by kernel_rfl, by kernel_rfl⟩
theorem accept_is : (Rows.laid_unicode_utf8_acceptRanges : DataW Unit) = acceptData := by kernel_rfl
theorem err_at {W : World} {n nm : String} {g : Nat} {d : DataW Unit} (hg : Tryz.prog.globalNamed n = some g) (ht : (Tryz.prog.globals[g]?).map (·.type) = some 28) (h : VarReads Tryz.prog W n (.iface nm d)) : ErrAt W g := by
  obtain ⟨g', t, cs, fuel, p, h1, h2, h3, h4⟩ := h
  obtain rfl := Option.some.inj (hg.symm.trans h1)
  obtain rfl := Option.some.inj (ht.symm.trans h2)
  obtain ⟨f1, u, v, e, _⟩ := iface_of_trod Tryz.underlying28 h4
  refine ⟨.iface u v, ?_, .inr ⟨u, v, rfl⟩⟩
  rw [World.var?_cell h1 h3 0, ← Array.getElem?_toList, e]
  rfl
abbrev LL : List (String × DataW Unit) := [("math/bits.deBruijn32tab", Rows.laid_math_bits_deBruijn32tab), ("math/bits.deBruijn64tab", Rows.laid_math_bits_deBruijn64tab), ("internal/strconv.uint64pow10", Rows.laid_internal_strconv_uint64pow10), ("unicode/utf8.acceptRanges", Rows.laid_unicode_utf8_acceptRanges), ("strconv.ErrRange", Rows.laid_strconv_ErrRange), ("strconv.ErrSyntax", Rows.laid_strconv_ErrSyntax), ("unicode/utf8.first", Rows.laid_unicode_utf8_first)]
theorem wo_of {W : World} (h : laidMetH Tryz.prog LL W) : Gl W W.heap.size := by
  obtain ⟨h1, h2⟩ := laid_both h
  have r1 := laidMet.reads h1 (mem_none (show ("unicode/utf8.first", Rows.laid_unicode_utf8_first) ∈ LL by simp [LL]) (by kernel_rfl))
  have r2 := laidMet.reads h1 (mem_none (show ("unicode/utf8.acceptRanges", Rows.laid_unicode_utf8_acceptRanges) ∈ LL by simp [LL]) (by kernel_rfl))
  have r3 := laidMet.reads h1 (mem_none (show ("strconv.ErrSyntax", Rows.laid_strconv_ErrSyntax) ∈ LL by simp [LL]) (by kernel_rfl))
  have r4 := laidMet.reads h1 (mem_none (show ("strconv.ErrRange", Rows.laid_strconv_ErrRange) ∈ LL by simp [LL]) (by kernel_rfl))
  have hT : Lib.Utf8Tabs 1 2 W := utf8Tabs_of_readsT typesU8 extraU8 (Pinned.utf8First_eq ▸ r1) (accept_is ▸ r2)
  have E1 : ErrAt W 4 := err_at (by kernel_rfl) (by kernel_rfl) r3
  have E2 : ErrAt W 5 := err_at (by kernel_rfl) (by kernel_rfl) r4
  have lt : ∀ {g k : Nat} {v : Value}, W.cell? ⟨g, k, none⟩ = some v → g < W.heap.size := fun hc => World.block_lt_of_cell? W _ hc
  obtain ⟨v3, c3, _⟩ := id E1
  obtain ⟨v4, c4, _⟩ := id E2
  exact ⟨E1, E2, hT, lt c3, lt c4, lt (hT.1 0 (by decide)), lt (hT.2 0 (by decide)).1⟩
theorem tab_is : (Rows.laid_internal_strconv_uint64pow10 : DataW Unit) = Lib.tabData .u64 Lib.pow10Tab := by kernel_rfl
/-- What the table of math/bits holds. -/
def bitTab : List Int := [0, 1, 56, 2, 57, 49, 28, 3, 61, 58, 42, 50, 38, 29, 17, 4, 62, 47, 59, 36, 45, 43, 51, 22, 53, 39, 33, 30, 24, 18, 12, 5, 63, 55, 48, 27, 60, 41, 37, 16, 46, 35, 44, 21, 52, 32, 23, 11, 54, 26, 40, 15, 34, 20, 31, 10, 25, 14, 19, 9, 13, 8, 7, 6]
theorem bit_is : (Rows.laid_math_bits_deBruijn64tab : DataW Unit) = Lib.tabData .u8 bitTab := by kernel_rfl
/-- The world's condition out of the rows' list. -/
theorem wc_of {W : World} (h : laidMetH Tryz.prog LL W) : Wc W := by
  obtain ⟨h1, _⟩ := laid_both h
  have r := laidMet.reads h1 (mem_none (show ("internal/strconv.uint64pow10", Rows.laid_internal_strconv_uint64pow10) ∈ LL by simp [LL]) (by kernel_rfl))
  obtain ⟨g', t', cs, fuel, p, hg', ht', hvar, hd⟩ := r
  obtain rfl := Option.some.inj ((show Tryz.prog.globalNamed "internal/strconv.uint64pow10" = some 3 by kernel_rfl).symm.trans hg')
  obtain rfl := Option.some.inj ((show (Tryz.prog.globals[3]?).map (·.type) = some 166 by kernel_rfl).symm.trans ht')
  rw [tab_is] at hd
  have hc := Lib.cells_of_tab (n := 20) Tryz.underlying166 Tryz.underlying119 (by kernel_rfl) (by kernel_rfl) hd
  have hW : Tab10 W := by
    show W.var? Tryz.prog "internal/strconv.uint64pow10" = _
    rw [hvar, ← hc]
  have r2 := laidMet.reads h1 (mem_none (show ("math/bits.deBruijn64tab", Rows.laid_math_bits_deBruijn64tab) ∈ LL by simp [LL]) (by kernel_rfl))
  obtain ⟨g', t', cs2, fuel2, p2, hg', ht', hvar2, hd2⟩ := r2
  obtain rfl := Option.some.inj ((show Tryz.prog.globalNamed "math/bits.deBruijn64tab" = some 7 by kernel_rfl).symm.trans hg')
  obtain rfl := Option.some.inj ((show (Tryz.prog.globals[7]?).map (·.type) = some 185 by kernel_rfl).symm.trans ht')
  rw [bit_is] at hd2
  have hc2 := Lib.cells_of_tab (n := 64) Tryz.underlying185 Tryz.underlying5 (by kernel_rfl) (by kernel_rfl) hd2
  have hW2 : Lib.TabIs Tryz.prog W "math/bits.deBruijn64tab" .u8 bitTab := by
    show W.var? Tryz.prog "math/bits.deBruijn64tab" = _
    rw [hvar2, ← hc2]
  have c0 := Lib.TabIs.cell hW (g := 3) (by kernel_rfl) 0 (by decide)
  have hlt := World.block_lt_of_cell? W _ c0
  have d0 := Lib.TabIs.cell hW2 (g := 7) (by kernel_rfl) 15 (by decide)
  have dlt : 7 < W.heap.size := World.block_lt_of_cell? W _ d0
  refine ⟨wo_of h, fun W' hb => ⟨?_, ?_⟩, dlt⟩
  · show W'.var? Tryz.prog "internal/strconv.uint64pow10" = _
    rw [← show W.var? Tryz.prog "internal/strconv.uint64pow10" = _ from hW]
    have hb2 := hb.block 3 hlt
    unfold World.var?
    rw [show Tryz.prog.globalNamed "internal/strconv.uint64pow10" = some 3 by kernel_rfl]
    simp [hb2]
  · exact cell_below hb d0
/-- A world in which the listed variables lie as the rows say (the witness). -/
noncomputable def laidW (os : Os) : World := (World.holding Tryz.prog os ⟨#[], #[], []⟩).layVars Tryz.prog LL
theorem laidW_os (os : Os) : (laidW os).os = os := World.layVars_os _ _ _
theorem laidW_shaped (os : Os) : (laidW os).Shaped Tryz.prog := World.shaped_of_ZipB (by kernel_rfl) (by kernel_rfl)
theorem ll_is : (LL.filter fun x => x.2.handleName?.isNone) = LL := by kernel_rfl
theorem laid_data (os : Os) : laidMet Tryz.prog LL (laidW os) := by
  have e1 : (LL.filter fun x => (LL.map (·.1)).contains x.1) = LL := List.filter_eq_self.2 fun x hx => List.contains_iff_mem.2 (List.mem_map.2 ⟨x, hx, rfl⟩)
  have e2 : (LL.filter fun x => !(LL.map (·.1)).contains x.1) = [] := List.filter_eq_nil_iff.2 fun x hx => by rw [List.contains_iff_mem.2 (List.mem_map.2 ⟨x, hx, rfl⟩)]; simp
  exact laidMet_layVars (w0 := World.holding Tryz.prog os ⟨#[], #[], []⟩) (LL.map (·.1)) [] (by rw [e1]; rfl) (by rw [e1]; kernel_rfl) (by rw [e1]; kernel_rfl) (by rw [e2]; exact LaidIn.none)
theorem laid_met (os : Os) (args : Array Value) : laidMetH Tryz.prog LL ((laidW os).forCall (fun _ _ => 0) ⟨#[], args, []⟩).memory := by
  refine laidMetH_of_parts (l := LL) ?_ (by kernel_rfl)
  rw [ll_is]
  exact (laid_data os).of_heap (by simp [World.memory, World.forCall, Input.heap])
end
end Go.Proofs.YtnjhmnolngdfaaaGreatDoor
