/- Layer 16: the seven names of levels that stand alone; a number beyond a level. -/
import Derived.Test.YtpmdpfgaafaceaaAuthD
namespace Go.Proofs.Ytpmdpfgaafaceaa
open Go.RowKit
set_option linter.unusedVariables false
set_option linter.unusedSimpArgs false

/-- A call's one result: a slice that reads as the texts L. -/
def GivesNames (e : Ending) (L : List ByteArray) (w w' : World) : Prop := ∃ A c, e = .returned (.slice A L.length c) ∧ NamesAt w' A 1 0 L ∧ Below w.heap.size w w'
def sevenL : List ByteArray := [⟨#[98, 97, 110]⟩, ⟨#[107, 105, 99, 107]⟩, ⟨#[114, 101, 100, 97, 99, 116]⟩, ⟨#[105, 110, 118, 105, 116, 101]⟩, ⟨#[117, 115, 101, 114, 115, 95, 100, 101, 102, 97, 117, 108, 116]⟩, ⟨#[101, 118, 101, 110, 116, 115, 95, 100, 101, 102, 97, 117, 108, 116]⟩, ⟨#[115, 116, 97, 116, 101, 95, 100, 101, 102, 97, 117, 108, 116]⟩]
theorem names_of_box {w : World} {g : Nat} {t : TypeId} {arr : Array Value} (h : IBox w g t arr) : ∀ (L : List ByteArray) (k : Nat), (∀ j n, L[j]? = some n → arr[k + j]? = some (.string n)) → (∀ n ∈ L, n.size ≤ reach) → NamesAt w (some ⟨g, 0, none⟩) 1 k L
  | [], _, _, _ => by unfold NamesAt; exact True.intro
  | n :: r, k, hc, hs => by
    unfold NamesAt
    refine ⟨⟨g, 0, rfl, ?_⟩, hs n (by simp), names_of_box h r (k + 1) (fun j m hm => ?_) (fun m hm => hs m (by simp [hm]))⟩
    · rw [Nat.zero_add, Nat.mul_one, h.cell]
      simpa using hc 0 n rfl
    · have := hc (j + 1) m (by simpa using hm)
      rw [show k + 1 + j = k + (j + 1) from by omega]
      exact this
theorem seven_small : ∀ n ∈ sevenL, n.size ≤ reach := by
  intro n hn
  unfold sevenL at hn
  simp only [List.mem_cons, List.not_mem_nil, or_false] at hn
  rcases hn with rfl | rfl | rfl | rfl | rfl | rfl | rfl <;> decide
theorem seven_cells : ∀ j n, sevenL[j]? = some n → (#[.string ⟨#[98, 97, 110]⟩, .string ⟨#[107, 105, 99, 107]⟩, .string ⟨#[114, 101, 100, 97, 99, 116]⟩, .string ⟨#[105, 110, 118, 105, 116, 101]⟩, .string ⟨#[117, 115, 101, 114, 115, 95, 100, 101, 102, 97, 117, 108, 116]⟩, .string ⟨#[101, 118, 101, 110, 116, 115, 95, 100, 101, 102, 97, 117, 108, 116]⟩, .string ⟨#[115, 116, 97, 116, 101, 95, 100, 101, 102, 97, 117, 108, 116]⟩] : Array Value)[0 + j]? = some (.string n) := by
  intro j n h
  rw [Nat.zero_add]
  have hj : j < 7 := (List.getElem?_eq_some_iff.1 h).1
  match j, hj with
  | 0, _ | 1, _ | 2, _ | 3, _ | 4, _ | 5, _ | 6, _ => (simp only [sevenL, List.getElem?_cons_zero, List.getElem?_cons_succ, Option.some.injEq] at h; subst h; rfl)

theorem seven_any (w : World) : Calls Try.prog 70 #[] w fun e w' => GivesNames e sevenL w w' := by
  go_enter Try.func70, Try.ntmps70
  go_wp2
  go_ret
  exact ⟨_, _, rfl, names_of_box (IBox.new _ _ _) sevenL 0 seven_cells seven_small, (Below.refl _ _).alloc (Nat.le_refl _) _⟩

theorem rseven_any (w : World) : Calls Try.prog 56 #[] w fun e w' => GivesNames e sevenL w w' := by
  go_enter Try.func56, Try.ntmps56
  go_wp2
  go_ret
  exact ⟨_, _, rfl, names_of_box (IBox.new _ _ _) sevenL 0 seven_cells seven_small, (Below.refl _ _).alloc (Nat.le_refl _) _⟩

def beyondB (old young : JV) (name : ByteArray) (level : Int) : Bool :=
  ((numP old name != numP young name) || (numT old name != numT young name)) && ((numP old name && decide (level < numT old name)) || (numP young name && decide (level < numT young name)))

set_option maxRecDepth 100000 in
set_option maxHeartbeats 4000000 in
theorem beyond_any (old young : JV) (name : ByteArray) (level : Int) (w : World) (HO : IsJV w old) (HY : IsJV w young) :
    Calls Try.prog 72 #[.agg old.cells, .agg young.cells, .string name, .int .i64 level] w fun e w' => e = .returned (.bool (beyondB old young name level)) ∧ Below w.heap.size w w' := by
  have HB := Below.refl w.heap.size w
  have hfin : beyondB old young name level = (((numP old name != numP young name) || (numT old name != numT young name)) && ((numP old name && decide (level < numT old name)) || (numP young name && decide (level < numT young name)))) := rfl
  have C1 : ∀ w, IsJV w old → Calls Try.prog 36 #[.agg old.cells, .string name] w fun e w' => e = .returned (.tuple #[.int .i64 (numT old name), .bool (numP old name)]) ∧ Below w.heap.size w w' := fun w h => anum_any old name w h
  have C2 : ∀ w, IsJV w young → Calls Try.prog 36 #[.agg young.cells, .string name] w fun e w' => e = .returned (.tuple #[.int .i64 (numT young name), .bool (numP young name)]) ∧ Below w.heap.size w w' := fun w h => anum_any young name w h
  generalize numP old name = p at hfin C1
  generalize numT old name = a at hfin C1
  generalize numP young name = q at hfin C2
  generalize numT young name = b at hfin C2
  generalize beyondB old young name level = r at hfin ⊢
  by_cases h1 : a = b <;> by_cases h2 : level < a <;> by_cases h3 : level < b <;> cases p <;> cases q
  all_goals
    have HR := Lib.hid hfin
    have HC1 := Lib.hid C1
    have HC2 := Lib.hid C2
    have H1 := Lib.hid h1
    have e2 : (a != b) = !(a == b) := rfl
    first
      | (have e1 : (a == b) = true := beq_iff_eq.2 h1
         rw [e1] at e2)
      | (have e1 : (a == b) = false := beq_eq_false_iff_ne.2 h1
         rw [e1] at e2)
    clear hfin C1 C2 h1
    go_enter Try.func72, Try.ntmps72
    go_wp2_with (first
    | (refine wpl_box_at rfl 30 (.tmp 0) rfl _ rfl ?_; intro w1 hw; have hb := hid_grow hw; have B4 := (hid_alloc hw).1; replace HB := HB.trans (hb.mono HB.size); (try replace HO := HO.below hb); (try replace HY := HY.below hb); (try replace B5 := IBox.below B5 hb (IBox.lt B5)); clear hb hw)
    | (refine wpl_box_at rfl 30 (.tmp 1) rfl _ rfl ?_; intro w1 hw; have hb := hid_grow hw; have B5 := (hid_alloc hw).1; replace HB := HB.trans (hb.mono HB.size); (try replace HO := HO.below hb); (try replace HY := HY.below hb); (try replace B4 := IBox.below B4 hb (IBox.lt B4)); clear hb hw)
    | (refine wpl_load_box rfl 30 (.tmp 4) rfl _ rfl _ _ _ B4 Try.underlying30 rfl info_value ?_)
    | (go_at_call 36; (with_reducible refine (HC1.out _ HO).mono ?_); rintro e w1 ⟨rfl, hb⟩; replace HB := HB.trans (hb.mono HB.size); (try replace HO := HO.below hb); (try replace HY := HY.below hb); (try replace B4 := IBox.below B4 hb (IBox.lt B4)); (try replace B5 := IBox.below B5 hb (IBox.lt B5)); clear hb)
    | (refine wpl_load_box rfl 30 (.tmp 5) rfl _ rfl _ _ _ B5 Try.underlying30 rfl info_value ?_)
    | (go_at_call 36; (with_reducible refine (HC2.out _ HY).mono ?_); rintro e w1 ⟨rfl, hb⟩; replace HB := HB.trans (hb.mono HB.size); (try replace HO := HO.below hb); (try replace HY := HY.below hb); (try replace B4 := IBox.below B4 hb (IBox.lt B4)); (try replace B5 := IBox.below B5 hb (IBox.lt B5)); clear hb))
    go_ret
    exact ⟨ret_bool (by rw [HR.out]; simp_all), HB⟩

set_option maxRecDepth 100000 in
set_option maxHeartbeats 4000000 in
theorem rbeyond_any (old young : JV) (name : ByteArray) (level : Int) (w : World) (HO : IsJV w old) (HY : IsJV w young) :
    Calls Try.prog 58 #[.agg old.cells, .agg young.cells, .string name, .int .i64 level] w fun e w' => e = .returned (.bool (beyondB old young name level)) ∧ Below w.heap.size w w' := by
  have HB := Below.refl w.heap.size w
  have hfin : beyondB old young name level = (((numP old name != numP young name) || (numT old name != numT young name)) && ((numP old name && decide (level < numT old name)) || (numP young name && decide (level < numT young name)))) := rfl
  have C1 : ∀ w, IsJV w old → Calls Try.prog 19 #[.agg old.cells, .string name] w fun e w' => e = .returned (.tuple #[.int .i64 (numT old name), .bool (numP old name)]) ∧ Below w.heap.size w w' := fun w h => rnum_any old name w h
  have C2 : ∀ w, IsJV w young → Calls Try.prog 19 #[.agg young.cells, .string name] w fun e w' => e = .returned (.tuple #[.int .i64 (numT young name), .bool (numP young name)]) ∧ Below w.heap.size w w' := fun w h => rnum_any young name w h
  generalize numP old name = p at hfin C1
  generalize numT old name = a at hfin C1
  generalize numP young name = q at hfin C2
  generalize numT young name = b at hfin C2
  generalize beyondB old young name level = r at hfin ⊢
  by_cases h1 : a = b <;> by_cases h2 : level < a <;> by_cases h3 : level < b <;> cases p <;> cases q
  all_goals
    have HR := Lib.hid hfin
    have HC1 := Lib.hid C1
    have HC2 := Lib.hid C2
    have H1 := Lib.hid h1
    have e2 : (a != b) = !(a == b) := rfl
    first
      | (have e1 : (a == b) = true := beq_iff_eq.2 h1
         rw [e1] at e2)
      | (have e1 : (a == b) = false := beq_eq_false_iff_ne.2 h1
         rw [e1] at e2)
    clear hfin C1 C2 h1
    go_enter Try.func58, Try.ntmps58
    go_wp2_with (first
    | (refine wpl_box_at rfl 30 (.tmp 0) rfl _ rfl ?_; intro w1 hw; have hb := hid_grow hw; have B4 := (hid_alloc hw).1; replace HB := HB.trans (hb.mono HB.size); (try replace HO := HO.below hb); (try replace HY := HY.below hb); (try replace B5 := IBox.below B5 hb (IBox.lt B5)); clear hb hw)
    | (refine wpl_box_at rfl 30 (.tmp 1) rfl _ rfl ?_; intro w1 hw; have hb := hid_grow hw; have B5 := (hid_alloc hw).1; replace HB := HB.trans (hb.mono HB.size); (try replace HO := HO.below hb); (try replace HY := HY.below hb); (try replace B4 := IBox.below B4 hb (IBox.lt B4)); clear hb hw)
    | (refine wpl_load_box rfl 30 (.tmp 4) rfl _ rfl _ _ _ B4 Try.underlying30 rfl info_value ?_)
    | (go_at_call 19; (with_reducible refine (HC1.out _ HO).mono ?_); rintro e w1 ⟨rfl, hb⟩; replace HB := HB.trans (hb.mono HB.size); (try replace HO := HO.below hb); (try replace HY := HY.below hb); (try replace B4 := IBox.below B4 hb (IBox.lt B4)); (try replace B5 := IBox.below B5 hb (IBox.lt B5)); clear hb)
    | (refine wpl_load_box rfl 30 (.tmp 5) rfl _ rfl _ _ _ B5 Try.underlying30 rfl info_value ?_)
    | (go_at_call 19; (with_reducible refine (HC2.out _ HY).mono ?_); rintro e w1 ⟨rfl, hb⟩; replace HB := HB.trans (hb.mono HB.size); (try replace HO := HO.below hb); (try replace HY := HY.below hb); (try replace B4 := IBox.below B4 hb (IBox.lt B4)); (try replace B5 := IBox.below B5 hb (IBox.lt B5)); clear hb))
    go_ret
    exact ⟨ret_bool (by rw [HR.out]; simp_all), HB⟩
end Go.Proofs.Ytpmdpfgaafaceaa
