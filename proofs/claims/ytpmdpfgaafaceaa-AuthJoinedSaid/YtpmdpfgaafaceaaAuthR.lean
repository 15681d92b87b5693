/- Layer 16: which pairs may authorise an event; slices.Contains at entries. -/
import Derived.Test.YtpmdpfgaafaceaaEnt
import Derived.Test.YtpmdpfgaafaceaaAuthE
import Derived.Test.YtpmdpfgaafaceaaAuthL
import Derived.Laws.StructEq
namespace Go.Proofs.Ytpmdpfgaafaceaa
open Go.RowKit
set_option linter.unusedVariables false
set_option linter.unusedSimpArgs false

theorem eqE0 (a b c d e f : ByteArray) (w : World) : (Op.equalIn 10000 60 (.agg #[.string a, .string b, .string c]) (.agg #[.string d, .string e, .string f])).run Try.prog w = .ok (a.toList == d.toList && (b.toList == e.toList && c.toList == f.toList)) w := by
  have u3 := Try.underlying9
  have hS : Try.prog.underlying 60 = some (.struct (Try.prog.fieldsOf 60)) := by kernel_rfl
  rw [show (10000 : Nat) = 9999 + 1 from rfl, run_equalIn_agg w 9999 60 _ _ hS (by kernel_rfl)]
  simp only [Program.fieldsOf, Try.underlying60]
  go_simp
  by_cases h1 : a.toList = d.toList <;> by_cases h2 : b.toList = e.toList <;> by_cases h3 : c.toList = f.toList <;> simp [h1, h2, h3]
theorem guardE : Try.prog.eqGuardType Try.prog.depth 60 = false := by kernel_rfl
def sameE (k s : ByteArray) (p : ByteArray × ByteArray) : Bool := (k.toList == p.1.toList) && (s.toList == p.2.toList)
def mayE (L : List (ByteArray × ByteArray)) (k s : ByteArray) : Bool := L.any (sameE k s)
def noE (k s : ByteArray) (L : List (ByteArray × ByteArray)) (m : Nat) : Prop := ∀ q p, q < m → L[q]? = some p → sameE k s p = false
theorem noE_step {k s : ByteArray} {L : List (ByteArray × ByteArray)} {m : Nat} {p : ByteArray × ByteArray} (h : noE k s L m) (hn : L[m]? = some p) (hb : sameE k s p = false) : noE k s L (m + 1) := by
  intro q p2 hq hm
  rcases Nat.lt_or_ge q m with hlt | hge
  · exact h q p2 hlt hm
  · obtain rfl : q = m := by omega
    rw [hn] at hm
    cases hm
    exact hb
theorem mayE_no {k s : ByteArray} {L : List (ByteArray × ByteArray)} (h : noE k s L L.length) : mayE L k s = false := by
  unfold mayE
  rw [List.any_eq_false]
  intro n hn
  obtain ⟨q, hq, e⟩ := List.mem_iff_getElem.1 hn
  rw [h q n hq (by rw [List.getElem?_eq_getElem hq, e])]
  decide
theorem mayE_yes {k s : ByteArray} {L : List (ByteArray × ByteArray)} {m : Nat} {p : ByteArray × ByteArray} (hn : L[m]? = some p) (h : sameE k s p = true) : mayE L k s = true :=
  List.any_eq_true.2 ⟨p, List.mem_of_getElem? hn, h⟩
theorem entries_at {w : World} {A : Option Addr} {L : List (ByteArray × ByteArray)} (h : EntriesAt w A L) {k : Nat} (hk : k < L.length) :
    ∃ b off p, A = some ⟨b, off, none⟩ ∧ L[k]? = some p ∧ w.cell? ⟨b, off + k * 3, none⟩ = some (.string p.1) ∧ w.cell? ⟨b, off + k * 3 + 1, none⟩ = some (.string p.2) ∧ w.cell? ⟨b, off + k * 3 + 2, none⟩ = some (.string ⟨#[]⟩) := by
  have e : L[k]? = some L[k] := List.getElem?_eq_getElem hk
  obtain ⟨b, off, hA, hr⟩ := h k L[k] e
  exact ⟨b, off, L[k], hA, e, by simpa using hr 0 _ rfl, hr 1 _ rfl, hr 2 _ rfl⟩

set_option maxRecDepth 100000 in
set_option maxHeartbeats 4000000 in
theorem indexE_any (L : List (ByteArray × ByteArray)) (A : Option Addr) (c : Nat) (k s : ByteArray) (w : World) (hE : EntriesAt w A L) (hL : L.length ≤ 9223372036854775807) :
    Calls Try.prog 67 #[.slice A L.length c, .agg #[.string k, .string s, .string ⟨#[]⟩]] w fun e w' => ∃ i : Int, e = .returned (.int .i64 i) ∧ (mayE L k s = true → 0 ≤ i) ∧ (mayE L k s = false → i < 0) ∧ Below w.heap.size w w' := by
  have HB := Below.refl w.heap.size w
  have hq := eqE0
  have hg := guardE
  have hqs := fun (w : World) (t : TypeId) (xs ys : Array Value) => run_eql_struct (P := Try.prog) (w := w) t xs ys
  go_enter Try.func67, Try.ntmps67
  go_wp2_with (refine wpl_box_at rfl 60 (.tmp 1) rfl _ rfl ?_; intro w1 hw; have hb := hid_grow hw; have B3 := (hid_alloc hw).1; replace HB := HB.trans (hb.mono HB.size); replace hE := hE.below hb; clear hb hw; have c3_0 : w1.cell? ⟨_, 0, none⟩ = some (.string k) := B3.cell 0; have c3_1 : w1.cell? ⟨_, 1, none⟩ = some (.string s) := B3.cell 1; have c3_2 : w1.cell? ⟨_, 2, none⟩ = some (.string ⟨#[]⟩) := B3.cell 2)
  clear B3
  go_loopw [8] (fun i wr => ∃ m : Nat, m ≤ L.length ∧ i = .int .i64 m ∧ Hid (noE k s L m) ∧ Below w1.heap.size w1 wr) (fun i _ => L.length - (intOf i).toNat)
  case atStart => exact ⟨0, Nat.zero_le _, rfl, fun q p hq => absurd hq (by omega), Below.refl _ _⟩
  case round =>
    obtain ⟨m, hm, rfl, HS, hb⟩ := hrel
    have HBW := Lib.hid hb
    replace c3_0 := cell_below hb c3_0
    replace c3_1 := cell_below hb c3_1
    replace c3_2 := cell_below hb c3_2
    by_cases hlt : m < L.length
    · obtain ⟨bl, off, p, rfl, hp, d0, d1, d2⟩ := entries_at (hE.below hb) hlt
      have HP := Lib.hid hp
      have hbd : 0 ≤ (m : Int) ∧ (m : Int) < L.length := by omega
      have hsame : sameE k s p = ((k.toList == p.1.toList) && (s.toList == p.2.toList)) := rfl
      clear hp hb
      cases h1 : (k.toList == p.1.toList) <;> cases h2 : (s.toList == p.2.toList)
      all_goals
        rw [h1, h2] at hsame
        have HSM := Lib.hid hsame
        clear hsame
        go_wp2
        go_quiet (fail)
        generalize hw2 : World.drewN _ nq = w2
        have hb4 := HBW.out.trans ((below_dr hw2).mono HBW.out.size)
        clear hw2
        go_wp2
      all_goals first
        | (go_roundw
           case rel => exact ⟨m + 1, by omega, by go_num, noE_step HS.out HP.out HSM.out, hb4⟩
           case measure => simp [intOf]; omega)
        | skip
      have hY : mayE L k s = true := mayE_yes HP.out HSM.out
      go_ret
      exact ⟨m, rfl, fun _ => by omega, (fun h => by rw [hY] at h; cases h), HB.trans (hb4.mono HB.size)⟩
    · obtain rfl : m = L.length := by omega
      have hN : mayE L k s = false := mayE_no HS.out
      clear hb
      go_wp2
      go_ret
      exact ⟨-1, rfl, (fun h => by rw [hN] at h; cases h), fun _ => by omega, HB.trans (HBW.out.mono HB.size)⟩

set_option maxRecDepth 100000 in
set_option maxHeartbeats 4000000 in
theorem containsE_any (L : List (ByteArray × ByteArray)) (A : Option Addr) (c : Nat) (k s : ByteArray) (w : World) (hE : EntriesAt w A L) (hL : L.length ≤ 9223372036854775807) :
    Calls Try.prog 40 #[.slice A L.length c, .agg #[.string k, .string s, .string ⟨#[]⟩]] w fun e w' => e = .returned (.bool (mayE L k s)) ∧ Below w.heap.size w w' := by
  have HB := Below.refl w.heap.size w
  cases hM : mayE L k s
  all_goals
    have HM := Lib.hid hM
    clear hM
    go_enter Try.func40, Try.ntmps40
    go_wp2_with (first
      | (refine wpl_box_at rfl 60 (.tmp 1) rfl _ rfl ?_; intro w1 hw; have hb := hid_grow hw; have B3 := (hid_alloc hw).1; replace HB := HB.trans (hb.mono HB.size); replace hE := hE.below hb; clear hb hw; have c3_0 : w1.cell? ⟨_, 0, none⟩ = some (.string k) := B3.cell 0; have c3_1 : w1.cell? ⟨_, 1, none⟩ = some (.string s) := B3.cell 1; have c3_2 : w1.cell? ⟨_, 2, none⟩ = some (.string ⟨#[]⟩) := B3.cell 2)
      | (go_at_call 67; (with_reducible refine (indexE_any L A c k s _ hE hL).mono ?_); rintro e w2 ⟨i, rfl, hi1, hi2, hb⟩; replace HB := HB.trans (hb.mono HB.size); (first | (have hi := hi2 HM.out) | (have hi := hi1 HM.out)); clear hb hi1 hi2))
    go_ret
    exact ⟨ret_bool (by first | (simp; done) | (simp; omega)), HB⟩

def isMemB (ex : Ev) : Bool := (ex.ty.toList == [109, 46, 114, 111, 111, 109, 46, 109, 101, 109, 98, 101, 114])
def selB1 (ex : Ev) : Bool := isMemB ex && (((wordT ex.content ⟨#[109, 101, 109, 98, 101, 114, 115, 104, 105, 112]⟩).toList == [106, 111, 105, 110]) || ((wordT ex.content ⟨#[109, 101, 109, 98, 101, 114, 115, 104, 105, 112]⟩).toList == [105, 110, 118, 105, 116, 101]))
def selB2 (ex : Ev) : Bool := isMemB ex && ex.hasKey && !(ex.key.toList == ex.sender.toList)
/-- A call's one result: a slice that reads as the entries L. -/
def GivesEnts (e : Ending) (L : List (ByteArray × ByteArray)) (w w' : World) : Prop := ∃ A c, e = .returned (.slice A L.length c) ∧ EntriesAt w' A L ∧ Below w.heap.size w w'
/-- The pairs that may authorise an event. -/
def selL (ex : Ev) : List (ByteArray × ByteArray) :=
  if isCreateB ex = true then [] else [(⟨#[109, 46, 114, 111, 111, 109, 46, 99, 114, 101, 97, 116, 101]⟩, ⟨#[]⟩), (⟨#[109, 46, 114, 111, 111, 109, 46, 112, 111, 119, 101, 114, 95, 108, 101, 118, 101, 108, 115]⟩, ⟨#[]⟩)] ++ (if selB1 ex = true then [(⟨#[109, 46, 114, 111, 111, 109, 46, 106, 111, 105, 110, 95, 114, 117, 108, 101, 115]⟩, ⟨#[]⟩)] else []) ++ [(⟨#[109, 46, 114, 111, 111, 109, 46, 109, 101, 109, 98, 101, 114]⟩, ex.sender)] ++ (if selB2 ex = true then [(⟨#[109, 46, 114, 111, 111, 109, 46, 109, 101, 109, 98, 101, 114]⟩, ex.key)] else [])
theorem selL_small (ex : Ev) : (selL ex).length ≤ 9223372036854775807 := by
  unfold selL
  split
  · simp
  · simp only [List.length_append]
    split <;> split <;> simp

set_option maxRecDepth 100000 in
set_option maxHeartbeats 8000000 in
theorem aselect_any (ex : Ev) (w : World) (HE : IsEv w ex) :
    Calls Try.prog 16 #[.agg ex.cells] w fun e w' => GivesEnts e (selL ex) w w' := by
  obtain ⟨i0, hi, hz0, hz1, hz2⟩ := info_parts info_entry
  have HB := Below.refl w.heap.size w
  cases hC : isCreateB ex
  · have hC2 : isB ex ⟨#[109, 46, 114, 111, 111, 109, 46, 99, 114, 101, 97, 116, 101]⟩ = false := hC
    cases hM : (ex.ty.toList == [109, 46, 114, 111, 111, 109, 46, 109, 101, 109, 98, 101, 114])
    · have hsel : selL ex = [(⟨#[109, 46, 114, 111, 111, 109, 46, 99, 114, 101, 97, 116, 101]⟩, ⟨#[]⟩), (⟨#[109, 46, 114, 111, 111, 109, 46, 112, 111, 119, 101, 114, 95, 108, 101, 118, 101, 108, 115]⟩, ⟨#[]⟩), (⟨#[109, 46, 114, 111, 111, 109, 46, 109, 101, 109, 98, 101, 114]⟩, ex.sender)] := by unfold selL selB1 selB2 isMemB; simp [hC, hM]
      rw [hsel]
      have HC := Lib.hid hC
      clear hsel hC
      go_enter Try.func16, Try.ntmps16
      go_wp2_with (first
            | (refine wpl_box_at rfl 32 (.tmp 0) rfl _ rfl ?_; intro w1 hw; have hb := hid_grow hw; have B1 := (hid_alloc hw).1; replace HB := HB.trans (hb.mono HB.size); replace HE := HE.below hb; clear hb hw)
            | (refine wpl_load_box rfl 32 (.tmp 1) rfl _ rfl _ _ _ B1 Try.underlying32 rfl info_event ?_)
            | (go_at_call 20; (with_reducible refine (is_any _ _ _ HE).mono ?_); rintro e wb ⟨rfl, hb⟩; replace HB := HB.trans (hb.mono HB.size); replace HE := HE.below hb; replace B1 := IBox.below B1 hb (IBox.lt B1); clear hb)
            | (refine wpl_load_arr rfl 30 (.tmp 12) rfl _ 10 rfl _ _ (ev_content (B1.alloc _)) Try.underlying30 rfl info_value ?_)
            | (go_at_call 33; (with_reducible refine (aword_any _ ⟨#[109, 101, 109, 98, 101, 114, 115, 104, 105, 112]⟩ _ (HE.below ((Below.refl _ _).alloc (Nat.le_refl _) _)).content).mono ?_); rintro e wc ⟨rfl, hb⟩; have HOWN := Lib.hid (own_start (base := wb.heap.size) (n := 2) (size := 3) (IBox.below (IBox.new wb _ _) hb (IBox.lt (IBox.new wb _ _))) (Nat.le_refl _) rfl (by unfold maxLen; omega)); have HBB := ((Below.refl wb.heap.size wb).alloc (Nat.le_refl _) _).trans (hb.mono (by simp)); have HCE := B1; replace B1 := IBox.below B1 HBB (IBox.lt B1); have c1_1 : wc.cell? ⟨_, 1, none⟩ = some (.string ex.ty) := B1.cell 1; have c1_3 : wc.cell? ⟨_, 3, none⟩ = some (.string ex.sender) := B1.cell 3; have c1_4 : wc.cell? ⟨_, 4, none⟩ = some (.bool ex.hasKey) := B1.cell 4; have c1_5 : wc.cell? ⟨_, 5, none⟩ = some (.string ex.key) := B1.cell 5; clear hb)
            | (at_builtin; refine wpl_append_fresh rfl (.tmp 32) (.tmp 36) _ rfl wb.heap.size 60 i0 (.agg #[.string ⟨#[]⟩, .string ⟨#[]⟩, .string ⟨#[]⟩]) 3 48 Try.underlying42 hi hz0 hz1 hz2 rfl (by decide) _ _ _ rfl (HOWN.out.alloc _) _ 1 _ _ (IBox.new _ _ _) rfl rfl (by simp [Value.oneCell']) (by unfold maxLen; omega) (by omega) (by have := HBB.size; simp; omega) ?_; intro v' w3 hown3 hb3; clear HOWN; have HOWN := Lib.hid hown3; clear hown3; replace HBB := (HBB.alloc HBB.size _).trans hb3; clear hb3; replace B1 := IBox.below HCE HBB (IBox.lt HCE); clear c1_1 c1_3 c1_4 c1_5; have c1_1 : w3.cell? ⟨_, 1, none⟩ = some (.string ex.ty) := B1.cell 1; have c1_3 : w3.cell? ⟨_, 3, none⟩ = some (.string ex.sender) := B1.cell 3; have c1_4 : w3.cell? ⟨_, 4, none⟩ = some (.bool ex.hasKey) := B1.cell 4; have c1_5 : w3.cell? ⟨_, 5, none⟩ = some (.string ex.key) := B1.cell 5)
            | (at_builtin; refine wpl_append_fresh rfl (.tmp 28) (.tmp 30) _ rfl wb.heap.size 60 i0 (.agg #[.string ⟨#[]⟩, .string ⟨#[]⟩, .string ⟨#[]⟩]) 3 48 Try.underlying42 hi hz0 hz1 hz2 rfl (by decide) _ _ _ rfl (HOWN.out.alloc _) _ 1 _ _ (IBox.new _ _ _) rfl rfl (by simp [Value.oneCell']) (by unfold maxLen; omega) (by omega) (by have := HBB.size; simp; omega) ?_; intro v' w3 hown3 hb3; clear HOWN; have HOWN := Lib.hid hown3; clear hown3; replace HBB := (HBB.alloc HBB.size _).trans hb3; clear hb3; replace B1 := IBox.below HCE HBB (IBox.lt HCE); clear c1_1 c1_3 c1_4 c1_5; have c1_1 : w3.cell? ⟨_, 1, none⟩ = some (.string ex.ty) := B1.cell 1; have c1_3 : w3.cell? ⟨_, 3, none⟩ = some (.string ex.sender) := B1.cell 3; have c1_4 : w3.cell? ⟨_, 4, none⟩ = some (.bool ex.hasKey) := B1.cell 4; have c1_5 : w3.cell? ⟨_, 5, none⟩ = some (.string ex.key) := B1.cell 5)
            | (at_builtin; refine wpl_append_fresh rfl (.tmp 52) (.tmp 56) _ rfl wb.heap.size 60 i0 (.agg #[.string ⟨#[]⟩, .string ⟨#[]⟩, .string ⟨#[]⟩]) 3 48 Try.underlying42 hi hz0 hz1 hz2 rfl (by decide) _ _ _ rfl (HOWN.out.alloc _) _ 1 _ _ (IBox.new _ _ _) rfl rfl (by simp [Value.oneCell']) (by unfold maxLen; omega) (by omega) (by have := HBB.size; simp; omega) ?_; intro v' w3 hown3 hb3; clear HOWN; have HOWN := Lib.hid hown3; clear hown3; replace HBB := (HBB.alloc HBB.size _).trans hb3; clear hb3; replace B1 := IBox.below HCE HBB (IBox.lt HCE); clear c1_1 c1_3 c1_4 c1_5; have c1_1 : w3.cell? ⟨_, 1, none⟩ = some (.string ex.ty) := B1.cell 1; have c1_3 : w3.cell? ⟨_, 3, none⟩ = some (.string ex.sender) := B1.cell 3; have c1_4 : w3.cell? ⟨_, 4, none⟩ = some (.bool ex.hasKey) := B1.cell 4; have c1_5 : w3.cell? ⟨_, 5, none⟩ = some (.string ex.key) := B1.cell 5))
      obtain ⟨A, c, rfl, hEE⟩ := own_entries (L := [(⟨#[109, 46, 114, 111, 111, 109, 46, 99, 114, 101, 97, 116, 101]⟩, ⟨#[]⟩), (⟨#[109, 46, 114, 111, 111, 109, 46, 112, 111, 119, 101, 114, 95, 108, 101, 118, 101, 108, 115]⟩, ⟨#[]⟩), (⟨#[109, 46, 114, 111, 111, 109, 46, 109, 101, 109, 98, 101, 114]⟩, ex.sender)]) HOWN.out rfl
      go_ret
      exact ⟨A, c, rfl, hEE, HB.trans (HBB.mono HB.size)⟩
    · cases hJ : ((wordT ex.content ⟨#[109, 101, 109, 98, 101, 114, 115, 104, 105, 112]⟩).toList == [106, 111, 105, 110])
      · cases hI : ((wordT ex.content ⟨#[109, 101, 109, 98, 101, 114, 115, 104, 105, 112]⟩).toList == [105, 110, 118, 105, 116, 101])
        · cases hK : ex.hasKey
          · have hsel : selL ex = [(⟨#[109, 46, 114, 111, 111, 109, 46, 99, 114, 101, 97, 116, 101]⟩, ⟨#[]⟩), (⟨#[109, 46, 114, 111, 111, 109, 46, 112, 111, 119, 101, 114, 95, 108, 101, 118, 101, 108, 115]⟩, ⟨#[]⟩), (⟨#[109, 46, 114, 111, 111, 109, 46, 109, 101, 109, 98, 101, 114]⟩, ex.sender)] := by unfold selL selB1 selB2 isMemB; simp [hC, hM, hJ, hI, hK]
            rw [hsel]
            have HC := Lib.hid hC
            clear hsel hC
            go_enter Try.func16, Try.ntmps16
            go_wp2_with (first
                  | (refine wpl_box_at rfl 32 (.tmp 0) rfl _ rfl ?_; intro w1 hw; have hb := hid_grow hw; have B1 := (hid_alloc hw).1; replace HB := HB.trans (hb.mono HB.size); replace HE := HE.below hb; clear hb hw)
                  | (refine wpl_load_box rfl 32 (.tmp 1) rfl _ rfl _ _ _ B1 Try.underlying32 rfl info_event ?_)
                  | (go_at_call 20; (with_reducible refine (is_any _ _ _ HE).mono ?_); rintro e wb ⟨rfl, hb⟩; replace HB := HB.trans (hb.mono HB.size); replace HE := HE.below hb; replace B1 := IBox.below B1 hb (IBox.lt B1); clear hb)
                  | (refine wpl_load_arr rfl 30 (.tmp 12) rfl _ 10 rfl _ _ (ev_content (B1.alloc _)) Try.underlying30 rfl info_value ?_)
                  | (go_at_call 33; (with_reducible refine (aword_any _ ⟨#[109, 101, 109, 98, 101, 114, 115, 104, 105, 112]⟩ _ (HE.below ((Below.refl _ _).alloc (Nat.le_refl _) _)).content).mono ?_); rintro e wc ⟨rfl, hb⟩; have HOWN := Lib.hid (own_start (base := wb.heap.size) (n := 2) (size := 3) (IBox.below (IBox.new wb _ _) hb (IBox.lt (IBox.new wb _ _))) (Nat.le_refl _) rfl (by unfold maxLen; omega)); have HBB := ((Below.refl wb.heap.size wb).alloc (Nat.le_refl _) _).trans (hb.mono (by simp)); have HCE := B1; replace B1 := IBox.below B1 HBB (IBox.lt B1); have c1_1 : wc.cell? ⟨_, 1, none⟩ = some (.string ex.ty) := B1.cell 1; have c1_3 : wc.cell? ⟨_, 3, none⟩ = some (.string ex.sender) := B1.cell 3; have c1_4 : wc.cell? ⟨_, 4, none⟩ = some (.bool ex.hasKey) := B1.cell 4; have c1_5 : wc.cell? ⟨_, 5, none⟩ = some (.string ex.key) := B1.cell 5; clear hb)
                  | (at_builtin; refine wpl_append_fresh rfl (.tmp 32) (.tmp 36) _ rfl wb.heap.size 60 i0 (.agg #[.string ⟨#[]⟩, .string ⟨#[]⟩, .string ⟨#[]⟩]) 3 48 Try.underlying42 hi hz0 hz1 hz2 rfl (by decide) _ _ _ rfl (HOWN.out.alloc _) _ 1 _ _ (IBox.new _ _ _) rfl rfl (by simp [Value.oneCell']) (by unfold maxLen; omega) (by omega) (by have := HBB.size; simp; omega) ?_; intro v' w3 hown3 hb3; clear HOWN; have HOWN := Lib.hid hown3; clear hown3; replace HBB := (HBB.alloc HBB.size _).trans hb3; clear hb3; replace B1 := IBox.below HCE HBB (IBox.lt HCE); clear c1_1 c1_3 c1_4 c1_5; have c1_1 : w3.cell? ⟨_, 1, none⟩ = some (.string ex.ty) := B1.cell 1; have c1_3 : w3.cell? ⟨_, 3, none⟩ = some (.string ex.sender) := B1.cell 3; have c1_4 : w3.cell? ⟨_, 4, none⟩ = some (.bool ex.hasKey) := B1.cell 4; have c1_5 : w3.cell? ⟨_, 5, none⟩ = some (.string ex.key) := B1.cell 5)
                  | (at_builtin; refine wpl_append_fresh rfl (.tmp 28) (.tmp 30) _ rfl wb.heap.size 60 i0 (.agg #[.string ⟨#[]⟩, .string ⟨#[]⟩, .string ⟨#[]⟩]) 3 48 Try.underlying42 hi hz0 hz1 hz2 rfl (by decide) _ _ _ rfl (HOWN.out.alloc _) _ 1 _ _ (IBox.new _ _ _) rfl rfl (by simp [Value.oneCell']) (by unfold maxLen; omega) (by omega) (by have := HBB.size; simp; omega) ?_; intro v' w3 hown3 hb3; clear HOWN; have HOWN := Lib.hid hown3; clear hown3; replace HBB := (HBB.alloc HBB.size _).trans hb3; clear hb3; replace B1 := IBox.below HCE HBB (IBox.lt HCE); clear c1_1 c1_3 c1_4 c1_5; have c1_1 : w3.cell? ⟨_, 1, none⟩ = some (.string ex.ty) := B1.cell 1; have c1_3 : w3.cell? ⟨_, 3, none⟩ = some (.string ex.sender) := B1.cell 3; have c1_4 : w3.cell? ⟨_, 4, none⟩ = some (.bool ex.hasKey) := B1.cell 4; have c1_5 : w3.cell? ⟨_, 5, none⟩ = some (.string ex.key) := B1.cell 5)
                  | (at_builtin; refine wpl_append_fresh rfl (.tmp 52) (.tmp 56) _ rfl wb.heap.size 60 i0 (.agg #[.string ⟨#[]⟩, .string ⟨#[]⟩, .string ⟨#[]⟩]) 3 48 Try.underlying42 hi hz0 hz1 hz2 rfl (by decide) _ _ _ rfl (HOWN.out.alloc _) _ 1 _ _ (IBox.new _ _ _) rfl rfl (by simp [Value.oneCell']) (by unfold maxLen; omega) (by omega) (by have := HBB.size; simp; omega) ?_; intro v' w3 hown3 hb3; clear HOWN; have HOWN := Lib.hid hown3; clear hown3; replace HBB := (HBB.alloc HBB.size _).trans hb3; clear hb3; replace B1 := IBox.below HCE HBB (IBox.lt HCE); clear c1_1 c1_3 c1_4 c1_5; have c1_1 : w3.cell? ⟨_, 1, none⟩ = some (.string ex.ty) := B1.cell 1; have c1_3 : w3.cell? ⟨_, 3, none⟩ = some (.string ex.sender) := B1.cell 3; have c1_4 : w3.cell? ⟨_, 4, none⟩ = some (.bool ex.hasKey) := B1.cell 4; have c1_5 : w3.cell? ⟨_, 5, none⟩ = some (.string ex.key) := B1.cell 5))
            obtain ⟨A, c, rfl, hEE⟩ := own_entries (L := [(⟨#[109, 46, 114, 111, 111, 109, 46, 99, 114, 101, 97, 116, 101]⟩, ⟨#[]⟩), (⟨#[109, 46, 114, 111, 111, 109, 46, 112, 111, 119, 101, 114, 95, 108, 101, 118, 101, 108, 115]⟩, ⟨#[]⟩), (⟨#[109, 46, 114, 111, 111, 109, 46, 109, 101, 109, 98, 101, 114]⟩, ex.sender)]) HOWN.out rfl
            go_ret
            exact ⟨A, c, rfl, hEE, HB.trans (HBB.mono HB.size)⟩
          · cases hS : (ex.key.toList == ex.sender.toList)
            · have hsel : selL ex = [(⟨#[109, 46, 114, 111, 111, 109, 46, 99, 114, 101, 97, 116, 101]⟩, ⟨#[]⟩), (⟨#[109, 46, 114, 111, 111, 109, 46, 112, 111, 119, 101, 114, 95, 108, 101, 118, 101, 108, 115]⟩, ⟨#[]⟩), (⟨#[109, 46, 114, 111, 111, 109, 46, 109, 101, 109, 98, 101, 114]⟩, ex.sender), (⟨#[109, 46, 114, 111, 111, 109, 46, 109, 101, 109, 98, 101, 114]⟩, ex.key)] := by unfold selL selB1 selB2 isMemB; simp [hC, hM, hJ, hI, hK, hS]
              rw [hsel]
              have HC := Lib.hid hC
              clear hsel hC
              go_enter Try.func16, Try.ntmps16
              go_wp2_with (first
                    | (refine wpl_box_at rfl 32 (.tmp 0) rfl _ rfl ?_; intro w1 hw; have hb := hid_grow hw; have B1 := (hid_alloc hw).1; replace HB := HB.trans (hb.mono HB.size); replace HE := HE.below hb; clear hb hw)
                    | (refine wpl_load_box rfl 32 (.tmp 1) rfl _ rfl _ _ _ B1 Try.underlying32 rfl info_event ?_)
                    | (go_at_call 20; (with_reducible refine (is_any _ _ _ HE).mono ?_); rintro e wb ⟨rfl, hb⟩; replace HB := HB.trans (hb.mono HB.size); replace HE := HE.below hb; replace B1 := IBox.below B1 hb (IBox.lt B1); clear hb)
                    | (refine wpl_load_arr rfl 30 (.tmp 12) rfl _ 10 rfl _ _ (ev_content (B1.alloc _)) Try.underlying30 rfl info_value ?_)
                    | (go_at_call 33; (with_reducible refine (aword_any _ ⟨#[109, 101, 109, 98, 101, 114, 115, 104, 105, 112]⟩ _ (HE.below ((Below.refl _ _).alloc (Nat.le_refl _) _)).content).mono ?_); rintro e wc ⟨rfl, hb⟩; have HOWN := Lib.hid (own_start (base := wb.heap.size) (n := 2) (size := 3) (IBox.below (IBox.new wb _ _) hb (IBox.lt (IBox.new wb _ _))) (Nat.le_refl _) rfl (by unfold maxLen; omega)); have HBB := ((Below.refl wb.heap.size wb).alloc (Nat.le_refl _) _).trans (hb.mono (by simp)); have HCE := B1; replace B1 := IBox.below B1 HBB (IBox.lt B1); have c1_1 : wc.cell? ⟨_, 1, none⟩ = some (.string ex.ty) := B1.cell 1; have c1_3 : wc.cell? ⟨_, 3, none⟩ = some (.string ex.sender) := B1.cell 3; have c1_4 : wc.cell? ⟨_, 4, none⟩ = some (.bool ex.hasKey) := B1.cell 4; have c1_5 : wc.cell? ⟨_, 5, none⟩ = some (.string ex.key) := B1.cell 5; clear hb)
                    | (at_builtin; refine wpl_append_fresh rfl (.tmp 32) (.tmp 36) _ rfl wb.heap.size 60 i0 (.agg #[.string ⟨#[]⟩, .string ⟨#[]⟩, .string ⟨#[]⟩]) 3 48 Try.underlying42 hi hz0 hz1 hz2 rfl (by decide) _ _ _ rfl (HOWN.out.alloc _) _ 1 _ _ (IBox.new _ _ _) rfl rfl (by simp [Value.oneCell']) (by unfold maxLen; omega) (by omega) (by have := HBB.size; simp; omega) ?_; intro v' w3 hown3 hb3; clear HOWN; have HOWN := Lib.hid hown3; clear hown3; replace HBB := (HBB.alloc HBB.size _).trans hb3; clear hb3; replace B1 := IBox.below HCE HBB (IBox.lt HCE); clear c1_1 c1_3 c1_4 c1_5; have c1_1 : w3.cell? ⟨_, 1, none⟩ = some (.string ex.ty) := B1.cell 1; have c1_3 : w3.cell? ⟨_, 3, none⟩ = some (.string ex.sender) := B1.cell 3; have c1_4 : w3.cell? ⟨_, 4, none⟩ = some (.bool ex.hasKey) := B1.cell 4; have c1_5 : w3.cell? ⟨_, 5, none⟩ = some (.string ex.key) := B1.cell 5)
                    | (at_builtin; refine wpl_append_fresh rfl (.tmp 28) (.tmp 30) _ rfl wb.heap.size 60 i0 (.agg #[.string ⟨#[]⟩, .string ⟨#[]⟩, .string ⟨#[]⟩]) 3 48 Try.underlying42 hi hz0 hz1 hz2 rfl (by decide) _ _ _ rfl (HOWN.out.alloc _) _ 1 _ _ (IBox.new _ _ _) rfl rfl (by simp [Value.oneCell']) (by unfold maxLen; omega) (by omega) (by have := HBB.size; simp; omega) ?_; intro v' w3 hown3 hb3; clear HOWN; have HOWN := Lib.hid hown3; clear hown3; replace HBB := (HBB.alloc HBB.size _).trans hb3; clear hb3; replace B1 := IBox.below HCE HBB (IBox.lt HCE); clear c1_1 c1_3 c1_4 c1_5; have c1_1 : w3.cell? ⟨_, 1, none⟩ = some (.string ex.ty) := B1.cell 1; have c1_3 : w3.cell? ⟨_, 3, none⟩ = some (.string ex.sender) := B1.cell 3; have c1_4 : w3.cell? ⟨_, 4, none⟩ = some (.bool ex.hasKey) := B1.cell 4; have c1_5 : w3.cell? ⟨_, 5, none⟩ = some (.string ex.key) := B1.cell 5)
                    | (at_builtin; refine wpl_append_fresh rfl (.tmp 52) (.tmp 56) _ rfl wb.heap.size 60 i0 (.agg #[.string ⟨#[]⟩, .string ⟨#[]⟩, .string ⟨#[]⟩]) 3 48 Try.underlying42 hi hz0 hz1 hz2 rfl (by decide) _ _ _ rfl (HOWN.out.alloc _) _ 1 _ _ (IBox.new _ _ _) rfl rfl (by simp [Value.oneCell']) (by unfold maxLen; omega) (by omega) (by have := HBB.size; simp; omega) ?_; intro v' w3 hown3 hb3; clear HOWN; have HOWN := Lib.hid hown3; clear hown3; replace HBB := (HBB.alloc HBB.size _).trans hb3; clear hb3; replace B1 := IBox.below HCE HBB (IBox.lt HCE); clear c1_1 c1_3 c1_4 c1_5; have c1_1 : w3.cell? ⟨_, 1, none⟩ = some (.string ex.ty) := B1.cell 1; have c1_3 : w3.cell? ⟨_, 3, none⟩ = some (.string ex.sender) := B1.cell 3; have c1_4 : w3.cell? ⟨_, 4, none⟩ = some (.bool ex.hasKey) := B1.cell 4; have c1_5 : w3.cell? ⟨_, 5, none⟩ = some (.string ex.key) := B1.cell 5))
              obtain ⟨A, c, rfl, hEE⟩ := own_entries (L := [(⟨#[109, 46, 114, 111, 111, 109, 46, 99, 114, 101, 97, 116, 101]⟩, ⟨#[]⟩), (⟨#[109, 46, 114, 111, 111, 109, 46, 112, 111, 119, 101, 114, 95, 108, 101, 118, 101, 108, 115]⟩, ⟨#[]⟩), (⟨#[109, 46, 114, 111, 111, 109, 46, 109, 101, 109, 98, 101, 114]⟩, ex.sender), (⟨#[109, 46, 114, 111, 111, 109, 46, 109, 101, 109, 98, 101, 114]⟩, ex.key)]) HOWN.out rfl
              go_ret
              exact ⟨A, c, rfl, hEE, HB.trans (HBB.mono HB.size)⟩
            · have hsel : selL ex = [(⟨#[109, 46, 114, 111, 111, 109, 46, 99, 114, 101, 97, 116, 101]⟩, ⟨#[]⟩), (⟨#[109, 46, 114, 111, 111, 109, 46, 112, 111, 119, 101, 114, 95, 108, 101, 118, 101, 108, 115]⟩, ⟨#[]⟩), (⟨#[109, 46, 114, 111, 111, 109, 46, 109, 101, 109, 98, 101, 114]⟩, ex.sender)] := by unfold selL selB1 selB2 isMemB; simp [hC, hM, hJ, hI, hK, hS]
              rw [hsel]
              have HC := Lib.hid hC
              clear hsel hC
              go_enter Try.func16, Try.ntmps16
              go_wp2_with (first
                    | (refine wpl_box_at rfl 32 (.tmp 0) rfl _ rfl ?_; intro w1 hw; have hb := hid_grow hw; have B1 := (hid_alloc hw).1; replace HB := HB.trans (hb.mono HB.size); replace HE := HE.below hb; clear hb hw)
                    | (refine wpl_load_box rfl 32 (.tmp 1) rfl _ rfl _ _ _ B1 Try.underlying32 rfl info_event ?_)
                    | (go_at_call 20; (with_reducible refine (is_any _ _ _ HE).mono ?_); rintro e wb ⟨rfl, hb⟩; replace HB := HB.trans (hb.mono HB.size); replace HE := HE.below hb; replace B1 := IBox.below B1 hb (IBox.lt B1); clear hb)
                    | (refine wpl_load_arr rfl 30 (.tmp 12) rfl _ 10 rfl _ _ (ev_content (B1.alloc _)) Try.underlying30 rfl info_value ?_)
                    | (go_at_call 33; (with_reducible refine (aword_any _ ⟨#[109, 101, 109, 98, 101, 114, 115, 104, 105, 112]⟩ _ (HE.below ((Below.refl _ _).alloc (Nat.le_refl _) _)).content).mono ?_); rintro e wc ⟨rfl, hb⟩; have HOWN := Lib.hid (own_start (base := wb.heap.size) (n := 2) (size := 3) (IBox.below (IBox.new wb _ _) hb (IBox.lt (IBox.new wb _ _))) (Nat.le_refl _) rfl (by unfold maxLen; omega)); have HBB := ((Below.refl wb.heap.size wb).alloc (Nat.le_refl _) _).trans (hb.mono (by simp)); have HCE := B1; replace B1 := IBox.below B1 HBB (IBox.lt B1); have c1_1 : wc.cell? ⟨_, 1, none⟩ = some (.string ex.ty) := B1.cell 1; have c1_3 : wc.cell? ⟨_, 3, none⟩ = some (.string ex.sender) := B1.cell 3; have c1_4 : wc.cell? ⟨_, 4, none⟩ = some (.bool ex.hasKey) := B1.cell 4; have c1_5 : wc.cell? ⟨_, 5, none⟩ = some (.string ex.key) := B1.cell 5; clear hb)
                    | (at_builtin; refine wpl_append_fresh rfl (.tmp 32) (.tmp 36) _ rfl wb.heap.size 60 i0 (.agg #[.string ⟨#[]⟩, .string ⟨#[]⟩, .string ⟨#[]⟩]) 3 48 Try.underlying42 hi hz0 hz1 hz2 rfl (by decide) _ _ _ rfl (HOWN.out.alloc _) _ 1 _ _ (IBox.new _ _ _) rfl rfl (by simp [Value.oneCell']) (by unfold maxLen; omega) (by omega) (by have := HBB.size; simp; omega) ?_; intro v' w3 hown3 hb3; clear HOWN; have HOWN := Lib.hid hown3; clear hown3; replace HBB := (HBB.alloc HBB.size _).trans hb3; clear hb3; replace B1 := IBox.below HCE HBB (IBox.lt HCE); clear c1_1 c1_3 c1_4 c1_5; have c1_1 : w3.cell? ⟨_, 1, none⟩ = some (.string ex.ty) := B1.cell 1; have c1_3 : w3.cell? ⟨_, 3, none⟩ = some (.string ex.sender) := B1.cell 3; have c1_4 : w3.cell? ⟨_, 4, none⟩ = some (.bool ex.hasKey) := B1.cell 4; have c1_5 : w3.cell? ⟨_, 5, none⟩ = some (.string ex.key) := B1.cell 5)
                    | (at_builtin; refine wpl_append_fresh rfl (.tmp 28) (.tmp 30) _ rfl wb.heap.size 60 i0 (.agg #[.string ⟨#[]⟩, .string ⟨#[]⟩, .string ⟨#[]⟩]) 3 48 Try.underlying42 hi hz0 hz1 hz2 rfl (by decide) _ _ _ rfl (HOWN.out.alloc _) _ 1 _ _ (IBox.new _ _ _) rfl rfl (by simp [Value.oneCell']) (by unfold maxLen; omega) (by omega) (by have := HBB.size; simp; omega) ?_; intro v' w3 hown3 hb3; clear HOWN; have HOWN := Lib.hid hown3; clear hown3; replace HBB := (HBB.alloc HBB.size _).trans hb3; clear hb3; replace B1 := IBox.below HCE HBB (IBox.lt HCE); clear c1_1 c1_3 c1_4 c1_5; have c1_1 : w3.cell? ⟨_, 1, none⟩ = some (.string ex.ty) := B1.cell 1; have c1_3 : w3.cell? ⟨_, 3, none⟩ = some (.string ex.sender) := B1.cell 3; have c1_4 : w3.cell? ⟨_, 4, none⟩ = some (.bool ex.hasKey) := B1.cell 4; have c1_5 : w3.cell? ⟨_, 5, none⟩ = some (.string ex.key) := B1.cell 5)
                    | (at_builtin; refine wpl_append_fresh rfl (.tmp 52) (.tmp 56) _ rfl wb.heap.size 60 i0 (.agg #[.string ⟨#[]⟩, .string ⟨#[]⟩, .string ⟨#[]⟩]) 3 48 Try.underlying42 hi hz0 hz1 hz2 rfl (by decide) _ _ _ rfl (HOWN.out.alloc _) _ 1 _ _ (IBox.new _ _ _) rfl rfl (by simp [Value.oneCell']) (by unfold maxLen; omega) (by omega) (by have := HBB.size; simp; omega) ?_; intro v' w3 hown3 hb3; clear HOWN; have HOWN := Lib.hid hown3; clear hown3; replace HBB := (HBB.alloc HBB.size _).trans hb3; clear hb3; replace B1 := IBox.below HCE HBB (IBox.lt HCE); clear c1_1 c1_3 c1_4 c1_5; have c1_1 : w3.cell? ⟨_, 1, none⟩ = some (.string ex.ty) := B1.cell 1; have c1_3 : w3.cell? ⟨_, 3, none⟩ = some (.string ex.sender) := B1.cell 3; have c1_4 : w3.cell? ⟨_, 4, none⟩ = some (.bool ex.hasKey) := B1.cell 4; have c1_5 : w3.cell? ⟨_, 5, none⟩ = some (.string ex.key) := B1.cell 5))
              obtain ⟨A, c, rfl, hEE⟩ := own_entries (L := [(⟨#[109, 46, 114, 111, 111, 109, 46, 99, 114, 101, 97, 116, 101]⟩, ⟨#[]⟩), (⟨#[109, 46, 114, 111, 111, 109, 46, 112, 111, 119, 101, 114, 95, 108, 101, 118, 101, 108, 115]⟩, ⟨#[]⟩), (⟨#[109, 46, 114, 111, 111, 109, 46, 109, 101, 109, 98, 101, 114]⟩, ex.sender)]) HOWN.out rfl
              go_ret
              exact ⟨A, c, rfl, hEE, HB.trans (HBB.mono HB.size)⟩
        · cases hK : ex.hasKey
          · have hsel : selL ex = [(⟨#[109, 46, 114, 111, 111, 109, 46, 99, 114, 101, 97, 116, 101]⟩, ⟨#[]⟩), (⟨#[109, 46, 114, 111, 111, 109, 46, 112, 111, 119, 101, 114, 95, 108, 101, 118, 101, 108, 115]⟩, ⟨#[]⟩), (⟨#[109, 46, 114, 111, 111, 109, 46, 106, 111, 105, 110, 95, 114, 117, 108, 101, 115]⟩, ⟨#[]⟩), (⟨#[109, 46, 114, 111, 111, 109, 46, 109, 101, 109, 98, 101, 114]⟩, ex.sender)] := by unfold selL selB1 selB2 isMemB; simp [hC, hM, hJ, hI, hK]
            rw [hsel]
            have HC := Lib.hid hC
            clear hsel hC
            go_enter Try.func16, Try.ntmps16
            go_wp2_with (first
                  | (refine wpl_box_at rfl 32 (.tmp 0) rfl _ rfl ?_; intro w1 hw; have hb := hid_grow hw; have B1 := (hid_alloc hw).1; replace HB := HB.trans (hb.mono HB.size); replace HE := HE.below hb; clear hb hw)
                  | (refine wpl_load_box rfl 32 (.tmp 1) rfl _ rfl _ _ _ B1 Try.underlying32 rfl info_event ?_)
                  | (go_at_call 20; (with_reducible refine (is_any _ _ _ HE).mono ?_); rintro e wb ⟨rfl, hb⟩; replace HB := HB.trans (hb.mono HB.size); replace HE := HE.below hb; replace B1 := IBox.below B1 hb (IBox.lt B1); clear hb)
                  | (refine wpl_load_arr rfl 30 (.tmp 12) rfl _ 10 rfl _ _ (ev_content (B1.alloc _)) Try.underlying30 rfl info_value ?_)
                  | (go_at_call 33; (with_reducible refine (aword_any _ ⟨#[109, 101, 109, 98, 101, 114, 115, 104, 105, 112]⟩ _ (HE.below ((Below.refl _ _).alloc (Nat.le_refl _) _)).content).mono ?_); rintro e wc ⟨rfl, hb⟩; have HOWN := Lib.hid (own_start (base := wb.heap.size) (n := 2) (size := 3) (IBox.below (IBox.new wb _ _) hb (IBox.lt (IBox.new wb _ _))) (Nat.le_refl _) rfl (by unfold maxLen; omega)); have HBB := ((Below.refl wb.heap.size wb).alloc (Nat.le_refl _) _).trans (hb.mono (by simp)); have HCE := B1; replace B1 := IBox.below B1 HBB (IBox.lt B1); have c1_1 : wc.cell? ⟨_, 1, none⟩ = some (.string ex.ty) := B1.cell 1; have c1_3 : wc.cell? ⟨_, 3, none⟩ = some (.string ex.sender) := B1.cell 3; have c1_4 : wc.cell? ⟨_, 4, none⟩ = some (.bool ex.hasKey) := B1.cell 4; have c1_5 : wc.cell? ⟨_, 5, none⟩ = some (.string ex.key) := B1.cell 5; clear hb)
                  | (at_builtin; refine wpl_append_fresh rfl (.tmp 32) (.tmp 36) _ rfl wb.heap.size 60 i0 (.agg #[.string ⟨#[]⟩, .string ⟨#[]⟩, .string ⟨#[]⟩]) 3 48 Try.underlying42 hi hz0 hz1 hz2 rfl (by decide) _ _ _ rfl (HOWN.out.alloc _) _ 1 _ _ (IBox.new _ _ _) rfl rfl (by simp [Value.oneCell']) (by unfold maxLen; omega) (by omega) (by have := HBB.size; simp; omega) ?_; intro v' w3 hown3 hb3; clear HOWN; have HOWN := Lib.hid hown3; clear hown3; replace HBB := (HBB.alloc HBB.size _).trans hb3; clear hb3; replace B1 := IBox.below HCE HBB (IBox.lt HCE); clear c1_1 c1_3 c1_4 c1_5; have c1_1 : w3.cell? ⟨_, 1, none⟩ = some (.string ex.ty) := B1.cell 1; have c1_3 : w3.cell? ⟨_, 3, none⟩ = some (.string ex.sender) := B1.cell 3; have c1_4 : w3.cell? ⟨_, 4, none⟩ = some (.bool ex.hasKey) := B1.cell 4; have c1_5 : w3.cell? ⟨_, 5, none⟩ = some (.string ex.key) := B1.cell 5)
                  | (at_builtin; refine wpl_append_fresh rfl (.tmp 28) (.tmp 30) _ rfl wb.heap.size 60 i0 (.agg #[.string ⟨#[]⟩, .string ⟨#[]⟩, .string ⟨#[]⟩]) 3 48 Try.underlying42 hi hz0 hz1 hz2 rfl (by decide) _ _ _ rfl (HOWN.out.alloc _) _ 1 _ _ (IBox.new _ _ _) rfl rfl (by simp [Value.oneCell']) (by unfold maxLen; omega) (by omega) (by have := HBB.size; simp; omega) ?_; intro v' w3 hown3 hb3; clear HOWN; have HOWN := Lib.hid hown3; clear hown3; replace HBB := (HBB.alloc HBB.size _).trans hb3; clear hb3; replace B1 := IBox.below HCE HBB (IBox.lt HCE); clear c1_1 c1_3 c1_4 c1_5; have c1_1 : w3.cell? ⟨_, 1, none⟩ = some (.string ex.ty) := B1.cell 1; have c1_3 : w3.cell? ⟨_, 3, none⟩ = some (.string ex.sender) := B1.cell 3; have c1_4 : w3.cell? ⟨_, 4, none⟩ = some (.bool ex.hasKey) := B1.cell 4; have c1_5 : w3.cell? ⟨_, 5, none⟩ = some (.string ex.key) := B1.cell 5)
                  | (at_builtin; refine wpl_append_fresh rfl (.tmp 52) (.tmp 56) _ rfl wb.heap.size 60 i0 (.agg #[.string ⟨#[]⟩, .string ⟨#[]⟩, .string ⟨#[]⟩]) 3 48 Try.underlying42 hi hz0 hz1 hz2 rfl (by decide) _ _ _ rfl (HOWN.out.alloc _) _ 1 _ _ (IBox.new _ _ _) rfl rfl (by simp [Value.oneCell']) (by unfold maxLen; omega) (by omega) (by have := HBB.size; simp; omega) ?_; intro v' w3 hown3 hb3; clear HOWN; have HOWN := Lib.hid hown3; clear hown3; replace HBB := (HBB.alloc HBB.size _).trans hb3; clear hb3; replace B1 := IBox.below HCE HBB (IBox.lt HCE); clear c1_1 c1_3 c1_4 c1_5; have c1_1 : w3.cell? ⟨_, 1, none⟩ = some (.string ex.ty) := B1.cell 1; have c1_3 : w3.cell? ⟨_, 3, none⟩ = some (.string ex.sender) := B1.cell 3; have c1_4 : w3.cell? ⟨_, 4, none⟩ = some (.bool ex.hasKey) := B1.cell 4; have c1_5 : w3.cell? ⟨_, 5, none⟩ = some (.string ex.key) := B1.cell 5))
            obtain ⟨A, c, rfl, hEE⟩ := own_entries (L := [(⟨#[109, 46, 114, 111, 111, 109, 46, 99, 114, 101, 97, 116, 101]⟩, ⟨#[]⟩), (⟨#[109, 46, 114, 111, 111, 109, 46, 112, 111, 119, 101, 114, 95, 108, 101, 118, 101, 108, 115]⟩, ⟨#[]⟩), (⟨#[109, 46, 114, 111, 111, 109, 46, 106, 111, 105, 110, 95, 114, 117, 108, 101, 115]⟩, ⟨#[]⟩), (⟨#[109, 46, 114, 111, 111, 109, 46, 109, 101, 109, 98, 101, 114]⟩, ex.sender)]) HOWN.out rfl
            go_ret
            exact ⟨A, c, rfl, hEE, HB.trans (HBB.mono HB.size)⟩
          · cases hS : (ex.key.toList == ex.sender.toList)
            · have hsel : selL ex = [(⟨#[109, 46, 114, 111, 111, 109, 46, 99, 114, 101, 97, 116, 101]⟩, ⟨#[]⟩), (⟨#[109, 46, 114, 111, 111, 109, 46, 112, 111, 119, 101, 114, 95, 108, 101, 118, 101, 108, 115]⟩, ⟨#[]⟩), (⟨#[109, 46, 114, 111, 111, 109, 46, 106, 111, 105, 110, 95, 114, 117, 108, 101, 115]⟩, ⟨#[]⟩), (⟨#[109, 46, 114, 111, 111, 109, 46, 109, 101, 109, 98, 101, 114]⟩, ex.sender), (⟨#[109, 46, 114, 111, 111, 109, 46, 109, 101, 109, 98, 101, 114]⟩, ex.key)] := by unfold selL selB1 selB2 isMemB; simp [hC, hM, hJ, hI, hK, hS]
              rw [hsel]
              have HC := Lib.hid hC
              clear hsel hC
              go_enter Try.func16, Try.ntmps16
              go_wp2_with (first
                    | (refine wpl_box_at rfl 32 (.tmp 0) rfl _ rfl ?_; intro w1 hw; have hb := hid_grow hw; have B1 := (hid_alloc hw).1; replace HB := HB.trans (hb.mono HB.size); replace HE := HE.below hb; clear hb hw)
                    | (refine wpl_load_box rfl 32 (.tmp 1) rfl _ rfl _ _ _ B1 Try.underlying32 rfl info_event ?_)
                    | (go_at_call 20; (with_reducible refine (is_any _ _ _ HE).mono ?_); rintro e wb ⟨rfl, hb⟩; replace HB := HB.trans (hb.mono HB.size); replace HE := HE.below hb; replace B1 := IBox.below B1 hb (IBox.lt B1); clear hb)
                    | (refine wpl_load_arr rfl 30 (.tmp 12) rfl _ 10 rfl _ _ (ev_content (B1.alloc _)) Try.underlying30 rfl info_value ?_)
                    | (go_at_call 33; (with_reducible refine (aword_any _ ⟨#[109, 101, 109, 98, 101, 114, 115, 104, 105, 112]⟩ _ (HE.below ((Below.refl _ _).alloc (Nat.le_refl _) _)).content).mono ?_); rintro e wc ⟨rfl, hb⟩; have HOWN := Lib.hid (own_start (base := wb.heap.size) (n := 2) (size := 3) (IBox.below (IBox.new wb _ _) hb (IBox.lt (IBox.new wb _ _))) (Nat.le_refl _) rfl (by unfold maxLen; omega)); have HBB := ((Below.refl wb.heap.size wb).alloc (Nat.le_refl _) _).trans (hb.mono (by simp)); have HCE := B1; replace B1 := IBox.below B1 HBB (IBox.lt B1); have c1_1 : wc.cell? ⟨_, 1, none⟩ = some (.string ex.ty) := B1.cell 1; have c1_3 : wc.cell? ⟨_, 3, none⟩ = some (.string ex.sender) := B1.cell 3; have c1_4 : wc.cell? ⟨_, 4, none⟩ = some (.bool ex.hasKey) := B1.cell 4; have c1_5 : wc.cell? ⟨_, 5, none⟩ = some (.string ex.key) := B1.cell 5; clear hb)
                    | (at_builtin; refine wpl_append_fresh rfl (.tmp 32) (.tmp 36) _ rfl wb.heap.size 60 i0 (.agg #[.string ⟨#[]⟩, .string ⟨#[]⟩, .string ⟨#[]⟩]) 3 48 Try.underlying42 hi hz0 hz1 hz2 rfl (by decide) _ _ _ rfl (HOWN.out.alloc _) _ 1 _ _ (IBox.new _ _ _) rfl rfl (by simp [Value.oneCell']) (by unfold maxLen; omega) (by omega) (by have := HBB.size; simp; omega) ?_; intro v' w3 hown3 hb3; clear HOWN; have HOWN := Lib.hid hown3; clear hown3; replace HBB := (HBB.alloc HBB.size _).trans hb3; clear hb3; replace B1 := IBox.below HCE HBB (IBox.lt HCE); clear c1_1 c1_3 c1_4 c1_5; have c1_1 : w3.cell? ⟨_, 1, none⟩ = some (.string ex.ty) := B1.cell 1; have c1_3 : w3.cell? ⟨_, 3, none⟩ = some (.string ex.sender) := B1.cell 3; have c1_4 : w3.cell? ⟨_, 4, none⟩ = some (.bool ex.hasKey) := B1.cell 4; have c1_5 : w3.cell? ⟨_, 5, none⟩ = some (.string ex.key) := B1.cell 5)
                    | (at_builtin; refine wpl_append_fresh rfl (.tmp 28) (.tmp 30) _ rfl wb.heap.size 60 i0 (.agg #[.string ⟨#[]⟩, .string ⟨#[]⟩, .string ⟨#[]⟩]) 3 48 Try.underlying42 hi hz0 hz1 hz2 rfl (by decide) _ _ _ rfl (HOWN.out.alloc _) _ 1 _ _ (IBox.new _ _ _) rfl rfl (by simp [Value.oneCell']) (by unfold maxLen; omega) (by omega) (by have := HBB.size; simp; omega) ?_; intro v' w3 hown3 hb3; clear HOWN; have HOWN := Lib.hid hown3; clear hown3; replace HBB := (HBB.alloc HBB.size _).trans hb3; clear hb3; replace B1 := IBox.below HCE HBB (IBox.lt HCE); clear c1_1 c1_3 c1_4 c1_5; have c1_1 : w3.cell? ⟨_, 1, none⟩ = some (.string ex.ty) := B1.cell 1; have c1_3 : w3.cell? ⟨_, 3, none⟩ = some (.string ex.sender) := B1.cell 3; have c1_4 : w3.cell? ⟨_, 4, none⟩ = some (.bool ex.hasKey) := B1.cell 4; have c1_5 : w3.cell? ⟨_, 5, none⟩ = some (.string ex.key) := B1.cell 5)
                    | (at_builtin; refine wpl_append_fresh rfl (.tmp 52) (.tmp 56) _ rfl wb.heap.size 60 i0 (.agg #[.string ⟨#[]⟩, .string ⟨#[]⟩, .string ⟨#[]⟩]) 3 48 Try.underlying42 hi hz0 hz1 hz2 rfl (by decide) _ _ _ rfl (HOWN.out.alloc _) _ 1 _ _ (IBox.new _ _ _) rfl rfl (by simp [Value.oneCell']) (by unfold maxLen; omega) (by omega) (by have := HBB.size; simp; omega) ?_; intro v' w3 hown3 hb3; clear HOWN; have HOWN := Lib.hid hown3; clear hown3; replace HBB := (HBB.alloc HBB.size _).trans hb3; clear hb3; replace B1 := IBox.below HCE HBB (IBox.lt HCE); clear c1_1 c1_3 c1_4 c1_5; have c1_1 : w3.cell? ⟨_, 1, none⟩ = some (.string ex.ty) := B1.cell 1; have c1_3 : w3.cell? ⟨_, 3, none⟩ = some (.string ex.sender) := B1.cell 3; have c1_4 : w3.cell? ⟨_, 4, none⟩ = some (.bool ex.hasKey) := B1.cell 4; have c1_5 : w3.cell? ⟨_, 5, none⟩ = some (.string ex.key) := B1.cell 5))
              obtain ⟨A, c, rfl, hEE⟩ := own_entries (L := [(⟨#[109, 46, 114, 111, 111, 109, 46, 99, 114, 101, 97, 116, 101]⟩, ⟨#[]⟩), (⟨#[109, 46, 114, 111, 111, 109, 46, 112, 111, 119, 101, 114, 95, 108, 101, 118, 101, 108, 115]⟩, ⟨#[]⟩), (⟨#[109, 46, 114, 111, 111, 109, 46, 106, 111, 105, 110, 95, 114, 117, 108, 101, 115]⟩, ⟨#[]⟩), (⟨#[109, 46, 114, 111, 111, 109, 46, 109, 101, 109, 98, 101, 114]⟩, ex.sender), (⟨#[109, 46, 114, 111, 111, 109, 46, 109, 101, 109, 98, 101, 114]⟩, ex.key)]) HOWN.out rfl
              go_ret
              exact ⟨A, c, rfl, hEE, HB.trans (HBB.mono HB.size)⟩
            · have hsel : selL ex = [(⟨#[109, 46, 114, 111, 111, 109, 46, 99, 114, 101, 97, 116, 101]⟩, ⟨#[]⟩), (⟨#[109, 46, 114, 111, 111, 109, 46, 112, 111, 119, 101, 114, 95, 108, 101, 118, 101, 108, 115]⟩, ⟨#[]⟩), (⟨#[109, 46, 114, 111, 111, 109, 46, 106, 111, 105, 110, 95, 114, 117, 108, 101, 115]⟩, ⟨#[]⟩), (⟨#[109, 46, 114, 111, 111, 109, 46, 109, 101, 109, 98, 101, 114]⟩, ex.sender)] := by unfold selL selB1 selB2 isMemB; simp [hC, hM, hJ, hI, hK, hS]
              rw [hsel]
              have HC := Lib.hid hC
              clear hsel hC
              go_enter Try.func16, Try.ntmps16
              go_wp2_with (first
                    | (refine wpl_box_at rfl 32 (.tmp 0) rfl _ rfl ?_; intro w1 hw; have hb := hid_grow hw; have B1 := (hid_alloc hw).1; replace HB := HB.trans (hb.mono HB.size); replace HE := HE.below hb; clear hb hw)
                    | (refine wpl_load_box rfl 32 (.tmp 1) rfl _ rfl _ _ _ B1 Try.underlying32 rfl info_event ?_)
                    | (go_at_call 20; (with_reducible refine (is_any _ _ _ HE).mono ?_); rintro e wb ⟨rfl, hb⟩; replace HB := HB.trans (hb.mono HB.size); replace HE := HE.below hb; replace B1 := IBox.below B1 hb (IBox.lt B1); clear hb)
                    | (refine wpl_load_arr rfl 30 (.tmp 12) rfl _ 10 rfl _ _ (ev_content (B1.alloc _)) Try.underlying30 rfl info_value ?_)
                    | (go_at_call 33; (with_reducible refine (aword_any _ ⟨#[109, 101, 109, 98, 101, 114, 115, 104, 105, 112]⟩ _ (HE.below ((Below.refl _ _).alloc (Nat.le_refl _) _)).content).mono ?_); rintro e wc ⟨rfl, hb⟩; have HOWN := Lib.hid (own_start (base := wb.heap.size) (n := 2) (size := 3) (IBox.below (IBox.new wb _ _) hb (IBox.lt (IBox.new wb _ _))) (Nat.le_refl _) rfl (by unfold maxLen; omega)); have HBB := ((Below.refl wb.heap.size wb).alloc (Nat.le_refl _) _).trans (hb.mono (by simp)); have HCE := B1; replace B1 := IBox.below B1 HBB (IBox.lt B1); have c1_1 : wc.cell? ⟨_, 1, none⟩ = some (.string ex.ty) := B1.cell 1; have c1_3 : wc.cell? ⟨_, 3, none⟩ = some (.string ex.sender) := B1.cell 3; have c1_4 : wc.cell? ⟨_, 4, none⟩ = some (.bool ex.hasKey) := B1.cell 4; have c1_5 : wc.cell? ⟨_, 5, none⟩ = some (.string ex.key) := B1.cell 5; clear hb)
                    | (at_builtin; refine wpl_append_fresh rfl (.tmp 32) (.tmp 36) _ rfl wb.heap.size 60 i0 (.agg #[.string ⟨#[]⟩, .string ⟨#[]⟩, .string ⟨#[]⟩]) 3 48 Try.underlying42 hi hz0 hz1 hz2 rfl (by decide) _ _ _ rfl (HOWN.out.alloc _) _ 1 _ _ (IBox.new _ _ _) rfl rfl (by simp [Value.oneCell']) (by unfold maxLen; omega) (by omega) (by have := HBB.size; simp; omega) ?_; intro v' w3 hown3 hb3; clear HOWN; have HOWN := Lib.hid hown3; clear hown3; replace HBB := (HBB.alloc HBB.size _).trans hb3; clear hb3; replace B1 := IBox.below HCE HBB (IBox.lt HCE); clear c1_1 c1_3 c1_4 c1_5; have c1_1 : w3.cell? ⟨_, 1, none⟩ = some (.string ex.ty) := B1.cell 1; have c1_3 : w3.cell? ⟨_, 3, none⟩ = some (.string ex.sender) := B1.cell 3; have c1_4 : w3.cell? ⟨_, 4, none⟩ = some (.bool ex.hasKey) := B1.cell 4; have c1_5 : w3.cell? ⟨_, 5, none⟩ = some (.string ex.key) := B1.cell 5)
                    | (at_builtin; refine wpl_append_fresh rfl (.tmp 28) (.tmp 30) _ rfl wb.heap.size 60 i0 (.agg #[.string ⟨#[]⟩, .string ⟨#[]⟩, .string ⟨#[]⟩]) 3 48 Try.underlying42 hi hz0 hz1 hz2 rfl (by decide) _ _ _ rfl (HOWN.out.alloc _) _ 1 _ _ (IBox.new _ _ _) rfl rfl (by simp [Value.oneCell']) (by unfold maxLen; omega) (by omega) (by have := HBB.size; simp; omega) ?_; intro v' w3 hown3 hb3; clear HOWN; have HOWN := Lib.hid hown3; clear hown3; replace HBB := (HBB.alloc HBB.size _).trans hb3; clear hb3; replace B1 := IBox.below HCE HBB (IBox.lt HCE); clear c1_1 c1_3 c1_4 c1_5; have c1_1 : w3.cell? ⟨_, 1, none⟩ = some (.string ex.ty) := B1.cell 1; have c1_3 : w3.cell? ⟨_, 3, none⟩ = some (.string ex.sender) := B1.cell 3; have c1_4 : w3.cell? ⟨_, 4, none⟩ = some (.bool ex.hasKey) := B1.cell 4; have c1_5 : w3.cell? ⟨_, 5, none⟩ = some (.string ex.key) := B1.cell 5)
                    | (at_builtin; refine wpl_append_fresh rfl (.tmp 52) (.tmp 56) _ rfl wb.heap.size 60 i0 (.agg #[.string ⟨#[]⟩, .string ⟨#[]⟩, .string ⟨#[]⟩]) 3 48 Try.underlying42 hi hz0 hz1 hz2 rfl (by decide) _ _ _ rfl (HOWN.out.alloc _) _ 1 _ _ (IBox.new _ _ _) rfl rfl (by simp [Value.oneCell']) (by unfold maxLen; omega) (by omega) (by have := HBB.size; simp; omega) ?_; intro v' w3 hown3 hb3; clear HOWN; have HOWN := Lib.hid hown3; clear hown3; replace HBB := (HBB.alloc HBB.size _).trans hb3; clear hb3; replace B1 := IBox.below HCE HBB (IBox.lt HCE); clear c1_1 c1_3 c1_4 c1_5; have c1_1 : w3.cell? ⟨_, 1, none⟩ = some (.string ex.ty) := B1.cell 1; have c1_3 : w3.cell? ⟨_, 3, none⟩ = some (.string ex.sender) := B1.cell 3; have c1_4 : w3.cell? ⟨_, 4, none⟩ = some (.bool ex.hasKey) := B1.cell 4; have c1_5 : w3.cell? ⟨_, 5, none⟩ = some (.string ex.key) := B1.cell 5))
              obtain ⟨A, c, rfl, hEE⟩ := own_entries (L := [(⟨#[109, 46, 114, 111, 111, 109, 46, 99, 114, 101, 97, 116, 101]⟩, ⟨#[]⟩), (⟨#[109, 46, 114, 111, 111, 109, 46, 112, 111, 119, 101, 114, 95, 108, 101, 118, 101, 108, 115]⟩, ⟨#[]⟩), (⟨#[109, 46, 114, 111, 111, 109, 46, 106, 111, 105, 110, 95, 114, 117, 108, 101, 115]⟩, ⟨#[]⟩), (⟨#[109, 46, 114, 111, 111, 109, 46, 109, 101, 109, 98, 101, 114]⟩, ex.sender)]) HOWN.out rfl
              go_ret
              exact ⟨A, c, rfl, hEE, HB.trans (HBB.mono HB.size)⟩
      · cases hK : ex.hasKey
        · have hsel : selL ex = [(⟨#[109, 46, 114, 111, 111, 109, 46, 99, 114, 101, 97, 116, 101]⟩, ⟨#[]⟩), (⟨#[109, 46, 114, 111, 111, 109, 46, 112, 111, 119, 101, 114, 95, 108, 101, 118, 101, 108, 115]⟩, ⟨#[]⟩), (⟨#[109, 46, 114, 111, 111, 109, 46, 106, 111, 105, 110, 95, 114, 117, 108, 101, 115]⟩, ⟨#[]⟩), (⟨#[109, 46, 114, 111, 111, 109, 46, 109, 101, 109, 98, 101, 114]⟩, ex.sender)] := by unfold selL selB1 selB2 isMemB; simp [hC, hM, hJ, hK]
          rw [hsel]
          have HC := Lib.hid hC
          clear hsel hC
          go_enter Try.func16, Try.ntmps16
          go_wp2_with (first
                | (refine wpl_box_at rfl 32 (.tmp 0) rfl _ rfl ?_; intro w1 hw; have hb := hid_grow hw; have B1 := (hid_alloc hw).1; replace HB := HB.trans (hb.mono HB.size); replace HE := HE.below hb; clear hb hw)
                | (refine wpl_load_box rfl 32 (.tmp 1) rfl _ rfl _ _ _ B1 Try.underlying32 rfl info_event ?_)
                | (go_at_call 20; (with_reducible refine (is_any _ _ _ HE).mono ?_); rintro e wb ⟨rfl, hb⟩; replace HB := HB.trans (hb.mono HB.size); replace HE := HE.below hb; replace B1 := IBox.below B1 hb (IBox.lt B1); clear hb)
                | (refine wpl_load_arr rfl 30 (.tmp 12) rfl _ 10 rfl _ _ (ev_content (B1.alloc _)) Try.underlying30 rfl info_value ?_)
                | (go_at_call 33; (with_reducible refine (aword_any _ ⟨#[109, 101, 109, 98, 101, 114, 115, 104, 105, 112]⟩ _ (HE.below ((Below.refl _ _).alloc (Nat.le_refl _) _)).content).mono ?_); rintro e wc ⟨rfl, hb⟩; have HOWN := Lib.hid (own_start (base := wb.heap.size) (n := 2) (size := 3) (IBox.below (IBox.new wb _ _) hb (IBox.lt (IBox.new wb _ _))) (Nat.le_refl _) rfl (by unfold maxLen; omega)); have HBB := ((Below.refl wb.heap.size wb).alloc (Nat.le_refl _) _).trans (hb.mono (by simp)); have HCE := B1; replace B1 := IBox.below B1 HBB (IBox.lt B1); have c1_1 : wc.cell? ⟨_, 1, none⟩ = some (.string ex.ty) := B1.cell 1; have c1_3 : wc.cell? ⟨_, 3, none⟩ = some (.string ex.sender) := B1.cell 3; have c1_4 : wc.cell? ⟨_, 4, none⟩ = some (.bool ex.hasKey) := B1.cell 4; have c1_5 : wc.cell? ⟨_, 5, none⟩ = some (.string ex.key) := B1.cell 5; clear hb)
                | (at_builtin; refine wpl_append_fresh rfl (.tmp 32) (.tmp 36) _ rfl wb.heap.size 60 i0 (.agg #[.string ⟨#[]⟩, .string ⟨#[]⟩, .string ⟨#[]⟩]) 3 48 Try.underlying42 hi hz0 hz1 hz2 rfl (by decide) _ _ _ rfl (HOWN.out.alloc _) _ 1 _ _ (IBox.new _ _ _) rfl rfl (by simp [Value.oneCell']) (by unfold maxLen; omega) (by omega) (by have := HBB.size; simp; omega) ?_; intro v' w3 hown3 hb3; clear HOWN; have HOWN := Lib.hid hown3; clear hown3; replace HBB := (HBB.alloc HBB.size _).trans hb3; clear hb3; replace B1 := IBox.below HCE HBB (IBox.lt HCE); clear c1_1 c1_3 c1_4 c1_5; have c1_1 : w3.cell? ⟨_, 1, none⟩ = some (.string ex.ty) := B1.cell 1; have c1_3 : w3.cell? ⟨_, 3, none⟩ = some (.string ex.sender) := B1.cell 3; have c1_4 : w3.cell? ⟨_, 4, none⟩ = some (.bool ex.hasKey) := B1.cell 4; have c1_5 : w3.cell? ⟨_, 5, none⟩ = some (.string ex.key) := B1.cell 5)
                | (at_builtin; refine wpl_append_fresh rfl (.tmp 28) (.tmp 30) _ rfl wb.heap.size 60 i0 (.agg #[.string ⟨#[]⟩, .string ⟨#[]⟩, .string ⟨#[]⟩]) 3 48 Try.underlying42 hi hz0 hz1 hz2 rfl (by decide) _ _ _ rfl (HOWN.out.alloc _) _ 1 _ _ (IBox.new _ _ _) rfl rfl (by simp [Value.oneCell']) (by unfold maxLen; omega) (by omega) (by have := HBB.size; simp; omega) ?_; intro v' w3 hown3 hb3; clear HOWN; have HOWN := Lib.hid hown3; clear hown3; replace HBB := (HBB.alloc HBB.size _).trans hb3; clear hb3; replace B1 := IBox.below HCE HBB (IBox.lt HCE); clear c1_1 c1_3 c1_4 c1_5; have c1_1 : w3.cell? ⟨_, 1, none⟩ = some (.string ex.ty) := B1.cell 1; have c1_3 : w3.cell? ⟨_, 3, none⟩ = some (.string ex.sender) := B1.cell 3; have c1_4 : w3.cell? ⟨_, 4, none⟩ = some (.bool ex.hasKey) := B1.cell 4; have c1_5 : w3.cell? ⟨_, 5, none⟩ = some (.string ex.key) := B1.cell 5)
                | (at_builtin; refine wpl_append_fresh rfl (.tmp 52) (.tmp 56) _ rfl wb.heap.size 60 i0 (.agg #[.string ⟨#[]⟩, .string ⟨#[]⟩, .string ⟨#[]⟩]) 3 48 Try.underlying42 hi hz0 hz1 hz2 rfl (by decide) _ _ _ rfl (HOWN.out.alloc _) _ 1 _ _ (IBox.new _ _ _) rfl rfl (by simp [Value.oneCell']) (by unfold maxLen; omega) (by omega) (by have := HBB.size; simp; omega) ?_; intro v' w3 hown3 hb3; clear HOWN; have HOWN := Lib.hid hown3; clear hown3; replace HBB := (HBB.alloc HBB.size _).trans hb3; clear hb3; replace B1 := IBox.below HCE HBB (IBox.lt HCE); clear c1_1 c1_3 c1_4 c1_5; have c1_1 : w3.cell? ⟨_, 1, none⟩ = some (.string ex.ty) := B1.cell 1; have c1_3 : w3.cell? ⟨_, 3, none⟩ = some (.string ex.sender) := B1.cell 3; have c1_4 : w3.cell? ⟨_, 4, none⟩ = some (.bool ex.hasKey) := B1.cell 4; have c1_5 : w3.cell? ⟨_, 5, none⟩ = some (.string ex.key) := B1.cell 5))
          obtain ⟨A, c, rfl, hEE⟩ := own_entries (L := [(⟨#[109, 46, 114, 111, 111, 109, 46, 99, 114, 101, 97, 116, 101]⟩, ⟨#[]⟩), (⟨#[109, 46, 114, 111, 111, 109, 46, 112, 111, 119, 101, 114, 95, 108, 101, 118, 101, 108, 115]⟩, ⟨#[]⟩), (⟨#[109, 46, 114, 111, 111, 109, 46, 106, 111, 105, 110, 95, 114, 117, 108, 101, 115]⟩, ⟨#[]⟩), (⟨#[109, 46, 114, 111, 111, 109, 46, 109, 101, 109, 98, 101, 114]⟩, ex.sender)]) HOWN.out rfl
          go_ret
          exact ⟨A, c, rfl, hEE, HB.trans (HBB.mono HB.size)⟩
        · cases hS : (ex.key.toList == ex.sender.toList)
          · have hsel : selL ex = [(⟨#[109, 46, 114, 111, 111, 109, 46, 99, 114, 101, 97, 116, 101]⟩, ⟨#[]⟩), (⟨#[109, 46, 114, 111, 111, 109, 46, 112, 111, 119, 101, 114, 95, 108, 101, 118, 101, 108, 115]⟩, ⟨#[]⟩), (⟨#[109, 46, 114, 111, 111, 109, 46, 106, 111, 105, 110, 95, 114, 117, 108, 101, 115]⟩, ⟨#[]⟩), (⟨#[109, 46, 114, 111, 111, 109, 46, 109, 101, 109, 98, 101, 114]⟩, ex.sender), (⟨#[109, 46, 114, 111, 111, 109, 46, 109, 101, 109, 98, 101, 114]⟩, ex.key)] := by unfold selL selB1 selB2 isMemB; simp [hC, hM, hJ, hK, hS]
            rw [hsel]
            have HC := Lib.hid hC
            clear hsel hC
            go_enter Try.func16, Try.ntmps16
            go_wp2_with (first
                  | (refine wpl_box_at rfl 32 (.tmp 0) rfl _ rfl ?_; intro w1 hw; have hb := hid_grow hw; have B1 := (hid_alloc hw).1; replace HB := HB.trans (hb.mono HB.size); replace HE := HE.below hb; clear hb hw)
                  | (refine wpl_load_box rfl 32 (.tmp 1) rfl _ rfl _ _ _ B1 Try.underlying32 rfl info_event ?_)
                  | (go_at_call 20; (with_reducible refine (is_any _ _ _ HE).mono ?_); rintro e wb ⟨rfl, hb⟩; replace HB := HB.trans (hb.mono HB.size); replace HE := HE.below hb; replace B1 := IBox.below B1 hb (IBox.lt B1); clear hb)
                  | (refine wpl_load_arr rfl 30 (.tmp 12) rfl _ 10 rfl _ _ (ev_content (B1.alloc _)) Try.underlying30 rfl info_value ?_)
                  | (go_at_call 33; (with_reducible refine (aword_any _ ⟨#[109, 101, 109, 98, 101, 114, 115, 104, 105, 112]⟩ _ (HE.below ((Below.refl _ _).alloc (Nat.le_refl _) _)).content).mono ?_); rintro e wc ⟨rfl, hb⟩; have HOWN := Lib.hid (own_start (base := wb.heap.size) (n := 2) (size := 3) (IBox.below (IBox.new wb _ _) hb (IBox.lt (IBox.new wb _ _))) (Nat.le_refl _) rfl (by unfold maxLen; omega)); have HBB := ((Below.refl wb.heap.size wb).alloc (Nat.le_refl _) _).trans (hb.mono (by simp)); have HCE := B1; replace B1 := IBox.below B1 HBB (IBox.lt B1); have c1_1 : wc.cell? ⟨_, 1, none⟩ = some (.string ex.ty) := B1.cell 1; have c1_3 : wc.cell? ⟨_, 3, none⟩ = some (.string ex.sender) := B1.cell 3; have c1_4 : wc.cell? ⟨_, 4, none⟩ = some (.bool ex.hasKey) := B1.cell 4; have c1_5 : wc.cell? ⟨_, 5, none⟩ = some (.string ex.key) := B1.cell 5; clear hb)
                  | (at_builtin; refine wpl_append_fresh rfl (.tmp 32) (.tmp 36) _ rfl wb.heap.size 60 i0 (.agg #[.string ⟨#[]⟩, .string ⟨#[]⟩, .string ⟨#[]⟩]) 3 48 Try.underlying42 hi hz0 hz1 hz2 rfl (by decide) _ _ _ rfl (HOWN.out.alloc _) _ 1 _ _ (IBox.new _ _ _) rfl rfl (by simp [Value.oneCell']) (by unfold maxLen; omega) (by omega) (by have := HBB.size; simp; omega) ?_; intro v' w3 hown3 hb3; clear HOWN; have HOWN := Lib.hid hown3; clear hown3; replace HBB := (HBB.alloc HBB.size _).trans hb3; clear hb3; replace B1 := IBox.below HCE HBB (IBox.lt HCE); clear c1_1 c1_3 c1_4 c1_5; have c1_1 : w3.cell? ⟨_, 1, none⟩ = some (.string ex.ty) := B1.cell 1; have c1_3 : w3.cell? ⟨_, 3, none⟩ = some (.string ex.sender) := B1.cell 3; have c1_4 : w3.cell? ⟨_, 4, none⟩ = some (.bool ex.hasKey) := B1.cell 4; have c1_5 : w3.cell? ⟨_, 5, none⟩ = some (.string ex.key) := B1.cell 5)
                  | (at_builtin; refine wpl_append_fresh rfl (.tmp 28) (.tmp 30) _ rfl wb.heap.size 60 i0 (.agg #[.string ⟨#[]⟩, .string ⟨#[]⟩, .string ⟨#[]⟩]) 3 48 Try.underlying42 hi hz0 hz1 hz2 rfl (by decide) _ _ _ rfl (HOWN.out.alloc _) _ 1 _ _ (IBox.new _ _ _) rfl rfl (by simp [Value.oneCell']) (by unfold maxLen; omega) (by omega) (by have := HBB.size; simp; omega) ?_; intro v' w3 hown3 hb3; clear HOWN; have HOWN := Lib.hid hown3; clear hown3; replace HBB := (HBB.alloc HBB.size _).trans hb3; clear hb3; replace B1 := IBox.below HCE HBB (IBox.lt HCE); clear c1_1 c1_3 c1_4 c1_5; have c1_1 : w3.cell? ⟨_, 1, none⟩ = some (.string ex.ty) := B1.cell 1; have c1_3 : w3.cell? ⟨_, 3, none⟩ = some (.string ex.sender) := B1.cell 3; have c1_4 : w3.cell? ⟨_, 4, none⟩ = some (.bool ex.hasKey) := B1.cell 4; have c1_5 : w3.cell? ⟨_, 5, none⟩ = some (.string ex.key) := B1.cell 5)
                  | (at_builtin; refine wpl_append_fresh rfl (.tmp 52) (.tmp 56) _ rfl wb.heap.size 60 i0 (.agg #[.string ⟨#[]⟩, .string ⟨#[]⟩, .string ⟨#[]⟩]) 3 48 Try.underlying42 hi hz0 hz1 hz2 rfl (by decide) _ _ _ rfl (HOWN.out.alloc _) _ 1 _ _ (IBox.new _ _ _) rfl rfl (by simp [Value.oneCell']) (by unfold maxLen; omega) (by omega) (by have := HBB.size; simp; omega) ?_; intro v' w3 hown3 hb3; clear HOWN; have HOWN := Lib.hid hown3; clear hown3; replace HBB := (HBB.alloc HBB.size _).trans hb3; clear hb3; replace B1 := IBox.below HCE HBB (IBox.lt HCE); clear c1_1 c1_3 c1_4 c1_5; have c1_1 : w3.cell? ⟨_, 1, none⟩ = some (.string ex.ty) := B1.cell 1; have c1_3 : w3.cell? ⟨_, 3, none⟩ = some (.string ex.sender) := B1.cell 3; have c1_4 : w3.cell? ⟨_, 4, none⟩ = some (.bool ex.hasKey) := B1.cell 4; have c1_5 : w3.cell? ⟨_, 5, none⟩ = some (.string ex.key) := B1.cell 5))
            obtain ⟨A, c, rfl, hEE⟩ := own_entries (L := [(⟨#[109, 46, 114, 111, 111, 109, 46, 99, 114, 101, 97, 116, 101]⟩, ⟨#[]⟩), (⟨#[109, 46, 114, 111, 111, 109, 46, 112, 111, 119, 101, 114, 95, 108, 101, 118, 101, 108, 115]⟩, ⟨#[]⟩), (⟨#[109, 46, 114, 111, 111, 109, 46, 106, 111, 105, 110, 95, 114, 117, 108, 101, 115]⟩, ⟨#[]⟩), (⟨#[109, 46, 114, 111, 111, 109, 46, 109, 101, 109, 98, 101, 114]⟩, ex.sender), (⟨#[109, 46, 114, 111, 111, 109, 46, 109, 101, 109, 98, 101, 114]⟩, ex.key)]) HOWN.out rfl
            go_ret
            exact ⟨A, c, rfl, hEE, HB.trans (HBB.mono HB.size)⟩
          · have hsel : selL ex = [(⟨#[109, 46, 114, 111, 111, 109, 46, 99, 114, 101, 97, 116, 101]⟩, ⟨#[]⟩), (⟨#[109, 46, 114, 111, 111, 109, 46, 112, 111, 119, 101, 114, 95, 108, 101, 118, 101, 108, 115]⟩, ⟨#[]⟩), (⟨#[109, 46, 114, 111, 111, 109, 46, 106, 111, 105, 110, 95, 114, 117, 108, 101, 115]⟩, ⟨#[]⟩), (⟨#[109, 46, 114, 111, 111, 109, 46, 109, 101, 109, 98, 101, 114]⟩, ex.sender)] := by unfold selL selB1 selB2 isMemB; simp [hC, hM, hJ, hK, hS]
            rw [hsel]
            have HC := Lib.hid hC
            clear hsel hC
            go_enter Try.func16, Try.ntmps16
            go_wp2_with (first
                  | (refine wpl_box_at rfl 32 (.tmp 0) rfl _ rfl ?_; intro w1 hw; have hb := hid_grow hw; have B1 := (hid_alloc hw).1; replace HB := HB.trans (hb.mono HB.size); replace HE := HE.below hb; clear hb hw)
                  | (refine wpl_load_box rfl 32 (.tmp 1) rfl _ rfl _ _ _ B1 Try.underlying32 rfl info_event ?_)
                  | (go_at_call 20; (with_reducible refine (is_any _ _ _ HE).mono ?_); rintro e wb ⟨rfl, hb⟩; replace HB := HB.trans (hb.mono HB.size); replace HE := HE.below hb; replace B1 := IBox.below B1 hb (IBox.lt B1); clear hb)
                  | (refine wpl_load_arr rfl 30 (.tmp 12) rfl _ 10 rfl _ _ (ev_content (B1.alloc _)) Try.underlying30 rfl info_value ?_)
                  | (go_at_call 33; (with_reducible refine (aword_any _ ⟨#[109, 101, 109, 98, 101, 114, 115, 104, 105, 112]⟩ _ (HE.below ((Below.refl _ _).alloc (Nat.le_refl _) _)).content).mono ?_); rintro e wc ⟨rfl, hb⟩; have HOWN := Lib.hid (own_start (base := wb.heap.size) (n := 2) (size := 3) (IBox.below (IBox.new wb _ _) hb (IBox.lt (IBox.new wb _ _))) (Nat.le_refl _) rfl (by unfold maxLen; omega)); have HBB := ((Below.refl wb.heap.size wb).alloc (Nat.le_refl _) _).trans (hb.mono (by simp)); have HCE := B1; replace B1 := IBox.below B1 HBB (IBox.lt B1); have c1_1 : wc.cell? ⟨_, 1, none⟩ = some (.string ex.ty) := B1.cell 1; have c1_3 : wc.cell? ⟨_, 3, none⟩ = some (.string ex.sender) := B1.cell 3; have c1_4 : wc.cell? ⟨_, 4, none⟩ = some (.bool ex.hasKey) := B1.cell 4; have c1_5 : wc.cell? ⟨_, 5, none⟩ = some (.string ex.key) := B1.cell 5; clear hb)
                  | (at_builtin; refine wpl_append_fresh rfl (.tmp 32) (.tmp 36) _ rfl wb.heap.size 60 i0 (.agg #[.string ⟨#[]⟩, .string ⟨#[]⟩, .string ⟨#[]⟩]) 3 48 Try.underlying42 hi hz0 hz1 hz2 rfl (by decide) _ _ _ rfl (HOWN.out.alloc _) _ 1 _ _ (IBox.new _ _ _) rfl rfl (by simp [Value.oneCell']) (by unfold maxLen; omega) (by omega) (by have := HBB.size; simp; omega) ?_; intro v' w3 hown3 hb3; clear HOWN; have HOWN := Lib.hid hown3; clear hown3; replace HBB := (HBB.alloc HBB.size _).trans hb3; clear hb3; replace B1 := IBox.below HCE HBB (IBox.lt HCE); clear c1_1 c1_3 c1_4 c1_5; have c1_1 : w3.cell? ⟨_, 1, none⟩ = some (.string ex.ty) := B1.cell 1; have c1_3 : w3.cell? ⟨_, 3, none⟩ = some (.string ex.sender) := B1.cell 3; have c1_4 : w3.cell? ⟨_, 4, none⟩ = some (.bool ex.hasKey) := B1.cell 4; have c1_5 : w3.cell? ⟨_, 5, none⟩ = some (.string ex.key) := B1.cell 5)
                  | (at_builtin; refine wpl_append_fresh rfl (.tmp 28) (.tmp 30) _ rfl wb.heap.size 60 i0 (.agg #[.string ⟨#[]⟩, .string ⟨#[]⟩, .string ⟨#[]⟩]) 3 48 Try.underlying42 hi hz0 hz1 hz2 rfl (by decide) _ _ _ rfl (HOWN.out.alloc _) _ 1 _ _ (IBox.new _ _ _) rfl rfl (by simp [Value.oneCell']) (by unfold maxLen; omega) (by omega) (by have := HBB.size; simp; omega) ?_; intro v' w3 hown3 hb3; clear HOWN; have HOWN := Lib.hid hown3; clear hown3; replace HBB := (HBB.alloc HBB.size _).trans hb3; clear hb3; replace B1 := IBox.below HCE HBB (IBox.lt HCE); clear c1_1 c1_3 c1_4 c1_5; have c1_1 : w3.cell? ⟨_, 1, none⟩ = some (.string ex.ty) := B1.cell 1; have c1_3 : w3.cell? ⟨_, 3, none⟩ = some (.string ex.sender) := B1.cell 3; have c1_4 : w3.cell? ⟨_, 4, none⟩ = some (.bool ex.hasKey) := B1.cell 4; have c1_5 : w3.cell? ⟨_, 5, none⟩ = some (.string ex.key) := B1.cell 5)
                  | (at_builtin; refine wpl_append_fresh rfl (.tmp 52) (.tmp 56) _ rfl wb.heap.size 60 i0 (.agg #[.string ⟨#[]⟩, .string ⟨#[]⟩, .string ⟨#[]⟩]) 3 48 Try.underlying42 hi hz0 hz1 hz2 rfl (by decide) _ _ _ rfl (HOWN.out.alloc _) _ 1 _ _ (IBox.new _ _ _) rfl rfl (by simp [Value.oneCell']) (by unfold maxLen; omega) (by omega) (by have := HBB.size; simp; omega) ?_; intro v' w3 hown3 hb3; clear HOWN; have HOWN := Lib.hid hown3; clear hown3; replace HBB := (HBB.alloc HBB.size _).trans hb3; clear hb3; replace B1 := IBox.below HCE HBB (IBox.lt HCE); clear c1_1 c1_3 c1_4 c1_5; have c1_1 : w3.cell? ⟨_, 1, none⟩ = some (.string ex.ty) := B1.cell 1; have c1_3 : w3.cell? ⟨_, 3, none⟩ = some (.string ex.sender) := B1.cell 3; have c1_4 : w3.cell? ⟨_, 4, none⟩ = some (.bool ex.hasKey) := B1.cell 4; have c1_5 : w3.cell? ⟨_, 5, none⟩ = some (.string ex.key) := B1.cell 5))
            obtain ⟨A, c, rfl, hEE⟩ := own_entries (L := [(⟨#[109, 46, 114, 111, 111, 109, 46, 99, 114, 101, 97, 116, 101]⟩, ⟨#[]⟩), (⟨#[109, 46, 114, 111, 111, 109, 46, 112, 111, 119, 101, 114, 95, 108, 101, 118, 101, 108, 115]⟩, ⟨#[]⟩), (⟨#[109, 46, 114, 111, 111, 109, 46, 106, 111, 105, 110, 95, 114, 117, 108, 101, 115]⟩, ⟨#[]⟩), (⟨#[109, 46, 114, 111, 111, 109, 46, 109, 101, 109, 98, 101, 114]⟩, ex.sender)]) HOWN.out rfl
            go_ret
            exact ⟨A, c, rfl, hEE, HB.trans (HBB.mono HB.size)⟩
  · have hsel : selL ex = [] := by unfold selL; simp [hC]
    rw [hsel]
    have hC2 : isB ex ⟨#[109, 46, 114, 111, 111, 109, 46, 99, 114, 101, 97, 116, 101]⟩ = true := hC
    go_enter Try.func16, Try.ntmps16
    go_wp2_with (first
        | (refine wpl_box_at rfl 32 (.tmp 0) rfl _ rfl ?_; intro w1 hw; have hb := hid_grow hw; have B1 := (hid_alloc hw).1; replace HB := HB.trans (hb.mono HB.size); replace HE := HE.below hb; clear hb hw)
        | (refine wpl_load_box rfl 32 (.tmp 1) rfl _ rfl _ _ _ B1 Try.underlying32 rfl info_event ?_)
        | (go_at_call 20; (with_reducible refine (is_any _ _ _ HE).mono ?_); rintro e wb ⟨rfl, hb⟩; replace HB := HB.trans (hb.mono HB.size); replace HE := HE.below hb; replace B1 := IBox.below B1 hb (IBox.lt B1); clear hb))
    go_ret
    exact ⟨none, 0, rfl, (fun j p hj => by simp at hj), HB⟩
end Go.Proofs.Ytpmdpfgaafaceaa
