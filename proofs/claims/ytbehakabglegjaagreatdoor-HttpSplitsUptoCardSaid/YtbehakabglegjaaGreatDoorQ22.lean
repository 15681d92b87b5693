/- Layer 9: the target of some parts. -/
import Derived.Test.YtbehakabglegjaaGreatDoorQ21
import Derived.Test.YtbehakabglegjaaGreatDoorQ19
namespace Go.Proofs.YtbehakabglegjaaGreatDoor
open Go.RowKit Go.PlainAid
set_option linter.unusedVariables false
set_option linter.unusedSimpArgs false
/-- Texts that can be read. -/
def TxAt (w : World) (v : Value) (l : List ByteArray) : Prop := ∃ A c, v = .slice A l.length c ∧ ∀ i s, l[i]? = some s → ∃ b off, A = some ⟨b, off, none⟩ ∧ w.cell? ⟨b, off + i, none⟩ = some (.string s)
theorem TxAt.below {w w' : World} {v : Value} {l : List ByteArray} (h : TxAt w v l) (hb : Below w.heap.size w w') : TxAt w' v l := by
  obtain ⟨A, c, hv, hc⟩ := h
  refine ⟨A, c, hv, fun i s hi => ?_⟩
  obtain ⟨b, off, hA, h1⟩ := hc i s hi
  exact ⟨b, off, hA, cell_later hb h1⟩
theorem tx_own {w : World} {base : Nat} {v : Value} {l : List ByteArray} (h : OwnT w base v l) : TxAt w v l := by
  obtain ⟨A, c, rfl, hc⟩ := own_slice h
  refine ⟨A, c, rfl, fun i s hi => ?_⟩
  obtain ⟨b, rfl, h1⟩ := hc i (.string s) (by unfold txL; rw [List.getElem?_map, hi]; rfl)
  exact ⟨b, 0, rfl, by rw [Nat.zero_add]; exact h1⟩
theorem pm_own {w : World} {base : Nat} {v : Value} {l : List (ByteArray × ByteArray)} (h : OwnP w base v l) : HdAt w v l := by
  obtain ⟨A, c, rfl, hc⟩ := own_slice h
  refine ⟨A, c, rfl, fun i p hi => ?_⟩
  obtain ⟨h1, h2⟩ := hdsL_get hi
  obtain ⟨b, rfl, k1⟩ := hc _ _ h1
  obtain ⟨b2, e2, k2⟩ := hc _ _ h2
  obtain rfl : b = b2 := by injection e2 with e; injection e
  exact ⟨b, 0, rfl, by rw [Nat.zero_add]; exact k1, by rw [Nat.zero_add]; exact k2⟩
theorem pathL_snoc (l : List ByteArray) (p : ByteArray) : pathL (l ++ [p]) = pathL l ++ (if l = [] then escL p else 47 :: escL p) := by
  cases l with
  | nil => simp [pathL]
  | cons a r => simp [pathL]
theorem queryL_snoc (l : List (ByteArray × ByteArray)) (p : ByteArray × ByteArray) : queryL (l ++ [p]) = queryL l ++ (if l = [] then 63 else 38) :: parmL p := by
  cases l with
  | nil => simp [queryL]
  | cons a r => simp [queryL]
def pSz (p : ByteArray) : Nat := 3 * p.size + 1
def qSz (p : ByteArray × ByteArray) : Nat := 3 * p.1.size + 3 * p.2.size + 2
theorem escL_le (p : ByteArray) : (escL p).length ≤ 3 * p.size := esc_len (bl p)
theorem pathL_le (l : List ByteArray) : (pathL l).length ≤ (l.map pSz).sum := by
  cases l with
  | nil => exact Nat.le_refl _
  | cons a r =>
    have h : ∀ r : List ByteArray, (r.flatMap fun q => 47 :: escL q).length ≤ (r.map pSz).sum := by
      intro r
      induction r with
      | nil => exact Nat.le_refl _
      | cons b r ih =>
        rw [List.flatMap_cons, List.length_append, List.length_cons, List.map_cons, List.sum_cons]
        have := escL_le b
        unfold pSz
        unfold pSz at ih
        omega
    have h1 := h r
    have h2 := escL_le a
    unfold pathL
    rw [List.length_append, List.map_cons, List.sum_cons]
    unfold pSz at *
    omega
theorem queryL_le (l : List (ByteArray × ByteArray)) : (queryL l).length ≤ (l.map qSz).sum := by
  have key : ∀ p : ByteArray × ByteArray, (parmL p).length + 1 ≤ qSz p := fun p => by
    have h1 := escL_le p.1
    have h2 := escL_le p.2
    unfold parmL qSz
    rw [List.length_append, List.length_cons]
    omega
  cases l with
  | nil => exact Nat.le_refl _
  | cons a r =>
    have h : ∀ r : List (ByteArray × ByteArray), (r.flatMap fun q => 38 :: parmL q).length ≤ (r.map qSz).sum := by
      intro r
      induction r with
      | nil => exact Nat.le_refl _
      | cons b r ih =>
        rw [List.flatMap_cons, List.length_append, List.length_cons, List.map_cons, List.sum_cons]
        have := key b
        omega
    have h1 := h r
    have h2 := key a
    show ((63 :: parmL a) ++ r.flatMap fun q => 38 :: parmL q).length ≤ _
    rw [List.length_append, List.length_cons, List.map_cons, List.sum_cons]
    omega
theorem sum_take {α : Type} (f : α → Nat) {l : List α} {i : Nat} {p : α} (h : l[i]? = some p) : ((l.take i).map f).sum + f p ≤ (l.map f).sum := by
  have e3 : ((l.take (i + 1)).map f).sum = ((l.take i).map f).sum + f p := by
    rw [List.take_add_one, h]
    simp
  have e2 : ((l.take (i + 1)).map f).sum + ((l.drop (i + 1)).map f).sum = (l.map f).sum := by rw [← List.sum_append, ← List.map_append, List.take_append_drop]
  omega
theorem isB_lt {B b : Nat} {bs : List Value} {w : World} (h : IsB B b bs w) : b < w.heap.size := h.elim (fun x => x.lt) (fun x => x.lt)
/-- A builder stays as another block of another type is written. -/
theorem isB_apart {B b g : Nat} {bs : List Value} {w w' : World} {t : TypeId} {arr : Array Value} (h : IsB B b bs w) (hb : Bes (· = g) w w') (hne : b ≠ g) (hg : IBox w g t arr) (ht : t ≠ 5) : IsB B b bs w' := by
  have key : ∀ p, Lib.BuilderAtF 96 5 B b p bs w → Lib.BuilderAtF 96 5 B b p bs w' := fun p h => by
    have hlt := h.lt
    obtain ⟨hB, v, hbk, hown, hx⟩ := h
    refine ⟨hB, v, (hb.block b hlt hne).trans hbk, ?_, hx⟩
    refine hown.kept (row := some g) ⟨hb.os, hb.tape, hb.output, hb.size, fun k hk hn => hb.block k hk (fun e => hn (by rw [e]))⟩ (Or.inr fun e => ?_)
    rcases hown.2 with ⟨hv, _⟩ | ⟨g2, cap, cur, fz, hv, _, hg2, _⟩
    · subst hv; cases e
    · subst hv
      have e2 : g2 = g := Option.some.inj e
      subst e2
      have h3 : w.heap[g2]? = some (.cells arr t (0, 0)) := hg
      rw [h3] at hg2
      injection hg2 with hg2
      injection hg2 with _ e4
      exact ht e4
  exact h.elim (fun x => .inl (key _ x)) (fun x => .inr (key _ x))
theorem take_nil_iff {α : Type} {l : List α} {i : Nat} (hi : i ≤ l.length) : l.take i = [] ↔ i = 0 := by
  rw [List.take_eq_nil_iff]
  constructor
  · rintro (h | h)
    · exact h
    · subst h
      simp at hi
      exact hi
  · exact Or.inl
set_option maxRecDepth 100000 in
set_option maxHeartbeats 8000000 in
theorem join_any {pv qv : Value} {path : List ByteArray} {query : List (ByteArray × ByteArray)} {w : World} (hp : TxAt w pv path) (hq : HdAt w qv query) (hsz : 2 + (path.map pSz).sum + (query.map qSz).sum ≤ wTop) (hl1 : path.length ≤ 140737488355328) (hl2 : query.length ≤ 140737488355328) :
    Calls Tryz.prog 22 #[pv, qv] w fun e w' => e = .returned (.string (txt (joinS path query))) ∧ Below w.heap.size w w' := by
  obtain ⟨pA, pc, rfl, hpc⟩ := id hp
  obtain ⟨qA, qc, rfl, hqc⟩ := id hq
  have HP := Lib.hid hp
  have HQ := Lib.hid hq
  have HSZ := Lib.hid hsz
  have HL1 := Lib.hid hl1
  have HL2 := Lib.hid hl2
  clear hp hq hsz hpc hqc hl1 hl2
  go_enter Tryz.func22, Tryz.ntmps22
  go_wp2_with (first
    | ((with_reducible refine is_alloc ?_); refine wpl_alloc_at rfl 96 rfl _ zeroB ?_; intro w1 hw; have HI0 := Lib.IsBuilderF.of (Lib.fresh_isBuilder 96 5 w); have hwo := hw.out; rw [← hwo] at HI0; have HI : IsB w.heap.size w.heap.size (Lib.byteCells []) w1 := HI0; clear hwo HI0; have HB := hid_grow hw; clear hw)
    | (go_at_call 47; (with_reducible refine (wbyte_any (n := 47) (c := 47) rfl (acc := []) HI (by unfold wTop; decide) HB.size).mono ?_); rintro e w3 ⟨rfl, hi9, hk9⟩; replace HI := hi9; replace HB := HB.trans hk9.1; clear hi9 hk9))
  go_loopw [13] (fun iv wr => ∃ i : Nat, iv = .int .i64 (i : Int) ∧ i ≤ path.length ∧ IsB w.heap.size w.heap.size (Lib.byteCells (47 :: pathL (path.take i))) wr ∧ Below w.heap.size w wr) (fun iv _ => match iv with | .int _ i => (path.length - i.toNat) | _ => 0)
  case atStart => exact ⟨0, rfl, Nat.zero_le _, HI, HB⟩
  case round =>
    clear HI HB
    obtain ⟨i, rfl, hi, HI, HB⟩ := hrel
    have hl1 := HL1.out
    by_cases hlt : i < path.length
    · obtain ⟨pn, hpi⟩ : ∃ p, path[i]? = some p := ⟨_, List.getElem?_eq_getElem hlt⟩
      obtain ⟨A2, c2, hv2, hcells⟩ := HP.out.below HB
      obtain ⟨gh, off, hA2, e1⟩ := hcells i pn hpi
      injection hv2 with v1 v2 v3
      clear v2 v3
      subst v1
      subst hA2
      have HT : Hid (47 :: pathL (path.take (i + 1)) = 47 :: pathL (path.take i) ++ (if i = 0 then escL pn else 47 :: escL pn)) := Lib.hid (by
        rw [List.take_add_one, hpi]
        show 47 :: pathL (path.take i ++ [pn]) = _
        rw [pathL_snoc]
        simp only [take_nil_iff hi]
        rfl)
      have HLN : Hid ((47 :: pathL (path.take i)).length + 3 * pn.size + 1 ≤ wTop) := Lib.hid (by
        have h1 := pathL_le (path.take i)
        have h2 := sum_take pSz hpi
        have h3 := HSZ.out
        unfold pSz at h1 h2 h3
        rw [List.length_cons]
        omega)
      generalize 47 :: pathL (path.take i) = ac at HI HLN HT
      clear hcells hpi
      by_cases h0 : i = 0
      · rw [if_pos h0] at HT
        have hip : ¬ 0 < i := by omega
        clear h0
        go_wp2_with (first
          | (go_at_call 48; (refine (escape_any (acc := ac) (s := pn) HI HB.size (by have h1 := HLN.out; (try rw [List.length_append, List.length_singleton]); omega)).mono ?_); rintro e w4 ⟨rfl, hi9, hk9⟩; replace HI := hi9; replace HB := HB.trans hk9.1; clear hi9 hk9))
        go_roundw
        case rel => first | exact ⟨i + 1, rfl, by omega, (by rw [HT.out]; first | exact HI | (rw [List.append_assoc] at HI; exact HI)), HB⟩ | ((repeat apply Exists.intro); exact ⟨⟨i + 1, rfl, by omega, (by rw [HT.out]; first | exact HI | (rw [List.append_assoc] at HI; exact HI)), HB⟩, rfl⟩)
        case measure => (simp only; omega)
      · rw [if_neg h0] at HT
        have hip : 0 < i := by omega
        go_wp2_with (first
          | (go_at_call 47; (with_reducible refine (wbyte_any (n := 47) (c := 47) rfl (acc := ac) HI (by have h1 := HLN.out; omega) HB.size).mono ?_); rintro e w3 ⟨rfl, hi9, hk9⟩; replace HI := hi9; replace HB := HB.trans hk9.1; clear hi9 hk9)
          | (go_at_call 48; (refine (escape_any (acc := ac ++ [47]) (s := pn) HI HB.size (by have h1 := HLN.out; (try rw [List.length_append, List.length_singleton]); omega)).mono ?_); rintro e w4 ⟨rfl, hi9, hk9⟩; replace HI := hi9; replace HB := HB.trans hk9.1; clear hi9 hk9))
        go_roundw
        case rel => first | exact ⟨i + 1, rfl, by omega, (by rw [HT.out]; first | exact HI | (rw [List.append_assoc] at HI; exact HI)), HB⟩ | ((repeat apply Exists.intro); exact ⟨⟨i + 1, rfl, by omega, (by rw [HT.out]; first | exact HI | (rw [List.append_assoc] at HI; exact HI)), HB⟩, rfl⟩)
        case measure => (simp only; omega)
    · obtain rfl : i = path.length := by omega
      rw [List.take_length] at HI
      clear hlt hi
      go_wp2
      go_loopw [26] (fun iv wr => ∃ i : Nat, iv = .int .i64 (i : Int) ∧ i ≤ query.length ∧ IsB w.heap.size w.heap.size (Lib.byteCells (47 :: pathL path ++ queryL (query.take i))) wr ∧ Below w.heap.size w wr) (fun iv _ => match iv with | .int _ i => (query.length - i.toNat) | _ => 0)
      case atStart => exact ⟨0, rfl, Nat.zero_le _, by simpa [queryL] using HI, HB⟩
      case round =>
        clear HI HB
        obtain ⟨i, rfl, hi, HI, HB⟩ := hrel
        have hl2 := HL2.out
        by_cases hlt : i < query.length
        · obtain ⟨p, hpi⟩ : ∃ p, query[i]? = some p := ⟨_, List.getElem?_eq_getElem hlt⟩
          obtain ⟨A2, c2, hv2, hcells⟩ := HQ.out.below HB
          obtain ⟨gh, off, hA2, e1, e2⟩ := hcells i p hpi
          injection hv2 with v1 v2 v3
          clear v2 v3
          subst v1
          subst hA2
          have HT : Hid (47 :: pathL path ++ queryL (query.take (i + 1)) = 47 :: pathL path ++ queryL (query.take i) ++ ((if i = 0 then 63 else 38) :: parmL p)) := Lib.hid (by
            rw [List.take_add_one, hpi]
            show 47 :: pathL path ++ queryL (query.take i ++ [p]) = _
            rw [queryL_snoc]
            simp only [take_nil_iff hi, List.append_assoc])
          have HLN : Hid ((47 :: pathL path ++ queryL (query.take i)).length + 3 * p.1.size + 3 * p.2.size + 2 ≤ wTop) := Lib.hid (by
            have h0 := pathL_le path
            have h1 := queryL_le (query.take i)
            have h2 := sum_take qSz hpi
            have h3 := HSZ.out
            have h4 : qSz p = 3 * p.1.size + 3 * p.2.size + 2 := rfl
            rw [List.length_append, List.length_cons]
            omega)
          obtain ⟨pn, pv⟩ := p
          have HPM : Hid (parmL (pn, pv) = escL pn ++ 61 :: escL pv) := Lib.hid rfl
          generalize parmL (pn, pv) = pm at HT HPM
          dsimp only at e1 e2 HLN
          generalize 47 :: pathL path ++ queryL (query.take i) = ac at HI HLN HT
          clear hcells hpi
          have hrow : wr.rangeAt gh (off + i * 2) (hdA pn pv).toList := fun j v hv => by
            have hj : j = 0 ∨ j = 1 := by
              have := (List.getElem?_eq_some_iff.1 hv).1
              have e : (hdA pn pv).toList.length = 2 := rfl
              omega
            rcases hj with rfl | rfl
            · have : v = .string pn := (Option.some.inj hv).symm
              rw [this]; exact e1
            · have : v = .string pv := (Option.some.inj hv).symm
              rw [this]; exact e2
          have HEL1 := Lib.hid (escL_le pn)
          by_cases h0 : i = 0
          · rw [if_pos h0] at HT
            have hmin : min (i : Int) 1 = 0 := by omega
            clear h0
            have hq0 : ∀ h : 0 < (⟨#[63, 38]⟩ : ByteArray).size, ((((⟨#[63, 38]⟩ : ByteArray)[0]'h).toNat : Nat) : Int) = 63 := fun _ => rfl
            have hq1 : ∀ h : 1 < (⟨#[63, 38]⟩ : ByteArray).size, ((((⟨#[63, 38]⟩ : ByteArray)[1]'h).toNat : Nat) : Int) = 38 := fun _ => rfl
            have HNB : Hid (w.heap.size < wr.heap.size) := Lib.hid (isB_lt HI)
            have HWR : Hid (w.heap.size ≤ wr.heap.size) := Lib.hid HB.size
            go_wp2_with (first
              | ((with_reducible refine is_load ?_); refine wpl_load_arr rfl 54 (.tmp 29) rfl gh (off + i * 2) rfl (hdA pn pv) _ hrow Tryz.underlying54 rfl info_pm2 ?_)
              | ((with_reducible refine is_alloc ?_); refine wpl_alloc_at rfl 54 rfl _ zeroPm ?_; intro w5 hw; have B8 := hid_alloc0 hw; have hb := hid_grow hw; replace HI := isB_below HI hb; replace HB := HB.trans (hb.mono HB.size); clear hw hb e1 e2)
              | ((with_reducible refine is_store ?_); refine wpl_store_at rfl 54 (.tmp 9) (.tmp 30) rfl wr.heap.size (hdA pn pv) rfl rfl _ _ B8 info_pm2 rfl (hd_one _ _) ?_; intro w6 hw; have hbS : Bes (· = wr.heap.size) _ w6 := Bes.row (X := fun q => q = wr.heap.size) hw rfl; replace HI := isB_apart HI hbS (fun hh => absurd HNB.out (by rw [← hh]; exact Nat.lt_irrefl _)) B8 (by decide); replace HB := HB.trans (Bes.below hbS (fun q e => by rw [e]; exact HWR.out) HB.size); replace B8 : IBox w6 wr.heap.size 54 (hdA pn pv) := hid_row hw B8; clear hw hbS; have c80 : w6.cell? ⟨wr.heap.size, 0, none⟩ = some (.string pn) := B8.cell 0; have c81 : w6.cell? ⟨wr.heap.size, 1, none⟩ = some (.string pv) := B8.cell 1)
              | (go_at_call 47; (with_reducible refine (wbyte_any (n := 63) (c := 63) rfl (acc := ac) HI (by have h1 := HLN.out; omega) HB.size).mono ?_); rintro e wa ⟨rfl, hi9, hk9⟩; replace HI := hi9; replace HB := HB.trans hk9.1; replace B8 := hk9.2 _ _ _ (by decide) (Nat.ne_of_gt HNB.out) B8; clear c80 c81; have c80 : wa.cell? ⟨wr.heap.size, 0, none⟩ = some (.string pn) := B8.cell 0; have c81 : wa.cell? ⟨wr.heap.size, 1, none⟩ = some (.string pv) := B8.cell 1; clear hi9 hk9)
              | (go_at_call 48; (with_reducible refine (escape_any (acc := ac ++ [63]) (s := pn) HI HB.size (by have h1 := HLN.out; (try rw [List.length_append, List.length_singleton]); omega)).mono ?_); rintro e wb ⟨rfl, hi9, hk9⟩; replace HI := hi9; replace HB := HB.trans hk9.1; replace B8 := hk9.2 _ _ _ (by decide) (Nat.ne_of_gt HNB.out) B8; clear c80 c81; have c80 : wb.cell? ⟨wr.heap.size, 0, none⟩ = some (.string pn) := B8.cell 0; have c81 : wb.cell? ⟨wr.heap.size, 1, none⟩ = some (.string pv) := B8.cell 1; clear hi9 hk9)
              | (go_at_call 47; (with_reducible refine (wbyte_any (n := 61) (c := 61) rfl (acc := ac ++ [63] ++ escL pn) HI (by have h1 := HLN.out; have h2 := HEL1.out; (simp only [List.length_append, List.length_singleton]); omega) HB.size).mono ?_); rintro e wc ⟨rfl, hi9, hk9⟩; replace HI := hi9; replace HB := HB.trans hk9.1; replace B8 := hk9.2 _ _ _ (by decide) (Nat.ne_of_gt HNB.out) B8; clear c80 c81; have c80 : wc.cell? ⟨wr.heap.size, 0, none⟩ = some (.string pn) := B8.cell 0; have c81 : wc.cell? ⟨wr.heap.size, 1, none⟩ = some (.string pv) := B8.cell 1; clear hi9 hk9)
              | (go_at_call 48; (with_reducible refine (escape_any (acc := ac ++ [63] ++ escL pn ++ [61]) (s := pv) HI HB.size (by have h1 := HLN.out; have h2 := HEL1.out; (simp only [List.length_append, List.length_singleton]); omega)).mono ?_); rintro e wd ⟨rfl, hi9, hk9⟩; replace HI := hi9; replace HB := HB.trans hk9.1; replace B8 := hk9.2 _ _ _ (by decide) (Nat.ne_of_gt HNB.out) B8; clear c80 c81; have c80 : wd.cell? ⟨wr.heap.size, 0, none⟩ = some (.string pn) := B8.cell 0; have c81 : wd.cell? ⟨wr.heap.size, 1, none⟩ = some (.string pv) := B8.cell 1; clear hi9 hk9))
            have HF : Hid (ac ++ [63] ++ escL pn ++ [61] ++ escL pv = ac ++ (63 :: pm)) := Lib.hid (by rw [HPM.out]; simp)
            rw [HF.out] at HI
            go_roundw
            case rel => first | exact ⟨i + 1, rfl, by omega, (by rw [HT.out]; exact HI), HB⟩ | ((repeat apply Exists.intro); exact ⟨⟨i + 1, rfl, by omega, (by rw [HT.out]; exact HI), HB⟩, rfl⟩)
            case measure => (simp only; omega)
          · rw [if_neg h0] at HT
            have hmin : min (i : Int) 1 = 1 := by omega
            have hq0 : ∀ h : 0 < (⟨#[63, 38]⟩ : ByteArray).size, ((((⟨#[63, 38]⟩ : ByteArray)[0]'h).toNat : Nat) : Int) = 63 := fun _ => rfl
            have hq1 : ∀ h : 1 < (⟨#[63, 38]⟩ : ByteArray).size, ((((⟨#[63, 38]⟩ : ByteArray)[1]'h).toNat : Nat) : Int) = 38 := fun _ => rfl
            have HNB : Hid (w.heap.size < wr.heap.size) := Lib.hid (isB_lt HI)
            have HWR : Hid (w.heap.size ≤ wr.heap.size) := Lib.hid HB.size
            go_wp2_with (first
              | ((with_reducible refine is_load ?_); refine wpl_load_arr rfl 54 (.tmp 29) rfl gh (off + i * 2) rfl (hdA pn pv) _ hrow Tryz.underlying54 rfl info_pm2 ?_)
              | ((with_reducible refine is_alloc ?_); refine wpl_alloc_at rfl 54 rfl _ zeroPm ?_; intro w5 hw; have B8 := hid_alloc0 hw; have hb := hid_grow hw; replace HI := isB_below HI hb; replace HB := HB.trans (hb.mono HB.size); clear hw hb e1 e2)
              | ((with_reducible refine is_store ?_); refine wpl_store_at rfl 54 (.tmp 9) (.tmp 30) rfl wr.heap.size (hdA pn pv) rfl rfl _ _ B8 info_pm2 rfl (hd_one _ _) ?_; intro w6 hw; have hbS : Bes (· = wr.heap.size) _ w6 := Bes.row (X := fun q => q = wr.heap.size) hw rfl; replace HI := isB_apart HI hbS (fun hh => absurd HNB.out (by rw [← hh]; exact Nat.lt_irrefl _)) B8 (by decide); replace HB := HB.trans (Bes.below hbS (fun q e => by rw [e]; exact HWR.out) HB.size); replace B8 : IBox w6 wr.heap.size 54 (hdA pn pv) := hid_row hw B8; clear hw hbS; have c80 : w6.cell? ⟨wr.heap.size, 0, none⟩ = some (.string pn) := B8.cell 0; have c81 : w6.cell? ⟨wr.heap.size, 1, none⟩ = some (.string pv) := B8.cell 1)
              | (go_at_call 47; (with_reducible refine (wbyte_any (n := 38) (c := 38) rfl (acc := ac) HI (by have h1 := HLN.out; omega) HB.size).mono ?_); rintro e wa ⟨rfl, hi9, hk9⟩; replace HI := hi9; replace HB := HB.trans hk9.1; replace B8 := hk9.2 _ _ _ (by decide) (Nat.ne_of_gt HNB.out) B8; clear c80 c81; have c80 : wa.cell? ⟨wr.heap.size, 0, none⟩ = some (.string pn) := B8.cell 0; have c81 : wa.cell? ⟨wr.heap.size, 1, none⟩ = some (.string pv) := B8.cell 1; clear hi9 hk9)
              | (go_at_call 48; (with_reducible refine (escape_any (acc := ac ++ [38]) (s := pn) HI HB.size (by have h1 := HLN.out; (try rw [List.length_append, List.length_singleton]); omega)).mono ?_); rintro e wb ⟨rfl, hi9, hk9⟩; replace HI := hi9; replace HB := HB.trans hk9.1; replace B8 := hk9.2 _ _ _ (by decide) (Nat.ne_of_gt HNB.out) B8; clear c80 c81; have c80 : wb.cell? ⟨wr.heap.size, 0, none⟩ = some (.string pn) := B8.cell 0; have c81 : wb.cell? ⟨wr.heap.size, 1, none⟩ = some (.string pv) := B8.cell 1; clear hi9 hk9)
              | (go_at_call 47; (with_reducible refine (wbyte_any (n := 61) (c := 61) rfl (acc := ac ++ [38] ++ escL pn) HI (by have h1 := HLN.out; have h2 := HEL1.out; (simp only [List.length_append, List.length_singleton]); omega) HB.size).mono ?_); rintro e wc ⟨rfl, hi9, hk9⟩; replace HI := hi9; replace HB := HB.trans hk9.1; replace B8 := hk9.2 _ _ _ (by decide) (Nat.ne_of_gt HNB.out) B8; clear c80 c81; have c80 : wc.cell? ⟨wr.heap.size, 0, none⟩ = some (.string pn) := B8.cell 0; have c81 : wc.cell? ⟨wr.heap.size, 1, none⟩ = some (.string pv) := B8.cell 1; clear hi9 hk9)
              | (go_at_call 48; (with_reducible refine (escape_any (acc := ac ++ [38] ++ escL pn ++ [61]) (s := pv) HI HB.size (by have h1 := HLN.out; have h2 := HEL1.out; (simp only [List.length_append, List.length_singleton]); omega)).mono ?_); rintro e wd ⟨rfl, hi9, hk9⟩; replace HI := hi9; replace HB := HB.trans hk9.1; replace B8 := hk9.2 _ _ _ (by decide) (Nat.ne_of_gt HNB.out) B8; clear c80 c81; have c80 : wd.cell? ⟨wr.heap.size, 0, none⟩ = some (.string pn) := B8.cell 0; have c81 : wd.cell? ⟨wr.heap.size, 1, none⟩ = some (.string pv) := B8.cell 1; clear hi9 hk9))
            have HF : Hid (ac ++ [38] ++ escL pn ++ [61] ++ escL pv = ac ++ (38 :: pm)) := Lib.hid (by rw [HPM.out]; simp)
            rw [HF.out] at HI
            go_roundw
            case rel => first | exact ⟨i + 1, rfl, by omega, (by rw [HT.out]; exact HI), HB⟩ | ((repeat apply Exists.intro); exact ⟨⟨i + 1, rfl, by omega, (by rw [HT.out]; exact HI), HB⟩, rfl⟩)
            case measure => (simp only; omega)
        · obtain rfl : i = query.length := by omega
          rw [List.take_length] at HI
          clear hlt hi
          go_wp2_with (first
            | (go_at_call 49; (refine (Tryz.Builder_String_any_k _ _ (47 :: pathL path ++ queryL query) _ HI HB.size).mono ?_); rintro e w9 ⟨rfl, hi9, hb9, _⟩; replace HB := HB.trans hb9; clear hi9 hb9))
          go_ret
          exact ⟨rfl, HB⟩
end Go.Proofs.YtbehakabglegjaaGreatDoor
