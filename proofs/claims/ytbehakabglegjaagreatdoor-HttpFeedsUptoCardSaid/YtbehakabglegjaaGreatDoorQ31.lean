/- Layer 9: the document's reader: bytes that must stand here, a request's method and target. -/
import Derived.Test.YtbehakabglegjaaGreatDoorQ06
import Derived.Test.YtbehakabglegjaaGreatDoorQ30
import Derived.Test.YtbehakabglegjaaGreatDoorQZip
namespace Go.Proofs.YtbehakabglegjaaGreatDoor
open Go.RowKit Go.PlainAid
set_option linter.unusedVariables false
set_option linter.unusedSimpArgs false
/-- What the bytes that are wanted make of the feed. -/
structure Wt (b : List UInt8) (ans : Bool) (a k : Nat) (s : ByteArray) (x : Int) (hd : Bool) (st : Nat → Fs) : Prop where
  yes : ∀ i c, (bl s)[i]? = some c → b[k + i]? = some c → (hd = true → k + i < 8192) → oneS (st i) c = .ok (st (i + 1))
  no : ∀ i c d, (bl s)[i]? = some d → b[k + i]? = some c → (hd = true → k + i < 8192) → c ≠ d → oneS (st i) c = .bad x
  wh : ∀ i, i < s.size → (st i).whole = []
  hd : ∀ i, i < s.size → hd = true → (st i).head = ((k + i : Nat) : Int)
  ps : ∀ i, i < s.size → (st i).pos = a + (k + i)
  co : x = 2 ∨ x = 3 ∨ x = 31 ∨ x = 32
/-- The reader goes on at this feed, or has stopped. -/
def RnF (b : List UInt8) (ans : Bool) (a : Nat) (k : Nat) (F : Fs) (R : Rd) : Prop := (R.bad = 0 ∧ R.more = false ∧ R.at_ = k ∧ Atk b ans a k F) ∨ Stp b ans a R.at_ R.bad R.more
theorem Stp.no {b : List UInt8} {ans : Bool} {a k : Nat} {x : Int} {mo : Bool} (h : Stp b ans a k x mo) (h1 : x = 0) (h2 : mo = false) : False := by
  rcases h.on with ⟨e, _⟩ | ⟨_, e⟩
  · exact e h1
  · rw [h2] at e; cases e
def rdPos (w : World) (g : Nat) : Nat := match w.cell? ⟨g, 1, none⟩ with
  | some (.int _ i) => i.toNat
  | _ => 0
section
variable {n g : Nat} {R : Rd} {b : List UInt8} {A : Option Addr} {cp : Nat} {hs bd : Value} {w w' : World} {c : UInt8} {ans : Bool} {a : Nat}
theorem rdPos_of (M : RdM n g R b A cp hs bd w) : rdPos w g = R.at_ := by
  have h : w.cell? ⟨g, 1, none⟩ = some (.int .i64 (R.at_ : Int)) := M.box.cell 1
  unfold rdPos
  rw [h]
  simp
theorem RowB.heap (h : RowB w A b) (e : w'.heap = w.heap) : RowB w' A b := fun i u hu => by
  obtain ⟨bb, off, hA, h1⟩ := h i u hu
  exact ⟨bb, off, hA, (World.cell?_of_block (by rw [e])).trans h1⟩
theorem yields_text {ops : Array Oper} {S : World → Prop} {o : Oper} {ac : Act} (hw : Region.wanted o (yielded ops ac.tmps) = true) (x : Operand) (ho : o.op = .convert 23 9 x) {v : Value} {l : List UInt8} (hx : ac.eval x = v) (hS : ∀ w, S w → BtAt w v l) : YieldsIf Tryz.prog ops S o (.string (txt l)) ac :=
  .inl ⟨hw, fun w hSw => by
    have e := bt_text (hS w hSw)
    generalize hP : Tryz.prog = P at *
    unfold execOp
    simp only [ho, hx, Sem.run_bind, e, Result.andThen_ok, Sem.run_pure]⟩
theorem RowB.sub {bb off f k : Nat} (h : RowB w (some ⟨bb, off, none⟩) b) (hfk : f ≤ k) (hk : k ≤ b.length) (c2 : Nat) : BtAt w (.slice (some ⟨bb, off + f, none⟩) (k - f) c2) (sl b f k) := by
  refine ⟨some ⟨bb, off + f, none⟩, c2, by rw [sl_len hk], fun i u hu => ?_⟩
  have hi : i < (sl b f k).length := (List.getElem?_eq_some_iff.1 hu).1
  rw [sl_len hk] at hi
  have h2 : b[f + i]? = some u := by
    unfold sl at hu
    rw [List.getElem?_drop, List.getElem?_take] at hu
    split at hu
    · exact hu
    · cases hu
  obtain ⟨b2, o2, e, h3⟩ := h (f + i) u h2
  injection e with e
  injection e with e1 e2
  subst e1
  subst e2
  exact ⟨bb, off + f, rfl, by rw [Nat.add_assoc]; exact h3⟩
/-- What a function of the reader's gives. -/
def PhV (n g : Nat) (b : List UInt8) (A : Option Addr) (cp : Nat) (ans : Bool) (a : Nat) (ok : Nat → Ms → Prop) (hd : Bool) (w : World) (e : Ending) (w' : World) : Prop := e = .returned (.tuple #[]) ∧ Below n w w' ∧ ∃ (R' : Rd) (hs' bd' : Value), RdM n g R' b A cp hs' bd' w' ∧ Rn b ans a ok R' ∧ R'.head = hd
set_option maxRecDepth 100000 in
set_option maxHeartbeats 8000000 in
theorem rwant_any {s : ByteArray} {x : Int} {st : Nat → Fs} (M : RdM n g R b A cp hs bd w) (hR : RnF b ans a R.at_ (st 0) R) (hW : R.bad = 0 → R.more = false → Wt b ans a R.at_ s x R.head st) (hl : b.length ≤ 1099511627776) (hs0 : s.size ≤ 1024) :
    Calls Tryz.prog 77 #[.pointer (some ⟨g, 0, none⟩), .string s, .int .i64 x] w fun e w' => e = .returned (.tuple #[]) ∧ Below n w w' ∧ ∃ R' : Rd, RdM n g R' b A cp hs bd w' ∧ RnF b ans a (R.at_ + s.size) (st s.size) R' ∧ R'.m = R.m ∧ R'.head = R.head ∧ (R'.bad = 0 → R'.more = false → R.bad = 0 ∧ R.more = false) := by
  have hbs := get_bt s
  have HB := Below.refl n w
  have HLB := Lib.hid hl
  have HS := Lib.hid hs0
  have HW := Lib.hid hW
  have HR0 : Hid (RnF b ans a (R.at_ + 0) (st 0) R ∧ (R.bad = 0 → R.more = false → R.at_ = R.at_ + 0)) := Lib.hid ⟨by rw [Nat.add_zero]; exact hR, fun _ _ => rfl⟩
  clear hl hs0 hW hR
  go_enter Tryz.func77, Tryz.ntmps77
  go_wp2
  go_loopw [6] (fun iv wr => ∃ (i : Nat) (R1 : Rd), iv = .int .i64 (i : Int) ∧ i ≤ s.size ∧ RdM n g R1 b A cp hs bd wr ∧ Below n w wr ∧ R1.m = R.m ∧ R1.head = R.head ∧ Hid (RnF b ans a (R.at_ + i) (st i) R1 ∧ (R1.bad = 0 → R1.more = false → R.bad = 0 ∧ R.more = false))) (fun iv _ => match iv with | .int _ i => s.size - i.toNat | _ => 0)
  case atStart => exact ⟨0, R, rfl, Nat.zero_le _, M, HB, rfl, rfl, Lib.hid ⟨HR0.out.1, fun h1 h2 => ⟨h1, h2⟩⟩⟩
  case round =>
    clear HB M HR0
    obtain ⟨i, R1, rfl, hi, M, HB, hm, hh, HR1⟩ := hrel
    have HMM := Lib.hid hm
    have HHH := Lib.hid hh
    have hs := HS.out
    have hln := HLB.out
    clear hm hh
    by_cases hlt : i < s.size
    · obtain ⟨d, hd⟩ : ∃ d, (bl s)[i]? = some d := ⟨_, List.getElem?_eq_getElem (show i < (bl s).length from hlt)⟩
      have hdb := bt_at hd
      have HD := Lib.hid hd
      clear hd
      have HLA : Hid (R1.at_ ≤ 1099511627776) := Lib.hid (by
        rcases HR1.out.1 with h | h
        · have := h.2.2.2.1; have := h.2.2.1; omega
        · have := h.le; omega)
      cases hp : pkB b R1
      · have HPB := Lib.hid hp
        have HST : Hid (Stp b ans a (pkN b R1).at_ (pkN b R1).bad (pkN b R1).more) := Lib.hid (by
          refine Rn.none_ (ok := fun k m => k = R.at_ + i ∧ Atk b ans a k (st i) ∧ R.bad = 0 ∧ R.more = false) ?_ ?_ hp
          · rcases HR1.out.1 with h | h
            · obtain ⟨z1, z2⟩ := HR1.out.2 h.1 h.2.1
              exact .inl ⟨h.1, h.2.1, h.2.2.1, h.2.2.1 ▸ h.2.2.2, z1, z2⟩
            · exact .inr h
          · rintro ⟨e, h, z1, z2⟩
            have hw := HW.out z1 z2
            refine ⟨_, h, hw.wh i hlt, ?_, fun e2 => ?_⟩
            · rw [e]; exact hw.ps i hlt
            · rw [e]; exact hw.hd i hlt (by rw [← HHH.out]; exact e2))
        clear hp
        go_wp2_with (first
          | (go_at_call 82; (with_reducible refine (peek_none M HPB.out HLB.out HLA.out).mono ?_); rintro e w5 ⟨rfl, hm, hb⟩; replace M := hm; replace HB := HB.trans hb; clear hm hb))
        first | go_end0 | (refine bodyPost_ret (results_none rfl _ _ _) rfl ?_)
        exact ⟨rfl, HB, pkN b R1, M, .inr HST.out, pkN_m.trans HMM.out, pkN_head.trans HHH.out, fun e1 e2 => (HST.out.no e1 e2).elim⟩
      · rename_i c
        have HPB := Lib.hid hp
        obtain ⟨p1, p2, p3, p4⟩ := pk_some hp
        have hrun : R1.at_ = R.at_ + i ∧ Atk b ans a (R.at_ + i) (st i) := by
          rcases HR1.out.1 with h | h
          · exact ⟨h.2.2.1, h.2.2.2⟩
          · rcases h.on with ⟨e, _⟩ | ⟨_, e⟩
            · exact absurd p1 e
            · rw [p2] at e; cases e
        obtain ⟨hat, hAt⟩ := hrun
        obtain ⟨z1, z2⟩ := HR1.out.2 p1 p2
        have hw := HW.out z1 z2
        rw [hat] at p3 p4
        rw [HHH.out] at p4
        have c1 : wr.cell? ⟨g, 1, none⟩ = some (.int .i64 (R1.at_ : Int)) := M.box.cell 1
        by_cases hcd : c = d
        · subst hcd
          have HN : Hid (Atk b ans a (R.at_ + (i + 1)) (st (i + 1))) := Lib.hid (hAt.step p3 (hw.yes i c HD.out p3 p4))
          have HP := Lib.hid (show R1.bad = 0 ∧ R1.more = false ∧ R1.at_ = R.at_ + i ∧ R.bad = 0 ∧ R.more = false from ⟨p1, p2, hat, z1, z2⟩)
          have hal : (R1.at_ : Int) ≤ 1099511627776 := by have := HLA.out; omega
          clear hp p1 p2 p3 p4 hat hAt hw z1 z2
          go_wp2_with (first
            | (go_at_call 82; (with_reducible refine (peek_some M HPB.out HLB.out).mono ?_); rintro e w5 ⟨rfl, hm, hb⟩; replace M := hm; replace HB := HB.trans hb; clear hm hb; clear c1; have c1 : w5.cell? ⟨g, 1, none⟩ = some (.int .i64 (R1.at_ : Int)) := M.box.cell 1)
            | ((with_reducible refine is_store ?_); refine wpl_store_cell rfl 3 (.tmp 37) _ rfl g 1 rfl (.int .i64 ((R1.at_ : Int) + 1)) rfl _ _ M.box (show 1 < 11 by decide) one_i rfl ?_; intro w6 hw; replace HB := HB.trans (M.low hw); replace M := M.s1 (R1.at_ + 1) hw; clear hw c1))
          go_roundw
          case rel => exact ⟨i + 1, { R1 with at_ := R1.at_ + 1 }, rfl, by omega, M, HB, HMM.out, HHH.out, Lib.hid ⟨.inl ⟨HP.out.1, HP.out.2.1, (by show R1.at_ + 1 = _; rw [HP.out.2.2.1]; rfl), HN.out⟩, fun _ _ => HP.out.2.2.2⟩⟩
          case measure => (simp only; omega)
        · have hne := byte_ne hcd
          have HN : Hid (Stp b ans a R1.at_ x false) := Lib.hid (by rw [hat]; exact Stp.bad hAt (hw.wh i hlt) (hw.ps i hlt) p3 (hw.no i c d HD.out p3 p4 hcd) hw.co)
          have HP := Lib.hid p2
          clear hp p1 p2 p3 p4 hat hAt hw hcd z1 z2
          go_wp2_with (first
            | (go_at_call 82; (with_reducible refine (peek_some M HPB.out HLB.out).mono ?_); rintro e w5 ⟨rfl, hm, hb⟩; replace M := hm; replace HB := HB.trans hb; clear hm hb; clear c1; have c1 : w5.cell? ⟨g, 1, none⟩ = some (.int .i64 (R1.at_ : Int)) := M.box.cell 1)
            | ((with_reducible refine is_store ?_); refine wpl_store_cell rfl 31 (.tmp 30) _ rfl g 2 rfl (.int .i64 x) rfl _ _ M.box (show 2 < 11 by decide) one_c rfl ?_; intro w6 hw; replace HB := HB.trans (M.low hw); replace M := M.s2 x hw; clear hw))
          first | go_end0 | (refine bodyPost_ret (results_none rfl _ _ _) rfl ?_)
          exact ⟨rfl, HB, { R1 with bad := x }, M, .inr (by show Stp b ans a R1.at_ x R1.more; rw [HP.out]; exact HN.out), HMM.out, HHH.out, fun e1 _ => (HN.out.no e1 rfl).elim⟩
    · obtain rfl : i = s.size := by omega
      go_wp2
      first | go_end0 | (refine bodyPost_ret (results_none rfl _ _ _) rfl ?_)
      exact ⟨rfl, HB, R1, M, HR1.out.1, HMM.out, HHH.out, HR1.out.2⟩
set_option maxRecDepth 100000 in
set_option maxHeartbeats 8000000 in
theorem rmethod_any (M : RdM n g R b A cp hs bd w) (hR : Rn b ans a (fun k m => Atk b ans a k (hF ans a k 0 [] m 0)) R) (hh : R.head = true) (hl : b.length ≤ 1099511627776) :
    Calls Tryz.prog 80 #[.pointer (some ⟨g, 0, none⟩)] w (PhV n g b A cp ans a (fun k m => Atk b ans a k (hF ans a k 1 [] m 0)) true w) := by
  obtain ⟨f, hf⟩ : ∃ f, R.at_ = f := ⟨_, rfl⟩
  have HB := Below.refl n w
  have HLB := Lib.hid hl
  have HR0 : Hid ((f ≤ R.at_ ∧ R.at_ ≤ f + 16) ∧ ((R.bad = 0 ∧ R.more = false ∧ Atk b ans a R.at_ (hF ans a R.at_ 0 (sl b f R.at_) R.m 0)) ∨ Stp b ans a R.at_ R.bad R.more)) := Lib.hid ⟨⟨by omega, by omega⟩, by rw [hf, sl_nil]; rw [← hf]; exact hR⟩
  have c1 : w.cell? ⟨g, 1, none⟩ = some (.int .i64 (f : Int)) := by rw [← hf]; exact M.box.cell 1
  have HH0 := Lib.hid hh
  clear hl hR hf hh
  go_enter Tryz.func80, Tryz.ntmps80
  go_wp2
  clear c1
  go_loopw [] (fun wr => ∃ R1 : Rd, RdM n g R1 b A cp hs bd wr ∧ Below n w wr ∧ R1.head = true ∧ Hid ((f ≤ R1.at_ ∧ R1.at_ ≤ f + 16) ∧ ((R1.bad = 0 ∧ R1.more = false ∧ Atk b ans a R1.at_ (hF ans a R1.at_ 0 (sl b f R1.at_) R1.m 0)) ∨ Stp b ans a R1.at_ R1.bad R1.more))) (fun wr => b.length - rdPos wr g)
  case atStart => exact ⟨R, M, HB, HH0.out, HR0⟩
  case round =>
    clear HB M HR0 HH0
    obtain ⟨R1, M, HB, hh, HR1⟩ := hrel
    have HHH := Lib.hid hh
    have hln := HLB.out
    have HM0 := Lib.hid M
    clear hh
    have HLA : Hid (R1.at_ ≤ 1099511627776) := Lib.hid (by
      rcases HR1.out.2 with h | h
      · have := h.2.2.1; omega
      · have := h.le; omega)
    cases hp : pkB b R1
    · have HPB := Lib.hid hp
      have HST : Hid (Stp b ans a (pkN b R1).at_ (pkN b R1).bad (pkN b R1).more) := Lib.hid (Rn.none_ (ok := fun k m => Atk b ans a k (hF ans a k 0 (sl b f k) m 0)) HR1.out.2 (fun h => ⟨_, h, rfl, rfl, fun _ => rfl⟩) hp)
      clear hp
      go_wp2_with (first
        | (go_at_call 82; (with_reducible refine (peek_none M HPB.out HLB.out HLA.out).mono ?_); rintro e w5 ⟨rfl, hm, hb⟩; replace M := hm; replace HB := HB.trans hb; clear hm hb))
      first | go_end0 | (refine bodyPost_ret (results_none rfl _ _ _) rfl ?_)
      exact ⟨rfl, HB, pkN b R1, _, _, M, .inr HST.out, pkN_head.trans HHH.out⟩
    · rename_i c
      have HPB := Lib.hid hp
      obtain ⟨p1, p2, h, p3, p4⟩ := Rn.some_ (ok := fun k m => Atk b ans a k (hF ans a k 0 (sl b f k) m 0)) HR1.out.2 hp
      have hk := p4 HHH.out
      have HFK := Lib.hid HR1.out.1.1
      have hbn := HR1.out.1.2
      have hlt : R1.at_ < b.length := (List.getElem?_eq_some_iff.1 p3).1
      have HLT : Hid (R1.at_ < b.length) := Lib.hid hlt
      have HC := Lib.hid p3
      have HSN : Hid (sl b f (R1.at_ + 1) = sl b f R1.at_ ++ [c]) := Lib.hid (sl_snoc p3 HR1.out.1.1)
      have hsl : (sl b f R1.at_).length = R1.at_ - f := sl_len (Nat.le_of_lt HLT.out)
      have c1 : wr.cell? ⟨g, 1, none⟩ = some (.int .i64 (R1.at_ : Int)) := M.box.cell 1
      have HP := Lib.hid (show R1.bad = 0 ∧ R1.more = false from ⟨p1, p2⟩)
      have hsub : (R1.at_ : Int) - (f : Int) = ((R1.at_ - f : Nat) : Int) := by have := HFK.out; omega
      have hal : (R1.at_ : Int) ≤ 1099511627776 := by have := HLA.out; omega
      obtain ⟨t, ht⟩ : ∃ t, R1.at_ - f = t := ⟨_, rfl⟩
      rw [ht] at hsub hsl
      have HSL := Lib.hid hsl
      have HTT := Lib.hid ht
      clear hp p1 p2 p4 ht hsl
      by_cases a1 : 65 ≤ c.toNat ∧ c.toNat ≤ 90
      · have b1 : (65 : Int) ≤ (c.toNat : Int) := by omega
        have b2 : (c.toNat : Int) ≤ 90 := by omega
        have b4 : ((c.toNat : Int) == 32) = false := by rw [beq_eq_false_iff_ne]; omega
        by_cases a2 : t < 16
        · have b3 : (t : Int) < 16 := by omega
          have HN : Hid (Atk b ans a (R1.at_ + 1) _) := Lib.hid (h.step p3 (meth_put hk a1 (by rw [HSL.out]; exact a2)))
          have HTL : Hid (R1.at_ < f + 16) := Lib.hid (by have := HTT.out; omega)
          rw [← HSN.out] at HN
          have HL1 := Lib.hid hlt
          clear h p3 hk hlt hbn
          go_wp2_with (first
            | (go_at_call 82; (with_reducible refine (peek_some M HPB.out HLB.out).mono ?_); rintro e w5 ⟨rfl, hm, hb⟩; replace M := hm; replace HB := HB.trans hb; clear hm hb; clear c1; have c1 : w5.cell? ⟨g, 1, none⟩ = some (.int .i64 (R1.at_ : Int)) := M.box.cell 1)
            | ((with_reducible refine is_store ?_); refine wpl_store_cell rfl 3 (.tmp 43) _ rfl g 1 rfl (.int .i64 ((R1.at_ : Int) + 1)) rfl _ _ M.box (show 1 < 11 by decide) one_i rfl ?_; intro w6 hw; replace HB := HB.trans (M.low hw); replace M := M.s1 (R1.at_ + 1) hw; clear hw c1))
          go_roundw
          case rel => ((repeat apply Exists.intro); exact ⟨⟨{ R1 with at_ := R1.at_ + 1 }, M, HB, HHH.out, Lib.hid ⟨⟨(by show f ≤ R1.at_ + 1; have := HFK.out; omega), (by show R1.at_ + 1 ≤ f + 16; have := HTL.out; omega)⟩, .inl ⟨HP.out.1, HP.out.2, HN.out⟩⟩⟩, rfl⟩)
          case measure => (rw [rdPos_of HM0.out, rdPos_of M]; show b.length - (R1.at_ + 1) < _; have := HL1.out; omega)
        · have b3 : ¬ (t : Int) < 16 := by omega
          have HN : Hid (Stp b ans a R1.at_ 3 false) := Lib.hid (Stp.bad h rfl rfl p3 (meth_bad hk (by rw [HSL.out]; omega) (by omega)) (by omega))
          clear h p3 hk hbn
          go_wp2_with (first
            | (go_at_call 82; (with_reducible refine (peek_some M HPB.out HLB.out).mono ?_); rintro e w5 ⟨rfl, hm, hb⟩; replace M := hm; replace HB := HB.trans hb; clear hm hb; clear c1; have c1 : w5.cell? ⟨g, 1, none⟩ = some (.int .i64 (R1.at_ : Int)) := M.box.cell 1)
            | ((with_reducible refine is_store ?_); refine wpl_store_cell rfl 31 (.tmp 25) _ rfl g 2 rfl (.int .i64 3) rfl _ _ M.box (show 2 < 11 by decide) one_c rfl ?_; intro w6 hw; replace HB := HB.trans (M.low hw); replace M := M.s2 3 hw; clear hw))
          first | go_end0 | (refine bodyPost_ret (results_none rfl _ _ _) rfl ?_)
          exact ⟨rfl, HB, { R1 with bad := 3 }, _, _, M, .inr (by show Stp b ans a R1.at_ 3 R1.more; rw [HP.out.2]; exact HN.out), HHH.out⟩
      · by_cases a3 : c.toNat = 32
        · have b4 : (c.toNat : Int) = 32 := by omega
          have b5 : ¬ (65 : Int) ≤ (c.toNat : Int) := by omega
          by_cases a4 : 0 < t
          · have b3 : 0 < (t : Int) := by omega
            have HN : Hid (Atk b ans a (R1.at_ + 1) _) := Lib.hid (h.step p3 (meth_end hk a3 (by rw [HSL.out]; exact a4)))
            clear h p3 hk hlt hbn
            go_wp2_with (first
              | (go_at_call 82; (with_reducible refine (peek_some M HPB.out HLB.out).mono ?_); rintro e w5 ⟨rfl, hm, hb⟩; replace M := hm; replace HB := HB.trans hb; clear hm hb; clear c1; have c1 : w5.cell? ⟨g, 1, none⟩ = some (.int .i64 (R1.at_ : Int)) := M.box.cell 1))
            obtain ⟨bb, off, hA, _⟩ := M.row R1.at_ c HC.out
            subst hA
            refine wp_region_S (S := fun w' => w'.cell? ⟨g, 0, none⟩ = some (.slice (some ⟨bb, off, none⟩) b.length cp) ∧ w'.cell? ⟨g, 1, none⟩ = some (.int .i64 (R1.at_ : Int)) ∧ RowB w' (some ⟨bb, off, none⟩) b) (by kernel_rfl) (fun w6 hh => ⟨(box_heap hh M.box).cell 0, (box_heap hh M.box).cell 1, M.row.heap hh⟩) (fun w6 hh hbb HS0 => ?_)
            have hb := hbb _ (Nat.le_refl _)
            replace HB := HB.trans (hb.mono M.nw)
            replace M := M.below hb
            clear hh hbb hb c1
            refine TKC 0 51 rfl ?_
            try simp only [Act.put, zA, zB, zC]
            refine TKC 1 52 rfl ?_
            try simp only [Act.put, zA, zB, zC]
            refine TKC 2 53 rfl ?_
            try simp only [Act.put, zA, zB, zC]
            refine TKC 3 54 rfl ?_
            try simp only [Act.put, zA, zB, zC]
            refine TKC 4 55 rfl ?_ (by (intro w hSw; (try dsimp only at hSw); have q1 := hSw.1; go_simp; try with_reducible rfl))
            try simp only [Act.put, zA, zB, zC]
            refine TKC 5 56 rfl ?_
            try simp only [Act.put, zA, zB, zC]
            refine TKC 6 57 rfl ?_
            try simp only [Act.put, zA, zB, zC]
            refine TKC 7 58 rfl ?_
            try simp only [Act.put, zA, zB, zC]
            refine TKC 8 59 rfl ?_
            try simp only [Act.put, zA, zB, zC]
            refine TKC 9 60 rfl ?_ (by (intro w hSw; (try dsimp only at hSw); have q1 := hSw.2.1; go_simp; try with_reducible rfl))
            try simp only [Act.put, zA, zB, zC]
            refine TKC 10 61 (v := .slice (some ⟨bb, off + f, none⟩) (R1.at_ - f) (cp - f)) rfl ?_ (by (intro w hSw; (try dsimp only at hSw); have q1 : (f : Int) ≤ (R1.at_ : Int) := (by have := HFK.out; omega); have q2 : (R1.at_ : Int) ≤ (cp : Int) := (by have := HLT.out; have := M.cap; omega); have q3 : 0 ≤ (f : Int) := (by omega); have q4 : ((R1.at_ : Int)).toNat = R1.at_ := (by omega); have q5 : ((f : Int)).toNat = f := (by omega); have q6 : 0 ≤ (R1.at_ : Int) := (by omega); have q7 : ¬ cp = f := (by have := HLT.out; have := M.cap; have := HFK.out; omega); go_simp; try with_reducible rfl))
            try simp only [Act.put, zA, zB, zC]
            refine TKY 11 62 rfl (yields_text (by kernel_rfl) (.tmp 61) rfl rfl (fun w hSw => hSw.2.2.sub HFK.out (Nat.le_of_lt HLT.out) _)) ?_
            try simp only [Act.put, zA, zB, zC]
            refine TKC 12 63 rfl ?_
            try simp only [Act.put, zA, zB, zC]
            refine TKC 13 64 rfl ?_
            try simp only [Act.put, zA, zB, zC]
            refine TKC 14 65 rfl ?_
            try simp only [Act.put, zA, zB, zC]
            refine wpAnyH_ready (rs := [15]) (by kernel_rfl) (by simp) ?_
            refine AllReadyH.cons (o := ⟨none, _, _, _, _, _⟩) rfl (fun K hK => ?_) AllReadyH.nil
            simp only [Region.wanted, if_true]
            refine op_store_cell 9 _ _ rfl g 5 rfl (.string (txt (sl b f R1.at_))) rfl _ _ M.box (show 5 < 11 by decide) one_s rfl ?_
            intro w7 hw
            replace HB := HB.trans (M.low hw)
            replace M := M.s5 (txt (sl b f R1.at_)) hw
            clear hw
            replace HS0 := (show w7.cell? ⟨g, 0, none⟩ = some (.slice (some ⟨bb, off, none⟩) b.length cp) ∧ w7.cell? ⟨g, 1, none⟩ = some (.int .i64 (R1.at_ : Int)) ∧ RowB w7 (some ⟨bb, off, none⟩) b from ⟨M.box.cell 0, M.box.cell 1, M.row⟩)
            refine hK.out _ _ HS0 (fun hS2 => ?_)
            clear hK K hS2
            try simp only [Act.put, zA, zB, zC]
            refine wpAnyH_done (by kernel_rfl) ?_ _
            clear HS0
            have c1 : w7.cell? ⟨g, 1, none⟩ = some (.int .i64 (R1.at_ : Int)) := M.box.cell 1
            go_wp2_with (first
              | ((with_reducible refine is_store ?_); refine wpl_store_cell rfl 3 (.tmp 72) _ rfl g 1 rfl (.int .i64 ((R1.at_ : Int) + 1)) rfl _ _ M.box (show 1 < 11 by decide) one_i rfl ?_; intro w8 hw; replace HB := HB.trans (M.low hw); replace M := M.s1 (R1.at_ + 1) hw; clear hw c1))
            first | go_end0 | (refine bodyPost_ret (results_none rfl _ _ _) rfl ?_)
            exact ⟨rfl, HB, _, _, _, M, .inl ⟨HP.out.1, HP.out.2, HN.out⟩, HHH.out⟩
          · have b3 : ¬ 0 < (t : Int) := by omega
            have HN : Hid (Stp b ans a R1.at_ 3 false) := Lib.hid (Stp.bad h rfl rfl p3 (meth_bad hk (by omega) (by rw [HSL.out]; omega)) (by omega))
            clear h p3 hk hbn
            go_wp2_with (first
              | (go_at_call 82; (with_reducible refine (peek_some M HPB.out HLB.out).mono ?_); rintro e w5 ⟨rfl, hm, hb⟩; replace M := hm; replace HB := HB.trans hb; clear hm hb; clear c1; have c1 : w5.cell? ⟨g, 1, none⟩ = some (.int .i64 (R1.at_ : Int)) := M.box.cell 1)
              | ((with_reducible refine is_store ?_); refine wpl_store_cell rfl 31 (.tmp 25) _ rfl g 2 rfl (.int .i64 3) rfl _ _ M.box (show 2 < 11 by decide) one_c rfl ?_; intro w6 hw; replace HB := HB.trans (M.low hw); replace M := M.s2 3 hw; clear hw))
            first | go_end0 | (refine bodyPost_ret (results_none rfl _ _ _) rfl ?_)
            exact ⟨rfl, HB, { R1 with bad := 3 }, _, _, M, .inr (by show Stp b ans a R1.at_ 3 R1.more; rw [HP.out.2]; exact HN.out), HHH.out⟩
        · have b4 : ((c.toNat : Int) == 32) = false := by rw [beq_eq_false_iff_ne]; omega
          by_cases a5 : 65 ≤ c.toNat
          · have b1 : (65 : Int) ≤ (c.toNat : Int) := by omega
            have b2 : ¬ (c.toNat : Int) ≤ 90 := by omega
            have HN : Hid (Stp b ans a R1.at_ 3 false) := Lib.hid (Stp.bad h rfl rfl p3 (meth_bad hk (by omega) (by rw [HSL.out]; omega)) (by omega))
            clear h p3 hk hbn
            go_wp2_with (first
              | (go_at_call 82; (with_reducible refine (peek_some M HPB.out HLB.out).mono ?_); rintro e w5 ⟨rfl, hm, hb⟩; replace M := hm; replace HB := HB.trans hb; clear hm hb; clear c1; have c1 : w5.cell? ⟨g, 1, none⟩ = some (.int .i64 (R1.at_ : Int)) := M.box.cell 1)
              | ((with_reducible refine is_store ?_); refine wpl_store_cell rfl 31 (.tmp 25) _ rfl g 2 rfl (.int .i64 3) rfl _ _ M.box (show 2 < 11 by decide) one_c rfl ?_; intro w6 hw; replace HB := HB.trans (M.low hw); replace M := M.s2 3 hw; clear hw))
            first | go_end0 | (refine bodyPost_ret (results_none rfl _ _ _) rfl ?_)
            exact ⟨rfl, HB, { R1 with bad := 3 }, _, _, M, .inr (by show Stp b ans a R1.at_ 3 R1.more; rw [HP.out.2]; exact HN.out), HHH.out⟩
          · have b1 : ¬ (65 : Int) ≤ (c.toNat : Int) := by omega
            have HN : Hid (Stp b ans a R1.at_ 3 false) := Lib.hid (Stp.bad h rfl rfl p3 (meth_bad hk (by omega) (by rw [HSL.out]; omega)) (by omega))
            clear h p3 hk hbn
            go_wp2_with (first
              | (go_at_call 82; (with_reducible refine (peek_some M HPB.out HLB.out).mono ?_); rintro e w5 ⟨rfl, hm, hb⟩; replace M := hm; replace HB := HB.trans hb; clear hm hb; clear c1; have c1 : w5.cell? ⟨g, 1, none⟩ = some (.int .i64 (R1.at_ : Int)) := M.box.cell 1)
              | ((with_reducible refine is_store ?_); refine wpl_store_cell rfl 31 (.tmp 25) _ rfl g 2 rfl (.int .i64 3) rfl _ _ M.box (show 2 < 11 by decide) one_c rfl ?_; intro w6 hw; replace HB := HB.trans (M.low hw); replace M := M.s2 3 hw; clear hw))
            first | go_end0 | (refine bodyPost_ret (results_none rfl _ _ _) rfl ?_)
            exact ⟨rfl, HB, { R1 with bad := 3 }, _, _, M, .inr (by show Stp b ans a R1.at_ 3 R1.more; rw [HP.out.2]; exact HN.out), HHH.out⟩
set_option maxRecDepth 100000 in
set_option maxHeartbeats 8000000 in
theorem rtarget_any (M : RdM n g R b A cp hs bd w) (hR : Rn b ans a (fun k m => Atk b ans a k (hF ans a k 1 [] m 0)) R) (hh : R.head = true) (hl : b.length ≤ 1099511627776) :
    Calls Tryz.prog 81 #[.pointer (some ⟨g, 0, none⟩)] w (PhV n g b A cp ans a (fun k m => Atk b ans a k (hF ans a k 2 [] m 0)) true w) := by
  obtain ⟨f, hf⟩ : ∃ f, R.at_ = f := ⟨_, rfl⟩
  have HB := Below.refl n w
  have HLB := Lib.hid hl
  have HR0 : Hid ((f ≤ R.at_ ∧ R.at_ ≤ f + 2048) ∧ ((R.bad = 0 ∧ R.more = false ∧ Atk b ans a R.at_ (hF ans a R.at_ 1 (sl b f R.at_) R.m 0)) ∨ Stp b ans a R.at_ R.bad R.more)) := Lib.hid ⟨⟨by omega, by omega⟩, by rw [hf, sl_nil]; rw [← hf]; exact hR⟩
  have c1 : w.cell? ⟨g, 1, none⟩ = some (.int .i64 (f : Int)) := by rw [← hf]; exact M.box.cell 1
  have HH0 := Lib.hid hh
  clear hl hR hf hh
  go_enter Tryz.func81, Tryz.ntmps81
  go_wp2
  clear c1
  go_loopw [] (fun wr => ∃ R1 : Rd, RdM n g R1 b A cp hs bd wr ∧ Below n w wr ∧ R1.head = true ∧ Hid ((f ≤ R1.at_ ∧ R1.at_ ≤ f + 2048) ∧ ((R1.bad = 0 ∧ R1.more = false ∧ Atk b ans a R1.at_ (hF ans a R1.at_ 1 (sl b f R1.at_) R1.m 0)) ∨ Stp b ans a R1.at_ R1.bad R1.more))) (fun wr => b.length - rdPos wr g)
  case atStart => exact ⟨R, M, HB, HH0.out, HR0⟩
  case round =>
    clear HB M HR0 HH0
    obtain ⟨R1, M, HB, hh, HR1⟩ := hrel
    have HHH := Lib.hid hh
    have hln := HLB.out
    have HM0 := Lib.hid M
    clear hh
    have HLA : Hid (R1.at_ ≤ 1099511627776) := Lib.hid (by
      rcases HR1.out.2 with h | h
      · have := h.2.2.1; omega
      · have := h.le; omega)
    cases hp : pkB b R1
    · have HPB := Lib.hid hp
      have HST : Hid (Stp b ans a (pkN b R1).at_ (pkN b R1).bad (pkN b R1).more) := Lib.hid (Rn.none_ (ok := fun k m => Atk b ans a k (hF ans a k 1 (sl b f k) m 0)) HR1.out.2 (fun h => ⟨_, h, rfl, rfl, fun _ => rfl⟩) hp)
      clear hp
      go_wp2_with (first
        | (go_at_call 82; (with_reducible refine (peek_none M HPB.out HLB.out HLA.out).mono ?_); rintro e w5 ⟨rfl, hm, hb⟩; replace M := hm; replace HB := HB.trans hb; clear hm hb))
      first | go_end0 | (refine bodyPost_ret (results_none rfl _ _ _) rfl ?_)
      exact ⟨rfl, HB, pkN b R1, _, _, M, .inr HST.out, pkN_head.trans HHH.out⟩
    · rename_i c
      have HPB := Lib.hid hp
      obtain ⟨p1, p2, h, p3, p4⟩ := Rn.some_ (ok := fun k m => Atk b ans a k (hF ans a k 1 (sl b f k) m 0)) HR1.out.2 hp
      have hk := p4 HHH.out
      have HFK := Lib.hid HR1.out.1.1
      have hbn := HR1.out.1.2
      have hlt : R1.at_ < b.length := (List.getElem?_eq_some_iff.1 p3).1
      have HLT : Hid (R1.at_ < b.length) := Lib.hid hlt
      have HC := Lib.hid p3
      have HSN : Hid (sl b f (R1.at_ + 1) = sl b f R1.at_ ++ [c]) := Lib.hid (sl_snoc p3 HR1.out.1.1)
      have hsl : (sl b f R1.at_).length = R1.at_ - f := sl_len (Nat.le_of_lt HLT.out)
      have c1 : wr.cell? ⟨g, 1, none⟩ = some (.int .i64 (R1.at_ : Int)) := M.box.cell 1
      have HP := Lib.hid (show R1.bad = 0 ∧ R1.more = false from ⟨p1, p2⟩)
      have hsub : (R1.at_ : Int) - (f : Int) = ((R1.at_ - f : Nat) : Int) := by have := HFK.out; omega
      have hal : (R1.at_ : Int) ≤ 1099511627776 := by have := HLA.out; omega
      obtain ⟨t, ht⟩ : ∃ t, R1.at_ - f = t := ⟨_, rfl⟩
      rw [ht] at hsub hsl
      have HSL := Lib.hid hsl
      have HTT := Lib.hid ht
      clear hp p1 p2 p4 ht hsl
      by_cases a1 : 33 ≤ c.toNat ∧ c.toNat ≤ 126
      · have b1 : (33 : Int) ≤ (c.toNat : Int) := by omega
        have b2 : (c.toNat : Int) ≤ 126 := by omega
        by_cases a2 : t < 2048
        · have b3 : (t : Int) < 2048 := by omega
          have HN : Hid (Atk b ans a (R1.at_ + 1) _) := Lib.hid (h.step p3 (targ_put hk a1 (by rw [HSL.out]; exact a2)))
          have HTL : Hid (R1.at_ < f + 2048) := Lib.hid (by have := HTT.out; omega)
          rw [← HSN.out] at HN
          have HL1 := Lib.hid hlt
          clear h p3 hk hlt hbn
          go_wp2_with (first
            | (go_at_call 82; (with_reducible refine (peek_some M HPB.out HLB.out).mono ?_); rintro e w5 ⟨rfl, hm, hb⟩; replace M := hm; replace HB := HB.trans hb; clear hm hb; clear c1; have c1 : w5.cell? ⟨g, 1, none⟩ = some (.int .i64 (R1.at_ : Int)) := M.box.cell 1)
            | ((with_reducible refine is_store ?_); refine wpl_store_cell rfl 3 (.tmp 43) _ rfl g 1 rfl (.int .i64 ((R1.at_ : Int) + 1)) rfl _ _ M.box (show 1 < 11 by decide) one_i rfl ?_; intro w6 hw; replace HB := HB.trans (M.low hw); replace M := M.s1 (R1.at_ + 1) hw; clear hw c1))
          go_roundw
          case rel => ((repeat apply Exists.intro); exact ⟨⟨{ R1 with at_ := R1.at_ + 1 }, M, HB, HHH.out, Lib.hid ⟨⟨(by show f ≤ R1.at_ + 1; have := HFK.out; omega), (by show R1.at_ + 1 ≤ f + 2048; have := HTL.out; omega)⟩, .inl ⟨HP.out.1, HP.out.2, HN.out⟩⟩⟩, rfl⟩)
          case measure => (rw [rdPos_of HM0.out, rdPos_of M]; show b.length - (R1.at_ + 1) < _; have := HL1.out; omega)
        · have b3 : ¬ (t : Int) < 2048 := by omega
          have a5 : t = 2048 := by
            have := HTT.out
            omega
          have HN : Hid (Stp b ans a R1.at_ 2 false) := Lib.hid (Stp.bad h rfl rfl p3 (targ_long hk a1 (by rw [HSL.out]; exact a5)) (by omega))
          clear h p3 hk hbn
          go_wp2_with (first
            | (go_at_call 82; (with_reducible refine (peek_some M HPB.out HLB.out).mono ?_); rintro e w5 ⟨rfl, hm, hb⟩; replace M := hm; replace HB := HB.trans hb; clear hm hb; clear c1; have c1 : w5.cell? ⟨g, 1, none⟩ = some (.int .i64 (R1.at_ : Int)) := M.box.cell 1)
            | ((with_reducible refine is_store ?_); refine wpl_store_cell rfl 31 (.tmp 53) _ rfl g 2 rfl (.int .i64 2) rfl _ _ M.box (show 2 < 11 by decide) one_c rfl ?_; intro w6 hw; replace HB := HB.trans (M.low hw); replace M := M.s2 2 hw; clear hw))
          first | go_end0 | (refine bodyPost_ret (results_none rfl _ _ _) rfl ?_)
          exact ⟨rfl, HB, { R1 with bad := 2 }, _, _, M, .inr (by show Stp b ans a R1.at_ 2 R1.more; rw [HP.out.2]; exact HN.out), HHH.out⟩
      · by_cases a3 : c.toNat = 32
        · have b4 : (c.toNat : Int) = 32 := by omega
          have b5 : ¬ (33 : Int) ≤ (c.toNat : Int) := by omega
          by_cases a4 : 0 < t
          · have b3 : 0 < (t : Int) := by omega
            have HN : Hid (Atk b ans a (R1.at_ + 1) _) := Lib.hid (h.step p3 (targ_end hk a3 (by rw [HSL.out]; exact a4)))
            clear h p3 hk hlt hbn
            go_wp2_with (first
              | (go_at_call 82; (with_reducible refine (peek_some M HPB.out HLB.out).mono ?_); rintro e w5 ⟨rfl, hm, hb⟩; replace M := hm; replace HB := HB.trans hb; clear hm hb; clear c1; have c1 : w5.cell? ⟨g, 1, none⟩ = some (.int .i64 (R1.at_ : Int)) := M.box.cell 1))
            obtain ⟨bb, off, hA, _⟩ := M.row R1.at_ c HC.out
            subst hA
            refine wp_region_S (S := fun w' => w'.cell? ⟨g, 0, none⟩ = some (.slice (some ⟨bb, off, none⟩) b.length cp) ∧ w'.cell? ⟨g, 1, none⟩ = some (.int .i64 (R1.at_ : Int)) ∧ RowB w' (some ⟨bb, off, none⟩) b) (by kernel_rfl) (fun w6 hh => ⟨(box_heap hh M.box).cell 0, (box_heap hh M.box).cell 1, M.row.heap hh⟩) (fun w6 hh hbb HS0 => ?_)
            have hb := hbb _ (Nat.le_refl _)
            replace HB := HB.trans (hb.mono M.nw)
            replace M := M.below hb
            clear hh hbb hb c1
            refine TKC 0 61 rfl ?_
            try simp only [Act.put, zA, zB, zC]
            refine TKC 1 62 rfl ?_
            try simp only [Act.put, zA, zB, zC]
            refine TKC 2 63 rfl ?_
            try simp only [Act.put, zA, zB, zC]
            refine TKC 3 64 rfl ?_
            try simp only [Act.put, zA, zB, zC]
            refine TKC 4 65 rfl ?_ (by (intro w hSw; (try dsimp only at hSw); have q1 := hSw.1; go_simp; try with_reducible rfl))
            try simp only [Act.put, zA, zB, zC]
            refine TKC 5 66 rfl ?_
            try simp only [Act.put, zA, zB, zC]
            refine TKC 6 67 rfl ?_
            try simp only [Act.put, zA, zB, zC]
            refine TKC 7 68 rfl ?_
            try simp only [Act.put, zA, zB, zC]
            refine TKC 8 69 rfl ?_
            try simp only [Act.put, zA, zB, zC]
            refine TKC 9 70 rfl ?_ (by (intro w hSw; (try dsimp only at hSw); have q1 := hSw.2.1; go_simp; try with_reducible rfl))
            try simp only [Act.put, zA, zB, zC]
            refine TKC 10 71 (v := .slice (some ⟨bb, off + f, none⟩) (R1.at_ - f) (cp - f)) rfl ?_ (by (intro w hSw; (try dsimp only at hSw); have q1 : (f : Int) ≤ (R1.at_ : Int) := (by have := HFK.out; omega); have q2 : (R1.at_ : Int) ≤ (cp : Int) := (by have := HLT.out; have := M.cap; omega); have q3 : 0 ≤ (f : Int) := (by omega); have q4 : ((R1.at_ : Int)).toNat = R1.at_ := (by omega); have q5 : ((f : Int)).toNat = f := (by omega); have q6 : 0 ≤ (R1.at_ : Int) := (by omega); have q7 : ¬ cp = f := (by have := HLT.out; have := M.cap; have := HFK.out; omega); go_simp; try with_reducible rfl))
            try simp only [Act.put, zA, zB, zC]
            refine TKY 11 72 rfl (yields_text (by kernel_rfl) (.tmp 71) rfl rfl (fun w hSw => hSw.2.2.sub HFK.out (Nat.le_of_lt HLT.out) _)) ?_
            try simp only [Act.put, zA, zB, zC]
            refine TKC 12 73 rfl ?_
            try simp only [Act.put, zA, zB, zC]
            refine TKC 13 74 rfl ?_
            try simp only [Act.put, zA, zB, zC]
            refine TKC 14 75 rfl ?_
            try simp only [Act.put, zA, zB, zC]
            refine wpAnyH_ready (rs := [15]) (by kernel_rfl) (by simp) ?_
            refine AllReadyH.cons (o := ⟨none, _, _, _, _, _⟩) rfl (fun K hK => ?_) AllReadyH.nil
            simp only [Region.wanted, if_true]
            refine op_store_cell 9 _ _ rfl g 6 rfl (.string (txt (sl b f R1.at_))) rfl _ _ M.box (show 6 < 11 by decide) one_s rfl ?_
            intro w7 hw
            replace HB := HB.trans (M.low hw)
            replace M := M.s6 (txt (sl b f R1.at_)) hw
            clear hw
            replace HS0 := (show w7.cell? ⟨g, 0, none⟩ = some (.slice (some ⟨bb, off, none⟩) b.length cp) ∧ w7.cell? ⟨g, 1, none⟩ = some (.int .i64 (R1.at_ : Int)) ∧ RowB w7 (some ⟨bb, off, none⟩) b from ⟨M.box.cell 0, M.box.cell 1, M.row⟩)
            refine hK.out _ _ HS0 (fun hS2 => ?_)
            clear hK K hS2
            try simp only [Act.put, zA, zB, zC]
            refine wpAnyH_done (by kernel_rfl) ?_ _
            clear HS0
            have c1 : w7.cell? ⟨g, 1, none⟩ = some (.int .i64 (R1.at_ : Int)) := M.box.cell 1
            go_wp2_with (first
              | ((with_reducible refine is_store ?_); refine wpl_store_cell rfl 3 (.tmp 82) _ rfl g 1 rfl (.int .i64 ((R1.at_ : Int) + 1)) rfl _ _ M.box (show 1 < 11 by decide) one_i rfl ?_; intro w8 hw; replace HB := HB.trans (M.low hw); replace M := M.s1 (R1.at_ + 1) hw; clear hw c1))
            first | go_end0 | (refine bodyPost_ret (results_none rfl _ _ _) rfl ?_)
            exact ⟨rfl, HB, _, _, _, M, .inl ⟨HP.out.1, HP.out.2, HN.out⟩, HHH.out⟩
          · have b3 : ¬ 0 < (t : Int) := by omega
            have b6 : ((t : Int) == 2048) = false := by rw [beq_eq_false_iff_ne]; omega
            have HN : Hid (Stp b ans a R1.at_ 3 false) := Lib.hid (Stp.bad h rfl rfl p3 (targ_bad hk (by omega) (by rw [HSL.out]; omega)) (by omega))
            clear h p3 hk hbn
            go_wp2_with (first
              | (go_at_call 82; (with_reducible refine (peek_some M HPB.out HLB.out).mono ?_); rintro e w5 ⟨rfl, hm, hb⟩; replace M := hm; replace HB := HB.trans hb; clear hm hb; clear c1; have c1 : w5.cell? ⟨g, 1, none⟩ = some (.int .i64 (R1.at_ : Int)) := M.box.cell 1)
              | ((with_reducible refine is_store ?_); refine wpl_store_cell rfl 31 (.tmp 25) _ rfl g 2 rfl (.int .i64 3) rfl _ _ M.box (show 2 < 11 by decide) one_c rfl ?_; intro w6 hw; replace HB := HB.trans (M.low hw); replace M := M.s2 3 hw; clear hw))
            first | go_end0 | (refine bodyPost_ret (results_none rfl _ _ _) rfl ?_)
            exact ⟨rfl, HB, { R1 with bad := 3 }, _, _, M, .inr (by show Stp b ans a R1.at_ 3 R1.more; rw [HP.out.2]; exact HN.out), HHH.out⟩
        · have b4 : ((c.toNat : Int) == 32) = false := by rw [beq_eq_false_iff_ne]; omega
          by_cases a5 : 33 ≤ c.toNat
          · have b1 : (33 : Int) ≤ (c.toNat : Int) := by omega
            have b2 : ¬ (c.toNat : Int) ≤ 126 := by omega
            by_cases a6 : t = 2048
            · have b6 : (t : Int) = 2048 := by omega
              have HN : Hid (Stp b ans a R1.at_ 3 false) := Lib.hid (Stp.bad h rfl rfl p3 (targ_bad hk (by omega) (by omega)) (by omega))
              clear h p3 hk hbn
              go_wp2_with (first
                | (go_at_call 82; (with_reducible refine (peek_some M HPB.out HLB.out).mono ?_); rintro e w5 ⟨rfl, hm, hb⟩; replace M := hm; replace HB := HB.trans hb; clear hm hb; clear c1; have c1 : w5.cell? ⟨g, 1, none⟩ = some (.int .i64 (R1.at_ : Int)) := M.box.cell 1)
                | ((with_reducible refine is_store ?_); refine wpl_store_cell rfl 31 (.tmp 92) _ rfl g 2 rfl (.int .i64 3) rfl _ _ M.box (show 2 < 11 by decide) one_c rfl ?_; intro w6 hw; replace HB := HB.trans (M.low hw); replace M := M.s2 3 hw; clear hw))
              first | go_end0 | (refine bodyPost_ret (results_none rfl _ _ _) rfl ?_)
              exact ⟨rfl, HB, { R1 with bad := 3 }, _, _, M, .inr (by show Stp b ans a R1.at_ 3 R1.more; rw [HP.out.2]; exact HN.out), HHH.out⟩
            · have b6 : ((t : Int) == 2048) = false := by rw [beq_eq_false_iff_ne]; omega
              have HN : Hid (Stp b ans a R1.at_ 3 false) := Lib.hid (Stp.bad h rfl rfl p3 (targ_bad hk (by omega) (by rw [HSL.out]; omega)) (by omega))
              clear h p3 hk hbn
              go_wp2_with (first
                | (go_at_call 82; (with_reducible refine (peek_some M HPB.out HLB.out).mono ?_); rintro e w5 ⟨rfl, hm, hb⟩; replace M := hm; replace HB := HB.trans hb; clear hm hb; clear c1; have c1 : w5.cell? ⟨g, 1, none⟩ = some (.int .i64 (R1.at_ : Int)) := M.box.cell 1)
                | ((with_reducible refine is_store ?_); refine wpl_store_cell rfl 31 (.tmp 25) _ rfl g 2 rfl (.int .i64 3) rfl _ _ M.box (show 2 < 11 by decide) one_c rfl ?_; intro w6 hw; replace HB := HB.trans (M.low hw); replace M := M.s2 3 hw; clear hw))
              first | go_end0 | (refine bodyPost_ret (results_none rfl _ _ _) rfl ?_)
              exact ⟨rfl, HB, { R1 with bad := 3 }, _, _, M, .inr (by show Stp b ans a R1.at_ 3 R1.more; rw [HP.out.2]; exact HN.out), HHH.out⟩
          · have b1 : ¬ (33 : Int) ≤ (c.toNat : Int) := by omega
            by_cases a6 : t = 2048
            · have b6 : (t : Int) = 2048 := by omega
              have HN : Hid (Stp b ans a R1.at_ 3 false) := Lib.hid (Stp.bad h rfl rfl p3 (targ_bad hk (by omega) (by omega)) (by omega))
              clear h p3 hk hbn
              go_wp2_with (first
                | (go_at_call 82; (with_reducible refine (peek_some M HPB.out HLB.out).mono ?_); rintro e w5 ⟨rfl, hm, hb⟩; replace M := hm; replace HB := HB.trans hb; clear hm hb; clear c1; have c1 : w5.cell? ⟨g, 1, none⟩ = some (.int .i64 (R1.at_ : Int)) := M.box.cell 1)
                | ((with_reducible refine is_store ?_); refine wpl_store_cell rfl 31 (.tmp 92) _ rfl g 2 rfl (.int .i64 3) rfl _ _ M.box (show 2 < 11 by decide) one_c rfl ?_; intro w6 hw; replace HB := HB.trans (M.low hw); replace M := M.s2 3 hw; clear hw))
              first | go_end0 | (refine bodyPost_ret (results_none rfl _ _ _) rfl ?_)
              exact ⟨rfl, HB, { R1 with bad := 3 }, _, _, M, .inr (by show Stp b ans a R1.at_ 3 R1.more; rw [HP.out.2]; exact HN.out), HHH.out⟩
            · have b6 : ((t : Int) == 2048) = false := by rw [beq_eq_false_iff_ne]; omega
              have HN : Hid (Stp b ans a R1.at_ 3 false) := Lib.hid (Stp.bad h rfl rfl p3 (targ_bad hk (by omega) (by rw [HSL.out]; omega)) (by omega))
              clear h p3 hk hbn
              go_wp2_with (first
                | (go_at_call 82; (with_reducible refine (peek_some M HPB.out HLB.out).mono ?_); rintro e w5 ⟨rfl, hm, hb⟩; replace M := hm; replace HB := HB.trans hb; clear hm hb; clear c1; have c1 : w5.cell? ⟨g, 1, none⟩ = some (.int .i64 (R1.at_ : Int)) := M.box.cell 1)
                | ((with_reducible refine is_store ?_); refine wpl_store_cell rfl 31 (.tmp 25) _ rfl g 2 rfl (.int .i64 3) rfl _ _ M.box (show 2 < 11 by decide) one_c rfl ?_; intro w6 hw; replace HB := HB.trans (M.low hw); replace M := M.s2 3 hw; clear hw))
              first | go_end0 | (refine bodyPost_ret (results_none rfl _ _ _) rfl ?_)
              exact ⟨rfl, HB, { R1 with bad := 3 }, _, _, M, .inr (by show Stp b ans a R1.at_ 3 R1.more; rw [HP.out.2]; exact HN.out), HHH.out⟩
end
end Go.Proofs.YtbehakabglegjaaGreatDoor
