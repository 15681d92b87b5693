/- Layer 9: a feed's steps: a line's last byte; whichever step takes the next byte. Layer 9: what a step's answer is bound to (plain). -/
import Derived.Test.YtbehakabglegjaaGreatDoorQ14
import Derived.Test.YtbehakabglegjaaGreatDoorQ15
import Derived.Test.YtbehakabglegjaaGreatDoorQ16
import Derived.Test.YtbehakabglegjaaGreatDoorQ17
import Derived.Test.YtbehakabglegjaaGreatDoorQ18
import Derived.Test.YtbehakabglegjaaGreatDoorQ00
import Derived.Test.YtbehakabglegjaaGreatDoorQ13
namespace Go.Proofs.YtbehakabglegjaaGreatDoor
open Go.RowKit Go.PlainAid
set_option linter.unusedVariables false
set_option linter.unusedSimpArgs false
set_option maxRecDepth 100000 in
set_option maxHeartbeats 4000000 in
theorem line_any {base : Bs} {g : Nat} {F : Fs} {nx tk hs bd wh : Value} {L : List Mm} {w : World} {c : UInt8} (h : FdM base g F nx tk hs bd wh L w) (hj : FJ F) (hx : F.next = 5) (hz : HZ F) (hw : Wh w base.n) (hn : F.whole.length < 1099511627776) :
    Calls Tryz.prog 104 #[.pointer (some ⟨g, 0, none⟩), .int .u8 (c.toNat : Int)] w (StV base g F c w) := by
  have HS : Hid (stepS F c = lineS F c) := Lib.hid (by unfold stepS; rw [hx]; rfl)
  clear hx
  obtain ⟨A, cp, htk⟩ := bt_slice h.2.rt
  subst htk
  have B := h.1
  have R := Lib.hid h.2
  have HB := Bl.refl base w
  clear h
  have c15 : w.cell? ⟨g, 15, none⟩ = some (.int .i64 F.about) := B.cell 15
  by_cases h1 : c.toNat = 10
  · by_cases h2 : F.about = 2
    · have HV : Hid (lineS F c = bodyS F) := Lib.hid (by unfold lineS; rw [if_neg (by omega), if_neg (by simpa using h2)])
      have hM := body_any (fdm B R.out) hj hz hw hn
      have HQ := Lib.hid hM
      clear hM hj hz hw hn
      cases hq : bodyS F with
      | bad k =>
        have HV2 : Hid (stepS F c = .bad k) := Lib.hid (by rw [HS.out, HV.out, hq])
        have HM : Hid (Calls Tryz.prog 126 #[.pointer (some ⟨g, 0, none⟩)] w fun e w' => e = .returned (.tuple #[.nilFunc, .int .i64 k]) ∧ Bl base w w' ∧ ∃ G nx tk hs bd wh L, FdM base g G nx tk hs bd wh L w' ∧ G.pos = F.pos ∧ G.whole = F.whole ∧ G.shut = F.shut) := Lib.hid (HQ.out.mono fun e w' hh => by
          unfold BdV at hh
          rw [hq] at hh
          exact ⟨hh.2.1, hh.1, hh.2.2⟩)
        clear hq HQ
        go_enter Tryz.func104, Tryz.ntmps104
        go_wp2_with (first
          | (go_at_call 126; (with_reducible refine HM.out.mono ?_); rintro e w5 ⟨rfl, hb, hm⟩))
        go_ret2
        exact ⟨hb, by rw [HV2.out]; exact ⟨rfl, hm⟩⟩
      | ok G =>
        have HV2 : Hid (stepS F c = .ok G) := Lib.hid (by rw [HS.out, HV.out, hq])
        have HM : Hid (Calls Tryz.prog 126 #[.pointer (some ⟨g, 0, none⟩)] w fun e w' => e = .returned (.tuple #[stepV G.next, .int .i64 0]) ∧ Bl base w w' ∧ ∃ nx tk hs bd wh L, FdM base g G nx tk hs bd wh L w') := Lib.hid (HQ.out.mono fun e w' hh => by
          unfold BdV at hh
          rw [hq] at hh
          exact ⟨hh.2.1, hh.1, hh.2.2⟩)
        clear hq HQ
        go_enter Tryz.func104, Tryz.ntmps104
        go_wp2_with (first
          | (go_at_call 126; (with_reducible refine HM.out.mono ?_); rintro e w5 ⟨rfl, hb, hm⟩))
        go_ret2
        exact ⟨hb, by rw [HV2.out]; exact ⟨rfl, hm⟩⟩
    · have HV : Hid (lineS F c = .ok { F with about := 1, next := 6 }) := Lib.hid (by unfold lineS; rw [if_neg (by omega), if_pos h2])
      clear hj hz hw hn
      go_enter Tryz.func104, Tryz.ntmps104
      go_wp2_with (first
        | ((with_reducible refine is_store ?_); refine wpl_store_cell rfl 3 (.tmp 17) _ rfl g 15 rfl (.int .i64 1) rfl _ _ B (show 15 < 16 by decide) one_i rfl ?_; intro w4 hw; replace HB := HB.trans (R.out.store hw); replace R := Lib.hid (R.out.row (Bes.row (X := fun q => q = g) hw rfl)); replace B := hid_row hw B; simp only [FdC_15] at B; clear hw))
      go_ret2
      exact StV.ok (HS.out.trans HV.out) HB (fdm B (R.out.same rfl rfl rfl rfl)) rfl
  · have HV : Hid (lineS F c = .bad 3) := Lib.hid (by unfold lineS; rw [if_pos h1])
    clear hj hz hw hn
    go_enter Tryz.func104, Tryz.ntmps104
    go_wp2
    go_ret2
    exact StV.bad (HS.out.trans HV.out) HB (fdm B R.out)
theorem step_any {base : Bs} {g : Nat} {F : Fs} {nx tk hs bd wh : Value} {L : List Mm} {w : World} {c : UInt8} (h : FdM base g F nx tk hs bd wh L w) (hj : FJ F) (hz : HZ F) (hw : Wh w base.n) (hn : F.whole.length < 1099511627776) (hx : F.next ≤ 13) :
    Calls Tryz.prog (stepId F.next) #[.pointer (some ⟨g, 0, none⟩), .int .u8 (c.toNat : Int)] w (StV base g F c w) := by
  have hc : F.next = 0 ∨ F.next = 1 ∨ F.next = 2 ∨ F.next = 3 ∨ F.next = 4 ∨ F.next = 5 ∨ F.next = 6 ∨ F.next = 7 ∨ F.next = 8 ∨ F.next = 9 ∨ F.next = 10 ∨ F.next = 11 ∨ F.next = 12 ∨ F.next = 13 := by omega
  rcases hc with k | k | k | k | k | k | k | k | k | k | k | k | k | k
  · rw [k]; exact method_any h hj k
  · rw [k]; exact target_any h hj k
  · rw [k]; exact version_any h hj k
  · rw [k]; exact status_any h hj k
  · rw [k]; exact reason_any h hj k
  · rw [k]; exact line_any h hj k hz hw hn
  · rw [k]; exact name_any2 h hj k
  · rw [k]; exact value_any2 h hj k
  · rw [k]; exact hbytes_any h hj k hn
  · rw [k]; exact digits_any h hj k
  · rw [k]; exact sized_any h hj k
  · rw [k]; exact piece_any h hj k
  · rw [k]; exact tail_any h hj k
  · rw [k]; exact last_any h hj k hn
end Go.Proofs.YtbehakabglegjaaGreatDoor
namespace Go.Proofs.YtbehakabglegjaaGreatDoor
set_option linter.unusedVariables false
set_option linter.unusedSimpArgs false
/-- What is amiss has a code, and at most one message ends at a byte. -/
def StK (f : Fs) : St → Prop
  | .bad k => k = 2 ∨ k = 3 ∨ k = 31 ∨ k = 32
  | .ok g => g.whole.length ≤ f.whole.length + 1 ∧ g.ans = f.ans ∧ g.pos = f.pos
theorem stk_ite {f : Fs} {p : Prop} [Decidable p] {a b : St} (h1 : StK f a) (h2 : StK f b) : StK f (if p then a else b) := by
  by_cases h : p
  · rw [if_pos h]; exact h1
  · rw [if_neg h]; exact h2
theorem stk_same {f g : Fs} (h : g.whole = f.whole) (h2 : g.ans = f.ans) (h3 : g.pos = f.pos) : StK f (.ok g) := ⟨by rw [h]; exact Nat.le_succ _, h2, h3⟩
theorem stk_end {f g : Fs} (h : g.whole = f.whole) (h2 : g.ans = f.ans) (h3 : g.pos = f.pos) : StK f (.ok g.end_) := ⟨by show (g.whole ++ [g.m]).length ≤ _; rw [List.length_append, h]; exact Nat.le_refl _, h2, h3⟩
theorem step_k {f : Fs} {c : UInt8} (hn : f.next ≤ 13) : StK f (stepS f c) := by
  have hc : f.next = 0 ∨ f.next = 1 ∨ f.next = 2 ∨ f.next = 3 ∨ f.next = 4 ∨ f.next = 5 ∨ f.next = 6 ∨ f.next = 7 ∨ f.next = 8 ∨ f.next = 9 ∨ f.next = 10 ∨ f.next = 11 ∨ f.next = 12 ∨ f.next = 13 := by omega
  rcases hc with hn | hn | hn | hn | hn | hn | hn | hn | hn | hn | hn | hn | hn | hn
  all_goals simp only [stepS, hn]
  · unfold methodS
    repeat' (refine stk_ite ?_ ?_)
    all_goals first | exact stk_same rfl rfl rfl | (simp [StK])
  · unfold targetS
    repeat' (refine stk_ite ?_ ?_)
    all_goals first | exact stk_same rfl rfl rfl | (simp [StK])
  · unfold versionS
    repeat' (refine stk_ite ?_ ?_)
    all_goals first | exact stk_same rfl rfl rfl | (simp [StK])
  · unfold statusS
    repeat' (refine stk_ite ?_ ?_)
    all_goals first | exact stk_same rfl rfl rfl | (simp [StK])
  · unfold reasonS
    repeat' (refine stk_ite ?_ ?_)
    all_goals first | exact stk_same rfl rfl rfl | (simp [StK])
  · unfold lineS bodyS
    repeat' (refine stk_ite ?_ ?_)
    all_goals first | exact stk_same rfl rfl rfl | exact stk_end rfl rfl rfl | (simp [StK])
  · unfold nameS
    repeat' (refine stk_ite ?_ ?_)
    all_goals first | exact stk_same rfl rfl rfl | (simp [StK])
  · unfold valueS
    repeat' (refine stk_ite ?_ ?_)
    all_goals first | exact stk_same rfl rfl rfl | (simp [StK])
  · unfold bytesS
    repeat' (refine stk_ite ?_ ?_)
    all_goals first | exact stk_same rfl rfl rfl | exact stk_end rfl rfl rfl | (simp [StK])
  · unfold digitsS
    repeat' (refine stk_ite ?_ ?_)
    all_goals first | exact stk_same rfl rfl rfl | (simp [StK])
  · unfold sizedS
    repeat' (refine stk_ite ?_ ?_)
    all_goals first | exact stk_same rfl rfl rfl | (simp [StK])
  · unfold pieceS
    repeat' (refine stk_ite ?_ ?_)
    all_goals first | exact stk_same rfl rfl rfl | (simp [StK])
  · unfold tailS
    repeat' (refine stk_ite ?_ ?_)
    all_goals first | exact stk_same rfl rfl rfl | (simp [StK])
  · unfold lastS
    repeat' (refine stk_ite ?_ ?_)
    all_goals first | exact stk_same rfl rfl rfl | exact stk_end rfl rfl rfl | (simp [StK])
theorem run_next {f g : Fs} {l : List UInt8} {i : Nat} {c : UInt8} (hc : l[i]? = some c) (h : runS f (l.take i) = .inl g) : (∀ g2, oneS g c = .ok g2 → runS f (l.take (i + 1)) = .inl g2) ∧ (∀ k, oneS g c = .bad k → runS f l = .inr (k, g.pos, g.whole)) := by
  have e : l.take (i + 1) = l.take i ++ [c] := by rw [List.take_add_one, hc]; rfl
  have e2 : l = l.take i ++ (c :: l.drop (i + 1)) := by
    have h1 := (List.getElem?_eq_some_iff.1 hc).1
    have h2 := (List.getElem?_eq_some_iff.1 hc).2
    rw [← h2, List.getElem_cons_drop, List.take_append_drop]
  refine ⟨fun g2 hg => ?_, fun k hk => ?_⟩
  · rw [e, run_app, h]
    show runS g [c] = _
    rw [runS_cons, hg]
    rfl
  · rw [e2, run_app, h]
    show runS g (c :: _) = _
    rw [runS_cons, hk]
/-- A feed's next state: what holds of it goes on holding. -/
theorem one_keep {f g : Fs} {c : UInt8} (hi : FI f) (hz : HZ f) (e : oneS f c = .ok g) : FI g ∧ HZ g ∧ g.whole.length ≤ f.whole.length + 1 ∧ g.ans = f.ans ∧ g.pos = f.pos + 1 := by
  have hr : runS f [c] = .inl g := by rw [runS_cons, e]; rfl
  refine ⟨run_FI [c] f g hi hr, ?_⟩
  unfold oneS at e
  split at e
  · cases e
  · split at e
    · cases e
    · rename_i hh _ g3 hg3
      injection e with e
      subst e
      have ht : f.tok.length ≤ 8192 := by
        have h1 := hi.tok
        have h2 := hi.head
        by_cases h0 : 0 ≤ f.head <;> omega
      have hk := step_k (f := { f with head := if 0 ≤ f.head then f.head + 1 else f.head }) (c := c) hi.next
      rw [hg3] at hk
      have hz2 : ∀ n, HZ { f with head := n } := fun n => hz
      have hz3 := HZ.step (hz2 (if 0 ≤ f.head then f.head + 1 else f.head)) ht hi.next hg3
      exact ⟨hz3, hk.1, hk.2.1, by show g3.pos + 1 = f.pos + 1; rw [hk.2.2]⟩
end Go.Proofs.YtbehakabglegjaaGreatDoor
