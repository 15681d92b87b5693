/- Layer 9: a feed's steps: a line's last byte; whichever step takes the next byte. Layer 9: however bytes are cut, the messages and the fault are the same (plain). Layer 9: what a step's answer is bound to (plain). -/
import Derived.Test.YtbehakabglegjaaGreatDoorQ11
import Derived.Test.YtbehakabglegjaaGreatDoorQ12
import Derived.Test.YtbehakabglegjaaGreatDoorQ13
import Derived.Test.YtbehakabglegjaaGreatDoorQ02
import Derived.Test.YtbehakabglegjaaGreatDoorQ10
namespace Go.Proofs.YtbehakabglegjaaGreatDoor
open Go.RowKit Go.PlainAid
set_option linter.unusedVariables false
set_option linter.unusedSimpArgs false
set_option maxRecDepth 100000 in
set_option maxHeartbeats 4000000 in
theorem line_any {base : Bs} {g : Nat} {F : Fs} {nx tk hs bd wh : Value} {L : List Mm} {w : World} {c : UInt8} (h : FdM base g F nx tk hs bd wh L w) (hj : FJ F) (hx : F.next = 5) (hz : HZ F) (hw : Wh w base.n) (hn : F.whole.length < 1099511627776) :
    Calls Tryz.prog 104 #[.pointer (some ⟨g, 0, none⟩), .int .u8 (c.toNat : Int)] w (StV base g F c w) := by
  have HS : Hid (stepS F c = lineS F c) := Lib.hid (by unfold stepS; rw [hx]; rfl)
  clear hx
  obtain ⟨A, cp, htk⟩ := bt_slice h.2.rt
  subst htk
  have B := h.1
  have R := Lib.hid h.2
  have HB := Bl.refl base w
  clear h
  have c15 : w.cell? ⟨g, 15, none⟩ = some (.int .i64 F.about) := B.cell 15
  by_cases h1 : c.toNat = 10
  · by_cases h2 : F.about = 2
    · have HV : Hid (lineS F c = bodyS F) := Lib.hid (by unfold lineS; rw [if_neg (by omega), if_neg (by simpa using h2)])
      have hM := body_any (fdm B R.out) hj hz hw hn
      have HQ := Lib.hid hM
      clear hM hj hz hw hn
      cases hq : bodyS F with
      | bad k =>
        have HV2 : Hid (stepS F c = .bad k) := Lib.hid (by rw [HS.out, HV.out, hq])
        have HM : Hid (Calls Tryz.prog 126 #[.pointer (some ⟨g, 0, none⟩)] w fun e w' => e = .returned (.tuple #[.nilFunc, .int .i64 k]) ∧ Bl base w w' ∧ ∃ G nx tk hs bd wh L, FdM base g G nx tk hs bd wh L w' ∧ G.pos = F.pos ∧ G.whole = F.whole ∧ G.shut = F.shut) := Lib.hid (HQ.out.mono fun e w' hh => by
          unfold BdV at hh
          rw [hq] at hh
          exact ⟨hh.2.1, hh.1, hh.2.2⟩)
        clear hq HQ
        go_enter Tryz.func104, Tryz.ntmps104
        go_wp2_with (first
          | (go_at_call 126; (with_reducible refine HM.out.mono ?_); rintro e w5 ⟨rfl, hb, hm⟩))
        go_ret2
        exact ⟨hb, by rw [HV2.out]; exact ⟨rfl, hm⟩⟩
      | ok G =>
        have HV2 : Hid (stepS F c = .ok G) := Lib.hid (by rw [HS.out, HV.out, hq])
        have HM : Hid (Calls Tryz.prog 126 #[.pointer (some ⟨g, 0, none⟩)] w fun e w' => e = .returned (.tuple #[stepV G.next, .int .i64 0]) ∧ Bl base w w' ∧ ∃ nx tk hs bd wh L, FdM base g G nx tk hs bd wh L w') := Lib.hid (HQ.out.mono fun e w' hh => by
          unfold BdV at hh
          rw [hq] at hh
          exact ⟨hh.2.1, hh.1, hh.2.2⟩)
        clear hq HQ
        go_enter Tryz.func104, Tryz.ntmps104
        go_wp2_with (first
          | (go_at_call 126; (with_reducible refine HM.out.mono ?_); rintro e w5 ⟨rfl, hb, hm⟩))
        go_ret2
        exact ⟨hb, by rw [HV2.out]; exact ⟨rfl, hm⟩⟩
    · have HV : Hid (lineS F c = .ok { F with about := 1, next := 6 }) := Lib.hid (by unfold lineS; rw [if_neg (by omega), if_pos h2])
      clear hj hz hw hn
      go_enter Tryz.func104, Tryz.ntmps104
      go_wp2_with (first
        | ((with_reducible refine is_store ?_); refine wpl_store_cell rfl 3 (.tmp 17) _ rfl g 15 rfl (.int .i64 1) rfl _ _ B (show 15 < 16 by decide) one_i rfl ?_; intro w4 hw; replace HB := HB.trans (R.out.store hw); replace R := Lib.hid (R.out.row (Bes.row (X := fun q => q = g) hw rfl)); replace B := hid_row hw B; simp only [FdC_15] at B; clear hw))
      go_ret2
      exact StV.ok (HS.out.trans HV.out) HB (fdm B (R.out.same rfl rfl rfl rfl)) rfl
  · have HV : Hid (lineS F c = .bad 3) := Lib.hid (by unfold lineS; rw [if_pos h1])
    clear hj hz hw hn
    go_enter Tryz.func104, Tryz.ntmps104
    go_wp2
    go_ret2
    exact StV.bad (HS.out.trans HV.out) HB (fdm B R.out)
theorem step_any {base : Bs} {g : Nat} {F : Fs} {nx tk hs bd wh : Value} {L : List Mm} {w : World} {c : UInt8} (h : FdM base g F nx tk hs bd wh L w) (hj : FJ F) (hz : HZ F) (hw : Wh w base.n) (hn : F.whole.length < 1099511627776) (hx : F.next ≤ 13) :
    Calls Tryz.prog (stepId F.next) #[.pointer (some ⟨g, 0, none⟩), .int .u8 (c.toNat : Int)] w (StV base g F c w) := by
  have hc : F.next = 0 ∨ F.next = 1 ∨ F.next = 2 ∨ F.next = 3 ∨ F.next = 4 ∨ F.next = 5 ∨ F.next = 6 ∨ F.next = 7 ∨ F.next = 8 ∨ F.next = 9 ∨ F.next = 10 ∨ F.next = 11 ∨ F.next = 12 ∨ F.next = 13 := by omega
  rcases hc with k | k | k | k | k | k | k | k | k | k | k | k | k | k
  · rw [k]; exact method_any h hj k
  · rw [k]; exact target_any h hj k
  · rw [k]; exact version_any h hj k
  · rw [k]; exact status_any h hj k
  · rw [k]; exact reason_any h hj k
  · rw [k]; exact line_any h hj k hz hw hn
  · rw [k]; exact name_any2 h hj k
  · rw [k]; exact value_any2 h hj k
  · rw [k]; exact hbytes_any h hj k hn
  · rw [k]; exact digits_any h hj k
  · rw [k]; exact sized_any h hj k
  · rw [k]; exact piece_any h hj k
  · rw [k]; exact tail_any h hj k
  · rw [k]; exact last_any h hj k hn
end Go.Proofs.YtbehakabglegjaaGreatDoor
namespace Go.Proofs.YtbehakabglegjaaGreatDoor
set_option linter.unusedVariables false
set_option linter.unusedSimpArgs false
/-- The feed with other messages ahead of those that are whole. -/
def Fs.pre (f : Fs) (W : List Ms) : Fs := { f with whole := W ++ f.whole }
def St.pre (s : St) (W : List Ms) : St := match s with | .bad c => .bad c | .ok f => .ok (f.pre W)
theorem end_pre (f : Fs) (W : List Ms) : (f.pre W).end_ = f.end_.pre W := by
  unfold Fs.end_ Fs.pre Fs.begin
  simp only [List.append_assoc]
theorem ite_two {p : Prop} {d1 d2 : Decidable p} {a b c d : St} {W : List Ms} (h1 : a = c.pre W) (h2 : b = d.pre W) : @ite St p d1 a b = (@ite St p d2 c d).pre W := by
  by_cases h : p
  · rw [if_pos h, if_pos h]; exact h1
  · rw [if_neg h, if_neg h]; exact h2
theorem ok_pre (f g : Fs) (W : List Ms) (h : g = f.pre W) : St.ok g.end_ = (St.ok f.end_).pre W := by
  show St.ok g.end_ = St.ok (f.end_.pre W)
  rw [h, end_pre]
theorem methodS_pre (f : Fs) (W : List Ms) (c : UInt8) : methodS (f.pre W) c = (methodS f c).pre W := by
  unfold methodS
  repeat' (refine ite_two ?_ ?_)
  all_goals rfl
theorem targetS_pre (f : Fs) (W : List Ms) (c : UInt8) : targetS (f.pre W) c = (targetS f c).pre W := by
  unfold targetS
  repeat' (refine ite_two ?_ ?_)
  all_goals rfl
theorem versionS_pre (f : Fs) (W : List Ms) (c : UInt8) : versionS (f.pre W) c = (versionS f c).pre W := by
  unfold versionS
  repeat' (refine ite_two ?_ ?_)
  all_goals rfl
theorem statusS_pre (f : Fs) (W : List Ms) (c : UInt8) : statusS (f.pre W) c = (statusS f c).pre W := by
  unfold statusS
  repeat' (refine ite_two ?_ ?_)
  all_goals rfl
theorem reasonS_pre (f : Fs) (W : List Ms) (c : UInt8) : reasonS (f.pre W) c = (reasonS f c).pre W := by
  unfold reasonS
  repeat' (refine ite_two ?_ ?_)
  all_goals rfl
theorem nameS_pre (f : Fs) (W : List Ms) (c : UInt8) : nameS (f.pre W) c = (nameS f c).pre W := by
  unfold nameS
  repeat' (refine ite_two ?_ ?_)
  all_goals rfl
theorem valueS_pre (f : Fs) (W : List Ms) (c : UInt8) : valueS (f.pre W) c = (valueS f c).pre W := by
  unfold valueS
  repeat' (refine ite_two ?_ ?_)
  all_goals rfl
theorem digitsS_pre (f : Fs) (W : List Ms) (c : UInt8) : digitsS (f.pre W) c = (digitsS f c).pre W := by
  unfold digitsS
  repeat' (refine ite_two ?_ ?_)
  all_goals rfl
theorem sizedS_pre (f : Fs) (W : List Ms) (c : UInt8) : sizedS (f.pre W) c = (sizedS f c).pre W := by
  unfold sizedS
  repeat' (refine ite_two ?_ ?_)
  all_goals rfl
theorem pieceS_pre (f : Fs) (W : List Ms) (c : UInt8) : pieceS (f.pre W) c = (pieceS f c).pre W := by
  unfold pieceS
  repeat' (refine ite_two ?_ ?_)
  all_goals rfl
theorem tailS_pre (f : Fs) (W : List Ms) (c : UInt8) : tailS (f.pre W) c = (tailS f c).pre W := by
  unfold tailS
  repeat' (refine ite_two ?_ ?_)
  all_goals rfl
theorem bodyS_pre (f : Fs) (W : List Ms) : bodyS (f.pre W) = (bodyS f).pre W := by
  unfold bodyS
  repeat' (refine ite_two ?_ ?_)
  all_goals first | rfl | exact ok_pre _ _ W rfl
theorem lineS_pre (f : Fs) (W : List Ms) (c : UInt8) : lineS (f.pre W) c = (lineS f c).pre W := by
  unfold lineS
  repeat' (refine ite_two ?_ ?_)
  all_goals first | rfl | exact ok_pre _ _ W rfl | exact bodyS_pre f W
theorem bytesS_pre (f : Fs) (W : List Ms) (c : UInt8) : bytesS (f.pre W) c = (bytesS f c).pre W := by
  unfold bytesS
  repeat' (refine ite_two ?_ ?_)
  all_goals first | rfl | exact ok_pre _ _ W rfl
theorem lastS_pre (f : Fs) (W : List Ms) (c : UInt8) : lastS (f.pre W) c = (lastS f c).pre W := by
  unfold lastS
  repeat' (refine ite_two ?_ ?_)
  all_goals first | rfl | exact ok_pre _ _ W rfl
theorem step_pre (f : Fs) (W : List Ms) (c : UInt8) : stepS (f.pre W) c = (stepS f c).pre W := by
  unfold stepS
  show (match f.next with
  | 0 => methodS (f.pre W) c | 1 => targetS (f.pre W) c | 2 => versionS (f.pre W) c | 3 => statusS (f.pre W) c | 4 => reasonS (f.pre W) c | 5 => lineS (f.pre W) c | 6 => nameS (f.pre W) c | 7 => valueS (f.pre W) c
  | 8 => bytesS (f.pre W) c | 9 => digitsS (f.pre W) c | 10 => sizedS (f.pre W) c | 11 => pieceS (f.pre W) c | 12 => tailS (f.pre W) c | 13 => lastS (f.pre W) c | _ => .bad 0) = _
  generalize f.next = n
  split
  · exact methodS_pre f W c
  · exact targetS_pre f W c
  · exact versionS_pre f W c
  · exact statusS_pre f W c
  · exact reasonS_pre f W c
  · exact lineS_pre f W c
  · exact nameS_pre f W c
  · exact valueS_pre f W c
  · exact bytesS_pre f W c
  · exact digitsS_pre f W c
  · exact sizedS_pre f W c
  · exact pieceS_pre f W c
  · exact tailS_pre f W c
  · exact lastS_pre f W c
  · split <;> first | rfl | (rename_i h; exact absurd rfl (by assumption))
theorem one_pre (f : Fs) (W : List Ms) (c : UInt8) : oneS (f.pre W) c = (oneS f c).pre W := by
  unfold oneS
  show (if 8192 ≤ f.head then St.bad 2 else match stepS (({ f with head := if 0 ≤ f.head then f.head + 1 else f.head } : Fs).pre W) c with
    | .bad e => .bad e
    | .ok g => .ok { g with pos := g.pos + 1 }) = _
  rw [step_pre]
  refine ite_two rfl ?_
  cases stepS { f with head := if 0 ≤ f.head then f.head + 1 else f.head } c <;> rfl
def RunR : Type := Fs ⊕ (Int × Nat × List Ms)
def preR (r : Fs ⊕ (Int × Nat × List Ms)) (W : List Ms) : Fs ⊕ (Int × Nat × List Ms) := match r with
  | .inl f => .inl (f.pre W)
  | .inr (c, p, L) => .inr (c, p, W ++ L)
theorem runS_cons (f : Fs) (c : UInt8) (r : List UInt8) : runS f (c :: r) = match oneS f c with
  | .bad e => .inr (e, f.pos, f.whole)
  | .ok g => runS g r := rfl
theorem run_pre : ∀ (l : List UInt8) (f : Fs) (W : List Ms), runS (f.pre W) l = preR (runS f l) W
  | [], f, W => rfl
  | c :: r, f, W => by
    unfold runS
    rw [one_pre]
    cases h : oneS f c with
    | bad e => rfl
    | ok g => exact run_pre r g W
theorem run_app : ∀ (a b : List UInt8) (f : Fs), runS f (a ++ b) = match runS f a with | .inl g => runS g b | .inr e => .inr e
  | [], b, f => rfl
  | c :: r, b, f => by
    rw [List.cons_append, runS_cons, runS_cons]
    cases oneS f c with
    | bad e => rfl
    | ok g => exact run_app r b g
/-- One call of Feed: the messages that were whole before are gone. -/
def feedS (f : Fs) (l : List UInt8) : Fs ⊕ (Int × Nat × List Ms) := runS { f with whole := [] } l
/-- Bytes in two pieces. -/
theorem feed_two (f : Fs) (a b : List UInt8) : feedS f (a ++ b) = match feedS f a with
  | .inl g => preR (feedS g b) g.whole
  | .inr e => .inr e := by
  unfold feedS
  rw [run_app]
  cases h : runS { f with whole := [] } a with
  | inr e => rfl
  | inl g =>
    have : g = ({ g with whole := [] } : Fs).pre g.whole := by unfold Fs.pre; simp
    simp only
    conv => lhs; rw [this]
    exact run_pre b _ _
theorem run_FI : ∀ (l : List UInt8) (f g : Fs), FI f → runS f l = .inl g → FI g
  | [], f, g, h, e => by injection e with e; exact e ▸ h
  | c :: r, f, g, h, e => by
    unfold runS at e
    cases h1 : oneS f c with
    | bad x => rw [h1] at e; cases e
    | ok g2 =>
      rw [h1] at e
      refine run_FI r g2 g ?_ e
      unfold oneS at h1
      split at h1
      · cases h1
      · split at h1
        · cases h1
        · rename_i hh _ g3 hg3
          injection h1 with h1
          subst h1
          have := FI.step h (by omega) hg3
          exact ⟨this.shut, this.head, this.tok, this.heads, this.body, this.next, this.ver, this.sta, this.val, this.wide, this.size, this.dig, this.early, this.state, this.some_, this.none_⟩
end Go.Proofs.YtbehakabglegjaaGreatDoor
namespace Go.Proofs.YtbehakabglegjaaGreatDoor
set_option linter.unusedVariables false
set_option linter.unusedSimpArgs false
/-- What is amiss has a code, and at most one message ends at a byte. -/
def StK (f : Fs) : St → Prop
  | .bad k => k = 2 ∨ k = 3 ∨ k = 31 ∨ k = 32
  | .ok g => g.whole.length ≤ f.whole.length + 1 ∧ g.ans = f.ans ∧ g.pos = f.pos
theorem stk_ite {f : Fs} {p : Prop} [Decidable p] {a b : St} (h1 : StK f a) (h2 : StK f b) : StK f (if p then a else b) := by
  by_cases h : p
  · rw [if_pos h]; exact h1
  · rw [if_neg h]; exact h2
theorem stk_same {f g : Fs} (h : g.whole = f.whole) (h2 : g.ans = f.ans) (h3 : g.pos = f.pos) : StK f (.ok g) := ⟨by rw [h]; exact Nat.le_succ _, h2, h3⟩
theorem stk_end {f g : Fs} (h : g.whole = f.whole) (h2 : g.ans = f.ans) (h3 : g.pos = f.pos) : StK f (.ok g.end_) := ⟨by show (g.whole ++ [g.m]).length ≤ _; rw [List.length_append, h]; exact Nat.le_refl _, h2, h3⟩
theorem step_k {f : Fs} {c : UInt8} (hn : f.next ≤ 13) : StK f (stepS f c) := by
  have hc : f.next = 0 ∨ f.next = 1 ∨ f.next = 2 ∨ f.next = 3 ∨ f.next = 4 ∨ f.next = 5 ∨ f.next = 6 ∨ f.next = 7 ∨ f.next = 8 ∨ f.next = 9 ∨ f.next = 10 ∨ f.next = 11 ∨ f.next = 12 ∨ f.next = 13 := by omega
  rcases hc with hn | hn | hn | hn | hn | hn | hn | hn | hn | hn | hn | hn | hn | hn
  all_goals simp only [stepS, hn]
  · unfold methodS
    repeat' (refine stk_ite ?_ ?_)
    all_goals first | exact stk_same rfl rfl rfl | (simp [StK])
  · unfold targetS
    repeat' (refine stk_ite ?_ ?_)
    all_goals first | exact stk_same rfl rfl rfl | (simp [StK])
  · unfold versionS
    repeat' (refine stk_ite ?_ ?_)
    all_goals first | exact stk_same rfl rfl rfl | (simp [StK])
  · unfold statusS
    repeat' (refine stk_ite ?_ ?_)
    all_goals first | exact stk_same rfl rfl rfl | (simp [StK])
  · unfold reasonS
    repeat' (refine stk_ite ?_ ?_)
    all_goals first | exact stk_same rfl rfl rfl | (simp [StK])
  · unfold lineS bodyS
    repeat' (refine stk_ite ?_ ?_)
    all_goals first | exact stk_same rfl rfl rfl | exact stk_end rfl rfl rfl | (simp [StK])
  · unfold nameS
    repeat' (refine stk_ite ?_ ?_)
    all_goals first | exact stk_same rfl rfl rfl | (simp [StK])
  · unfold valueS
    repeat' (refine stk_ite ?_ ?_)
    all_goals first | exact stk_same rfl rfl rfl | (simp [StK])
  · unfold bytesS
    repeat' (refine stk_ite ?_ ?_)
    all_goals first | exact stk_same rfl rfl rfl | exact stk_end rfl rfl rfl | (simp [StK])
  · unfold digitsS
    repeat' (refine stk_ite ?_ ?_)
    all_goals first | exact stk_same rfl rfl rfl | (simp [StK])
  · unfold sizedS
    repeat' (refine stk_ite ?_ ?_)
    all_goals first | exact stk_same rfl rfl rfl | (simp [StK])
  · unfold pieceS
    repeat' (refine stk_ite ?_ ?_)
    all_goals first | exact stk_same rfl rfl rfl | (simp [StK])
  · unfold tailS
    repeat' (refine stk_ite ?_ ?_)
    all_goals first | exact stk_same rfl rfl rfl | (simp [StK])
  · unfold lastS
    repeat' (refine stk_ite ?_ ?_)
    all_goals first | exact stk_same rfl rfl rfl | exact stk_end rfl rfl rfl | (simp [StK])
theorem run_next {f g : Fs} {l : List UInt8} {i : Nat} {c : UInt8} (hc : l[i]? = some c) (h : runS f (l.take i) = .inl g) : (∀ g2, oneS g c = .ok g2 → runS f (l.take (i + 1)) = .inl g2) ∧ (∀ k, oneS g c = .bad k → runS f l = .inr (k, g.pos, g.whole)) := by
  have e : l.take (i + 1) = l.take i ++ [c] := by rw [List.take_add_one, hc]; rfl
  have e2 : l = l.take i ++ (c :: l.drop (i + 1)) := by
    have h1 := (List.getElem?_eq_some_iff.1 hc).1
    have h2 := (List.getElem?_eq_some_iff.1 hc).2
    rw [← h2, List.getElem_cons_drop, List.take_append_drop]
  refine ⟨fun g2 hg => ?_, fun k hk => ?_⟩
  · rw [e, run_app, h]
    show runS g [c] = _
    rw [runS_cons, hg]
    rfl
  · rw [e2, run_app, h]
    show runS g (c :: _) = _
    rw [runS_cons, hk]
/-- A feed's next state: what holds of it goes on holding. -/
theorem one_keep {f g : Fs} {c : UInt8} (hi : FI f) (hz : HZ f) (e : oneS f c = .ok g) : FI g ∧ HZ g ∧ g.whole.length ≤ f.whole.length + 1 ∧ g.ans = f.ans ∧ g.pos = f.pos + 1 := by
  have hr : runS f [c] = .inl g := by rw [runS_cons, e]; rfl
  refine ⟨run_FI [c] f g hi hr, ?_⟩
  unfold oneS at e
  split at e
  · cases e
  · split at e
    · cases e
    · rename_i hh _ g3 hg3
      injection e with e
      subst e
      have ht : f.tok.length ≤ 8192 := by
        have h1 := hi.tok
        have h2 := hi.head
        by_cases h0 : 0 ≤ f.head <;> omega
      have hk := step_k (f := { f with head := if 0 ≤ f.head then f.head + 1 else f.head }) (c := c) hi.next
      rw [hg3] at hk
      have hz2 : ∀ n, HZ { f with head := n } := fun n => hz
      have hz3 := HZ.step (hz2 (if 0 ≤ f.head then f.head + 1 else f.head)) ht hi.next hg3
      exact ⟨hz3, hk.1, hk.2.1, by show g3.pos + 1 = f.pos + 1; rw [hk.2.2]⟩
end Go.Proofs.YtbehakabglegjaaGreatDoor
