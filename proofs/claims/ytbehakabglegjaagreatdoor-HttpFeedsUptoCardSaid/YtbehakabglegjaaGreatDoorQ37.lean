/- Layer 9: bytes in any pieces (plain): what a feed makes of the first pieces, and of the next one. Layer 9: the message that bytes begin with, by the document. -/
import Derived.Test.YtbehakabglegjaaGreatDoorQ19
import Derived.Test.YtbehakabglegjaaGreatDoorQ34
import Derived.Test.YtbehakabglegjaaGreatDoorQ35
import Derived.Test.YtbehakabglegjaaGreatDoorQ36
namespace Go.Proofs.YtbehakabglegjaaGreatDoor
set_option linter.unusedVariables false
set_option linter.unusedSimpArgs false
/-- The feed, with other messages that are whole. -/
def Fs.wh (f : Fs) (M : List Ms) : Fs := { f with whole := M }
theorem run_count : ∀ (l : List UInt8) (f : Fs), FI f → HZ f → (∀ g, runS f l = .inl g → FI g ∧ HZ g ∧ g.whole.length ≤ f.whole.length + l.length ∧ g.ans = f.ans ∧ g.pos = f.pos + l.length) ∧
    (∀ k p W, runS f l = .inr (k, p, W) → (k = 2 ∨ k = 3 ∨ k = 31 ∨ k = 32) ∧ W.length ≤ f.whole.length + l.length ∧ p ≤ f.pos + l.length)
  | [], f, h1, h2 => ⟨fun g e => by injection e with e; subst e; exact ⟨h1, h2, Nat.le_refl _, rfl, rfl⟩, fun k p W e => by cases e⟩
  | c :: r, f, h1, h2 => by
    rw [runS_cons]
    cases h : oneS f c with
    | bad x =>
      refine ⟨fun g e => by (simp only at e; cases e), fun k p W e => ?_⟩
      simp only at e
      injection e with e
      injection e with e1 e2
      injection e2 with e2 e3
      subst e1 e2 e3
      refine ⟨?_, by omega, by omega⟩
      unfold oneS at h
      split at h
      · injection h with h; exact .inl h.symm
      · have hk := step_k (f := { f with head := if 0 ≤ f.head then f.head + 1 else f.head }) (c := c) h1.next
        split at h
        · rename_i e hh
          rw [hh] at hk
          injection h with h
          subst h
          exact hk
        · cases h
    | ok g2 =>
      obtain ⟨k1, k2, k3, k4, k5⟩ := one_keep h1 h2 h
      obtain ⟨i1, i2⟩ := run_count r g2 k1 k2
      refine ⟨fun g e => ?_, fun k p W e => ?_⟩
      · obtain ⟨j1, j2, j3, j4, j5⟩ := i1 g e
        refine ⟨j1, j2, ?_, j4.trans k4, ?_⟩
        · rw [List.length_cons]; omega
        · rw [List.length_cons]; omega
      · obtain ⟨j1, j2, j3⟩ := i2 k p W e
        refine ⟨j1, ?_, ?_⟩
        · rw [List.length_cons]; omega
        · rw [List.length_cons]; omega
end Go.Proofs.YtbehakabglegjaaGreatDoor
namespace Go.Proofs.YtbehakabglegjaaGreatDoor
open Go.RowKit Go.PlainAid
set_option linter.unusedVariables false
set_option linter.unusedSimpArgs false
section
variable {n g : Nat} {R : Rd} {b : List UInt8} {A : Option Addr} {cp : Nat} {hs bd : Value} {w w' : World} {c : UInt8} {ans : Bool} {a k : Nat} {F : Fs} {m : Ms}
theorem newA_FI (ans : Bool) (a : Nat) : FI (newA ans a) := by
  have h := FI.new ans
  exact ⟨h.shut, h.head, h.tok, h.heads, h.body, h.next, h.ver, h.sta, h.val, h.wide, h.size, h.dig, h.early, h.state, h.some_, h.none_⟩
theorem newA_HZ (ans : Bool) (a : Nat) : HZ (newA ans a) := newS_HZ ans
theorem Atk.fi (h : Atk b ans a k F) : FI F := run_FI _ _ _ (newA_FI ans a) h.2
theorem Atk.hz (h : Atk b ans a k F) : HZ F := ((run_count _ _ (newA_FI ans a) (newA_HZ ans a)).1 _ h.2).2.1
theorem Atk.pos_ (h : Atk b ans a k (eF ans a k m)) : 0 < k := by
  rcases Nat.eq_zero_or_pos k with h0 | h0
  · subst h0
    have h2 := h.2
    rw [List.take_zero] at h2
    injection h2 with h2
    have h3 := congrArg Fs.whole h2
    have h4 : (newA ans a).whole = [] := by cases ans <;> rfl
    rw [h4] at h3
    cases h3
  · exact h0
/-- The first line's version. -/
def stV (ans : Bool) (a k : Nat) (m : Ms) (i : Nat) : Fs := if i < 9 then hF ans a (k + i) 2 ((wantL ans).take i) m 0 else hF ans a (k + 9) (if ans then 3 else 5) [] m 0
theorem wt_ver {s : ByteArray} (hs : bl s = wantL ans) : Wt b ans a k s 31 true (stV ans a k m) := by
  have hz : s.size = 9 := by show (bl s).length = 9; rw [hs]; rfl
  have hl : ∀ i, i < 9 → ((wantL ans).take i).length = i := fun i hi => by rw [List.length_take]; show min i 9 = i; omega
  refine ⟨fun i c hd hc hk => ?_, fun i c d hd hc hk hne => ?_, fun i hi => ?_, fun i hi _ => ?_, fun i hi => ?_, .inr (.inr (.inl rfl))⟩
  · rw [hs] at hd
    have hi : i < 9 := (List.getElem?_eq_some_iff.1 hd).1
    unfold stV
    rw [if_pos hi]
    by_cases h9 : i + 1 < 9
    · rw [if_pos h9]
      have h := ver_put (ans := ans) (a := a) (k := k + i) (tok := (wantL ans).take i) (m := m) (ab := 0) (c := c) (by have := hk rfl; omega) (by rw [hl i hi]; exact hd) (by rw [hl i hi]; exact h9)
      rw [h, List.take_add_one, hd]
      rfl
    · rw [if_neg h9]
      obtain rfl : i = 8 := by omega
      exact ver_end (by have := hk rfl; omega) (by rw [hl 8 hi]; exact hd) (by rw [hl 8 hi]; omega)
  · rw [hs] at hd
    have hi : i < 9 := (List.getElem?_eq_some_iff.1 hd).1
    unfold stV
    rw [if_pos hi]
    exact ver_bad (by have := hk rfl; omega) (by rw [hl i hi, hd]; intro x; exact hne (Option.some.inj x).symm)
  · rw [hz] at hi; unfold stV; rw [if_pos hi]; rfl
  · rw [hz] at hi; unfold stV; rw [if_pos hi]; rfl
  · rw [hz] at hi; unfold stV; rw [if_pos hi]; rfl
theorem wt_nl : Wt b ans a k ⟨#[10]⟩ 3 true (fun i => match i with | 0 => hF ans a k 5 [] m 0 | _ => hF ans a (k + 1) 6 [] m 1) := by
  have hl : bl (⟨#[10]⟩ : ByteArray) = [10] := rfl
  refine ⟨fun i c hd hc hk => ?_, fun i c d hd hc hk hne => ?_, fun i hi => ?_, fun i hi _ => ?_, fun i hi => ?_, .inr (.inl rfl)⟩
  · rw [hl] at hd
    match i, hd with
    | 0, hd =>
      obtain rfl : c = 10 := by simpa using hd.symm
      exact line_put (by have := hk rfl; omega) rfl (by omega)
    | i + 1, hd => simp at hd
  · rw [hl] at hd
    match i, hd with
    | 0, hd =>
      obtain rfl : d = 10 := by simpa using hd.symm
      exact line_bad (by have := hk rfl; omega) (fun h => hne (UInt8.toNat_inj.1 h))
    | i + 1, hd => simp at hd
  · have hi2 : i < 1 := hi
    obtain rfl : i = 0 := by omega
    rfl
  · have hi2 : i < 1 := hi
    obtain rfl : i = 0 := by omega
    rfl
  · have hi2 : i < 1 := hi
    obtain rfl : i = 0 := by omega
    rfl
theorem wt_end (h13 : b[k]? = some 13) : Wt b ans a k ⟨#[13]⟩ 3 true (fun i => match i with | 0 => hF ans a k 6 [] m 1 | _ => hF ans a (k + 1) 5 [] m 2) := by
  have hl : bl (⟨#[13]⟩ : ByteArray) = [13] := rfl
  refine ⟨fun i c hd hc hk => ?_, fun i c d hd hc hk hne => ?_, fun i hi => ?_, fun i hi _ => ?_, fun i hi => ?_, .inr (.inl rfl)⟩
  · rw [hl] at hd
    match i, hd with
    | 0, hd =>
      obtain rfl : c = 13 := by simpa using hd.symm
      exact name_cr (by have := hk rfl; omega) rfl
    | i + 1, hd => simp at hd
  · rw [hl] at hd
    match i, hd with
    | 0, hd =>
      obtain rfl : d = 13 := by simpa using hd.symm
      rw [Nat.add_zero, h13] at hc
      exact absurd (Option.some.inj hc).symm hne
    | i + 1, hd => simp at hd
  · have hi2 : i < 1 := hi
    obtain rfl : i = 0 := by omega
    rfl
  · have hi2 : i < 1 := hi
    obtain rfl : i = 0 := by omega
    rfl
  · have hi2 : i < 1 := hi
    obtain rfl : i = 0 := by omega
    rfl
theorem results_one {P : Program} {fn : Func} {p q r s : Tmp} {ty : TypeId} (h : fn.results = #[.cell p ty, .tmp q, .tmp r, .tmp s]) (tmps : Array Value) (w : World) (g : Nat) (t : TypeId) (cs : Array Value) (d : TypeDesc)
    (hp : tmps.getD p undef = .pointer (some ⟨g, 0, none⟩)) (hg : IBox w g t cs)
    (hu : P.underlying ty = some d) (hd : (match d with | .struct _ | .array _ _ => true | _ => false) = true) (hi : (P.info? ty).map (·.size) = some cs.size) :
    (results fn tmps).run P w = .ok (.tuple #[.agg cs, tmps.getD q undef, tmps.getD r undef, tmps.getD s undef]) w := by
  have hp' : tmps[p]?.getD undef = .pointer (some ⟨g, 0, none⟩) := by simpa using hp
  simp [results, h, hp', asAddr, run_loadVar_row w g t ty cs (0, 0) d hg hu hd hi]
theorem zeroM_zero (w : World) : (zeroValue 25).run Tryz.prog w = .ok (.agg zeroM) w := by kernel_rfl
theorem rd_build (A : Option Addr) (n cp : Nat) (w : World) : (Instr.build 125 [(0, .slice A n cp), (4, .bool true)].toArray).run Tryz.prog w = .ok (.agg (RdC ⟨0, 0, false, true, Ms.zero⟩ A n cp (.slice none 0 0) (.slice none 0 0))) w := by kernel_rfl
/-- How much may still be read. -/
def rdMes (w : World) (g l : Nat) : Nat := match w.cell? ⟨g, 1, none⟩, w.cell? ⟨g, 2, none⟩, w.cell? ⟨g, 3, none⟩ with
  | some (.int _ i), some (.int _ x), some (.bool m) => if x = 0 ∧ m = false then l + 1 - i.toNat else 0
  | _, _, _ => 0
theorem rdMes_of (M : RdM n g R b A cp hs bd w) (l : Nat) : rdMes w g l = if R.bad = 0 ∧ R.more = false then l + 1 - R.at_ else 0 := by
  have h1 : w.cell? ⟨g, 1, none⟩ = some (.int .i64 (R.at_ : Int)) := M.box.cell 1
  have h2 : w.cell? ⟨g, 2, none⟩ = some (.int .i64 R.bad) := M.box.cell 2
  have h3 : w.cell? ⟨g, 3, none⟩ = some (.bool R.more) := M.box.cell 3
  unfold rdMes
  rw [h1, h2, h3]
  simp
/-- What One gives. -/
def OnV (b : List UInt8) (ans : Bool) (a base : Nat) (e : Ending) (w' : World) : Prop := ∃ (mv : Array Value) (k : Nat) (x : Int) (mo : Bool), e = .returned (.tuple #[.agg mv, .int .i64 (k : Int), .int .i64 x, .bool mo]) ∧
  ((mv = zeroM ∧ Stp b ans a k x mo) ∨ (x = 0 ∧ mo = false ∧ 0 < k ∧ ∃ X : Mm, Atk b ans a k (eF ans a k X.m) ∧ mv = X.cells ∧ IsMm w' X ∧ ∀ q, X.hs.ownBlock = some q ∨ X.bd.ownBlock = some q → base ≤ q))
theorem RdM.mm (M : RdM n g R b A cp hs bd w) (h64 : R.m.heads.length ≤ 64) (h65 : R.m.body.length ≤ 65536) : IsMm w ⟨R.m, hs, bd⟩ :=
  ⟨hd_own M.rh, bt_own M.rb, fun q e => e.elim (fun e => (own_in M.rh e).2) (fun e => (own_in M.rb e).2), h64, h65, own_ty M.rh, own_ty M.rb, own_capok M.rh⟩
theorem RdM.part (M : RdM n g R b A cp hs bd w) : w.rangeAt g 5 (Mm.cells ⟨R.m, hs, bd⟩).toList := fun j v hv => by
  rw [M.box.cell]
  have : j = 0 ∨ j = 1 ∨ j = 2 ∨ j = 3 ∨ j = 4 ∨ j = 5 := by
    have := (List.getElem?_eq_some_iff.1 hv).1
    have e : (Mm.cells ⟨R.m, hs, bd⟩).toList.length = 6 := rfl
    omega
  rcases this with rfl | rfl | rfl | rfl | rfl | rfl <;> exact hv
theorem mm_one2 (M : RdM n g R b A cp hs bd w) : (Mm.cells ⟨R.m, hs, bd⟩).all (·.oneCell') = true := by
  obtain ⟨x1, x2, rfl, _⟩ := own_slice M.rh
  obtain ⟨y1, y2, rfl, _⟩ := own_slice M.rb
  exact mm_one _ _ _ _ _ _ _
theorem Rn.rf {ok : Nat → Ms → Prop} (h : Rn b ans a ok R) (hk : ok R.at_ R.m → Atk b ans a R.at_ F) : RnF b ans a R.at_ F R := by
  rcases h with h | h
  · exact .inl ⟨h.1, h.2.1, rfl, hk h.2.2⟩
  · exact .inr h
theorem RnF.rn {ok : Nat → Ms → Prop} (h : RnF b ans a k F R) (hk : Atk b ans a k F → R.at_ = k → ok R.at_ R.m) : Rn b ans a ok R := by
  rcases h with h | h
  · exact .inl ⟨h.1, h.2.1, hk h.2.2.2 h.2.2.1⟩
  · exact .inr h
theorem RdM.besA {X : Nat → Prop} (h : RdM n g R b A cp hs bd w) (hb : Bes X w w') (hg : ¬ X g) (h1 : ∀ q, n ≤ q → ¬ X q) (h3 : ∀ bb off, A = some ⟨bb, off, none⟩ → ¬ X bb) : RdM n g R b A cp hs bd w' :=
  ⟨Bes.box hb h.box hg, h.gn, h.row.bes hb h3, h.cap, h.off, Bes.own hb h.rh (fun q e => h1 q (own_in h.rh e).1), Bes.own hb h.rb (fun q e => h1 q (own_in h.rb e).1)⟩
theorem pk_stp {mo : Bool} {x : Int} (h : Stp b ans a k x mo) (h1 : R.bad = x) (h2 : R.more = mo) : pkB b R = none := by
  unfold pkB
  rw [if_neg]
  rintro ⟨e1, e2⟩
  exact h.no (h1 ▸ e1) (h2 ▸ e2)
theorem pkN_stp {mo : Bool} {x : Int} (h : Stp b ans a k x mo) (h1 : R.bad = x) (h2 : R.more = mo) : pkN b R = R := by
  unfold pkN
  rw [if_neg]
  rintro ⟨e1, e2⟩
  exact h.no (h1 ▸ e1) (h2 ▸ e2)
theorem lens_kind (l : List (ByteArray × ByteArray)) : lenS (headsS l 0) = -2 ∨ lenS (headsS l 0) = -1 ∨ 0 ≤ lenS (headsS l 0) := by
  have h := headsS_left l ⟨0, false, false, 0⟩ (Int.le_refl 0)
  unfold lenS
  split
  · exact .inl rfl
  · split
    · exact .inr (.inl rfl)
    · exact .inr (.inr h)
theorem lb_bad (hk : k < 8192) (h1 : c.toNat = 10) (h : lenS (headsS m.heads 0) = -2) : oneS (hF ans a k 5 [] m 2) c = .bad 32 := by
  have h0 := headsS_left m.heads ⟨0, false, false, 0⟩ (Int.le_refl 0)
  rw [line_body hk h1]
  unfold lenS at h
  split at h
  · rename_i h2; rw [if_pos h2]
  · split at h
    · cases h
    · change 0 ≤ (headsS m.heads 0).left at h0; omega
theorem lb_long (hk : k < 8192) (h1 : c.toNat = 10) (h : 65536 < lenS (headsS m.heads 0)) : oneS (hF ans a k 5 [] m 2) c = .bad 2 := by
  rw [line_body hk h1]
  unfold lenS at h
  split at h
  · omega
  · rename_i h2
    split at h
    · omega
    · rename_i h3
      rw [if_neg h2, if_neg h3, if_pos h]
theorem lb_pieces (hk : k < 8192) (h1 : c.toNat = 10) (h : lenS (headsS m.heads 0) = -1) : oneS (hF ans a k 5 [] m 2) c = .ok (bF ans a (k + 1) 9 [] m (headsS m.heads 0).left 0 2) := by
  have h0 := headsS_left m.heads ⟨0, false, false, 0⟩ (Int.le_refl 0)
  rw [line_body hk h1]
  unfold lenS at h
  split at h
  · cases h
  · rename_i h2
    split at h
    · rename_i h3; rw [if_neg h2, if_pos h3]
    · change 0 ≤ (headsS m.heads 0).left at h0; omega
theorem lb_bytes (hk : k < 8192) (h1 : c.toNat = 10) {N : Nat} (h : lenS (headsS m.heads 0) = (N : Int)) (hN : N ≤ 65536) : oneS (hF ans a k 5 [] m 2) c = .ok (if N = 0 then eF ans a (k + 1) m else bF ans a (k + 1) 8 [] m (N : Int) 0 2) := by
  rw [line_body hk h1]
  unfold lenS at h
  split at h
  · omega
  · rename_i h2
    split at h
    · omega
    · rename_i h3
      rw [if_neg h2, if_neg h3, h, if_neg (by omega)]
      by_cases h0 : N = 0
      · rw [if_pos (by omega), if_pos h0]
      · rw [if_neg (by omega), if_neg h0]
theorem tk_bytes {N : Nat} {ab : Int} (h1 : R.bad = 0) (h2 : R.more = false) (h : Atk b ans a R.at_ (if N = 0 then eF ans a R.at_ R.m else bF ans a R.at_ 8 [] R.m (N : Int) 0 ab)) (h64 : R.m.heads.length ≤ 64) (hb0 : R.m.body = []) (hN : N ≤ 65536) : Rn b ans a (fun k m => Atk b ans a k (eF ans a k m) ∧ m.body.length ≤ 65536 ∧ m.heads.length ≤ 64) (tkR b R N) := by
  by_cases hlt : b.length < R.at_ + N
  · have e : tkR b R N = { R with more := true } := by unfold tkR; rw [if_pos ⟨h1, h2⟩, if_pos hlt]
    rw [e]
    refine .inr ?_
    show Stp b ans a R.at_ R.bad true
    rw [h1]
    obtain ⟨k, rfl⟩ : ∃ k, N = k + 1 := ⟨N - 1, by have := h.1; omega⟩
    rw [if_neg (by omega), show ((k + 1 : Nat) : Int) = (k : Int) + 1 from rfl] at h
    obtain ⟨F, f1, f2⟩ := (Atk.bytes k R.at_ R.m h).2 (by omega)
    exact .more f1 f2 h.1
  · have e : tkR b R N = { R with m := { R.m with body := R.m.body ++ (b.drop R.at_).take N }, at_ := R.at_ + N } := by unfold tkR; rw [if_pos ⟨h1, h2⟩, if_neg hlt]
    rw [e]
    have hbl : (R.m.body ++ (b.drop R.at_).take N).length ≤ 65536 := by rw [List.length_append, List.length_take, hb0]; show 0 + _ ≤ _; omega
    refine .inl ⟨h1, h2, ?_, hbl, h64⟩
    by_cases h0 : N = 0
    · subst h0
      rw [if_pos rfl] at h
      show Atk b ans a (R.at_ + 0) (eF ans a (R.at_ + 0) { R.m with body := R.m.body ++ (b.drop R.at_).take 0 })
      rw [List.take_zero, List.append_nil]
      exact h
    · obtain ⟨k, rfl⟩ : ∃ k, N = k + 1 := ⟨N - 1, by omega⟩
      rw [if_neg h0, show ((k + 1 : Nat) : Int) = (k : Int) + 1 from rfl] at h
      exact (Atk.bytes k R.at_ R.m h).1 (by omega)
end
end Go.Proofs.YtbehakabglegjaaGreatDoor
