/- Layer 9: what is written is read as it was: one message (plain). -/
import Derived.Test.YtbehakabglegjaaGreatDoorQ14
import Derived.Test.YtbehakabglegjaaGreatDoorQ04
namespace Go.Proofs.YtbehakabglegjaaGreatDoor
set_option linter.unusedVariables false
set_option linter.unusedSimpArgs false
theorem one_ok {f g : Fs} {c : UInt8} (h0 : 0 ≤ f.head) (h1 : f.head < 8192) (e : stepS { f with head := f.head + 1 } c = .ok g) : oneS f c = .ok { g with pos := g.pos + 1 } := by
  unfold oneS
  rw [if_neg (by omega), if_pos h0, e]
theorem one_okb {f g : Fs} {c : UInt8} (h0 : f.head = -1) (e : stepS f c = .ok g) : oneS f c = .ok { g with pos := g.pos + 1 } := by
  unfold oneS
  have e2 : ({ f with head := if 0 ≤ f.head then f.head + 1 else f.head } : Fs) = f := by rw [if_neg (by omega)]
  rw [if_neg (by omega), e2, e]
theorem run_one {f g : Fs} {c : UInt8} {r : List UInt8} (h0 : 0 ≤ f.head) (h1 : f.head < 8192) (e : stepS { f with head := f.head + 1 } c = .ok g) : runS f (c :: r) = runS { g with pos := g.pos + 1 } r := by
  rw [runS_cons, one_ok h0 h1 e]
/-- A stretch of bytes that are put into the token one after the other. -/
theorem run_tok {k : Nat} {T : List UInt8} {M : Ms} {a : Bool} {u : List UInt8}
    (hs : ∀ (v : List UInt8) (c : UInt8) (s : List UInt8), u = v ++ c :: s → ∀ g : Fs, g.next = k → g.m = M → g.ans = a → g.tok = T ++ v → stepS g c = .ok { g.put c with next := k }) (r : List UInt8) :
    ∀ (s v : List UInt8), u = v ++ s → ∀ f : Fs, f.next = k → f.m = M → f.ans = a → f.tok = T ++ v → 0 ≤ f.head → f.head + s.length ≤ 8192 → runS f (s ++ r) = runS { f with tok := T ++ u, head := f.head + s.length, pos := f.pos + s.length } r
  | [], v, hu, f, h1, h2, h3, h4, h5, h6 => by
    rw [List.append_nil] at hu
    subst hu
    rw [List.nil_append, ← h4]
    show runS f r = runS { f with tok := f.tok, head := f.head + ((0 : Nat) : Int), pos := f.pos + 0 } r
    rw [Int.natCast_zero, Int.add_zero, Nat.add_zero]
  | c :: s, v, hu, f, h1, h2, h3, h4, h5, h6 => by
    have h7 : f.head + (s.length + 1 : Nat) ≤ 8192 := h6
    rw [List.cons_append, run_one h5 (by omega) (hs v c s hu { f with head := f.head + 1 } h1 h2 h3 h4)]
    refine (run_tok hs r s (v ++ [c]) (by rw [hu]; simp) { f with next := k, tok := f.tok ++ [c], head := f.head + 1, pos := f.pos + 1 } rfl h2 h3 (by show f.tok ++ [c] = _; rw [h4, List.append_assoc]) (by show 0 ≤ f.head + 1; omega) (by show f.head + 1 + _ ≤ _; omega)).trans ?_
    show runS { f with next := k, tok := T ++ u, head := f.head + 1 + (s.length : Nat), pos := f.pos + 1 + s.length } r = runS { f with tok := T ++ u, head := f.head + ((s.length + 1 : Nat) : Int), pos := f.pos + (s.length + 1) } r
    rw [show f.pos + 1 + s.length = f.pos + (s.length + 1) by omega, show f.head + 1 + (s.length : Int) = f.head + ((s.length + 1 : Nat) : Int) by omega, ← h1]
theorem run_toks {k : Nat} {u r : List UInt8} {f : Fs} (hk : f.next = k) (ht : f.tok = []) (h5 : 0 ≤ f.head) (h6 : f.head + u.length ≤ 8192)
    (hs : ∀ (v : List UInt8) (c : UInt8) (s : List UInt8), u = v ++ c :: s → ∀ g : Fs, g.next = k → g.m = f.m → g.ans = f.ans → g.tok = v → stepS g c = .ok { g.put c with next := k }) :
    runS f (u ++ r) = runS { f with tok := u, head := f.head + u.length, pos := f.pos + u.length } r :=
  run_tok (T := []) (M := f.m) (a := f.ans) (fun v c s hu g h1 h2 h3 h4 => hs v c s hu g h1 h2 h3 h4) r u [] rfl f hk rfl rfl ht h5 h6
/-- A feed behind a line of the head: the message so far, n bytes of it. -/
def Fs.line (f : Fs) (M : Ms) (n : Nat) : Fs := { f with m := M, tok := [], head := n, pos := f.pos + n, about := 1, next := 6 }
theorem mem_mid {v s : List UInt8} {c : UInt8} {u : List UInt8} {P : UInt8 → Bool} (hu : u = v ++ c :: s) (h : u.all P = true) : P c = true := List.all_eq_true.1 h c (by rw [hu]; simp)
theorem mid_len {v s : List UInt8} {c : UInt8} {u : List UInt8} (hu : u = v ++ c :: s) : v.length < u.length := by rw [hu]; simp
theorem txt_bl (s : ByteArray) : txt (bl s) = s := by cases s; rfl
theorem bl_len (s : ByteArray) : (bl s).length = s.size := by cases s; rfl
theorem empty_txt {s : ByteArray} (h : s.size = 0) : s = ⟨#[]⟩ := by
  cases s with | mk d =>
  have : d.size = 0 := h
  rw [Array.eq_empty_of_size_eq_zero this]
/-- What holds of a feed that waits for a message. -/
structure Idle (f : Fs) : Prop where
  beg : f.begin = f
  shut : f.shut = false
theorem Idle.m {f : Fs} (h : Idle f) : f.m = Ms.zero := by rw [← h.beg]; rfl
theorem Idle.tok {f : Fs} (h : Idle f) : f.tok = [] := by rw [← h.beg]; rfl
theorem Idle.head {f : Fs} (h : Idle f) : f.head = 0 := by rw [← h.beg]; rfl
theorem Idle.left {f : Fs} (h : Idle f) : f.left = 0 := by rw [← h.beg]; rfl
theorem Idle.size {f : Fs} (h : Idle f) : f.size = 0 := by rw [← h.beg]; rfl
theorem Idle.about {f : Fs} (h : Idle f) : f.about = 0 := by rw [← h.beg]; rfl
theorem Idle.next {f : Fs} (h : Idle f) : f.next = if f.ans then 2 else 0 := by
  have e := congrArg Fs.next h.beg
  rw [← e]; rfl
theorem begin_idle {f : Fs} (h : f.shut = false) : Idle f.begin := ⟨rfl, h⟩
/-- The protocol's name, and the byte behind it. -/
theorem run_ver {f : Fs} {r : List UInt8} (hn : f.next = 2) (ht : f.tok = []) (h5 : 0 ≤ f.head) (h6 : f.head + 9 ≤ 8192) :
    runS f (protoL ++ (if f.ans then 32 else 13) :: r) = runS { f with tok := [], head := f.head + 9, pos := f.pos + 9, next := if f.ans then 3 else 5 } r := by
  have hw : ∀ a, wantL a = protoL ++ [if a then 32 else 13] := fun a => rfl
  rw [run_toks hn ht h5 (by show f.head + ((8 : Nat) : Int) ≤ 8192; omega) (fun v c s hu g h1 h2 h3 h4 => by
    have hv := mid_len hu
    have h8 : protoL.length = 8 := rfl
    unfold stepS
    rw [h1]
    show versionS g c = _
    unfold versionS
    have hg : (wantL g.ans)[g.tok.length]? = some c := by
      rw [h4, hw, hu, List.append_assoc, List.getElem?_append_right (Nat.le_refl _), Nat.sub_self]
      rfl
    rw [if_neg (by rw [hg]; simp), if_pos (by rw [h4]; omega)])]
  rw [run_one (g := { f with tok := [], head := f.head + 8 + 1, pos := f.pos + 8, next := if f.ans then 3 else 5 }) (by show 0 ≤ f.head + ((8 : Nat) : Int); omega) (by show f.head + ((8 : Nat) : Int) < 8192; omega) (by
    unfold stepS
    simp only [hn]
    unfold versionS
    rw [if_neg (by simp only [hw]; cases f.ans <;> simp [protoL]), if_neg (by simp [protoL])]
    simp [protoL])]
  simp only
  rw [show f.head + 8 + 1 = f.head + 9 by omega]
theorem ten_step {g : Fs} (hn : g.next = 5) (ha : g.about ≠ 2) : stepS g 10 = .ok { g with about := 1, next := 6 } := by
  unfold stepS
  rw [hn]
  show lineS g 10 = _
  unfold lineS
  rw [if_neg (by decide), if_pos ha]
/-- A request's first line. -/
theorem run_start0 {f : Fs} {m : Ms} {r : List UInt8} (hf : Idle f) (ha : f.ans = false) (hm : m.meth.size ≠ 0) (hb : startB m = true) (hl : (startL m ++ crlf).length ≤ 8192) :
    runS f (startL m ++ crlf ++ r) = runS (f.line { m with heads := [], body := [] } (startL m ++ crlf).length) r := by
  unfold startB at hb
  rw [if_pos hm] at hb
  simp only [Bool.and_eq_true, decide_eq_true_eq] at hb
  obtain ⟨⟨⟨hb1, hb2⟩, ⟨⟨hb3, hb4⟩, hb5⟩⟩, hb6, hb7⟩ := hb
  have hsl : startL m = bl m.meth ++ 32 :: bl m.targ ++ 32 :: protoL := by unfold startL; rw [if_pos hm]
  have hlen : (startL m ++ crlf).length = m.meth.size + m.targ.size + 12 := by
    rw [hsl]; simp [bl_len, protoL, crlf]; omega
  rw [hlen] at hl ⊢
  rw [hsl, show bl m.meth ++ 32 :: bl m.targ ++ 32 :: protoL ++ crlf ++ r = bl m.meth ++ 32 :: (bl m.targ ++ 32 :: (protoL ++ 13 :: 10 :: r)) by simp [crlf]]
  have h0 := hf.head
  rw [run_toks (k := 0) (f := f) (u := bl m.meth) (by simp [hf.next, ha]) hf.tok (by omega) (by rw [bl_len]; omega) (fun v c s hu g h1 h2 h3 h4 => by
    have hc := mem_mid hu hb2
    have hv := mid_len hu
    rw [bl_len] at hv
    unfold isUpB at hc
    simp only [Bool.and_eq_true, decide_eq_true_eq] at hc
    unfold stepS
    rw [h1]
    show methodS g c = _
    unfold methodS
    rw [if_pos ⟨hc, by rw [h4]; omega⟩])]
  rw [run_one (by show (0 : Int) ≤ f.head + _; omega) (by show f.head + ((bl m.meth).length : Int) < 8192; rw [bl_len]; omega) (by
    unfold stepS
    simp only [hf.next, ha]
    show methodS _ 32 = _
    unfold methodS
    rw [if_neg (by simp), if_pos ⟨rfl, by show 0 < (bl m.meth).length; rw [bl_len]; omega⟩])]
  rw [run_toks (k := 1) (u := bl m.targ) rfl rfl (by show (0 : Int) ≤ f.head + _ + 1; omega) (by show f.head + ((bl m.meth).length : Int) + 1 + ((bl m.targ).length : Int) ≤ 8192; rw [bl_len, bl_len]; omega) (fun v c s hu g h1 h2 h3 h4 => by
    have hc := mem_mid hu hb5
    have hv := mid_len hu
    rw [bl_len] at hv
    unfold isSeenB at hc
    simp only [Bool.and_eq_true, decide_eq_true_eq] at hc
    unfold stepS
    rw [h1]
    show targetS g c = _
    unfold targetS
    rw [if_neg (by omega), if_neg (by omega), if_neg (by rw [h4]; omega)])]
  rw [run_one (by show (0 : Int) ≤ f.head + _ + 1 + _; omega) (by show f.head + ((bl m.meth).length : Int) + 1 + ((bl m.targ).length : Int) < 8192; rw [bl_len, bl_len]; omega) (by
    unfold stepS
    simp only
    unfold targetS
    rw [if_pos ⟨rfl, by show 0 < (bl m.targ).length; rw [bl_len]; omega⟩])]
  have hv := run_ver (f := { f with m := { f.m with meth := txt (bl m.meth), targ := txt (bl m.targ) }, tok := [], head := f.head + ((bl m.meth).length : Int) + 1 + ((bl m.targ).length : Int) + 1, pos := f.pos + (bl m.meth).length + 1 + (bl m.targ).length + 1, next := 2 }) (r := 10 :: r) rfl rfl (by show (0 : Int) ≤ f.head + _ + 1 + _ + 1; omega) (by show f.head + ((bl m.meth).length : Int) + 1 + ((bl m.targ).length : Int) + 1 + 9 ≤ 8192; rw [bl_len, bl_len]; omega)
  simp only [ha] at hv
  refine Eq.trans ?_ (hv.trans ?_)
  · simp only [ha]
    rfl
  rw [run_one (by show (0 : Int) ≤ f.head + _ + 1 + _ + 1 + 9; omega) (by show f.head + ((bl m.meth).length : Int) + 1 + ((bl m.targ).length : Int) + 1 + 9 < 8192; rw [bl_len, bl_len]; omega) (ten_step rfl (by show f.about ≠ 2; rw [hf.about]; decide))]
  congr 1
  unfold Fs.line
  simp only [Fs.mk.injEq, true_and, and_true, bl_len, hf.m, Ms.zero, txt_bl, ha]
  refine ⟨by omega, by omega, ?_⟩
  cases m
  simp only [Ms.mk.injEq, true_and, and_true]
  exact ⟨hb6.symm, (empty_txt hb7).symm⟩
theorem ofNat_toNat {n : Nat} (h : n < 256) : (UInt8.ofNat n).toNat = n := by rw [UInt8.toNat_ofNat']; omega
theorem decDigits_step {n : Nat} (h : ¬ n < 10) : Lib.decDigits n = Lib.decDigits (n / 10) ++ [UInt8.ofNat (48 + n % 10)] := by
  conv => lhs; rw [Lib.decDigits]
  rw [dif_neg h]
theorem decV_app (l : List UInt8) (c : UInt8) : decV (l ++ [c]) = 10 * decV l + (c.toNat - 48) := by unfold decV; rw [List.foldl_append]; rfl
/-- A numeral: its worth, its digits, how many at most. -/
theorem dec_all (n : Nat) : decV (Lib.decDigits n) = n ∧ (Lib.decDigits n).all isDigB = true ∧ Lib.decDigits n ≠ [] ∧ ∀ k, 0 < k → n < 10 ^ k → (Lib.decDigits n).length ≤ k := by
  induction n using Nat.strongRecOn with
  | _ n ih =>
    by_cases h : n < 10
    · rw [Lib.decDigits_one h]
      have ht := ofNat_toNat (n := 48 + n) (by omega)
      refine ⟨?_, ?_, by simp, fun k hk _ => hk⟩
      · show 10 * 0 + ((UInt8.ofNat (48 + n)).toNat - 48) = n
        omega
      · rw [List.all_cons, List.all_nil, Bool.and_true]
        unfold isDigB
        simp only [ht, Bool.and_eq_true, decide_eq_true_eq]
        omega
    · obtain ⟨h1, h2, h3, h4⟩ := ih (n / 10) (by omega)
      have ht := ofNat_toNat (n := 48 + n % 10) (by omega)
      rw [decDigits_step h]
      refine ⟨?_, ?_, by simp, fun k hk hn => ?_⟩
      · rw [decV_app, h1, ht]; omega
      · rw [List.all_append, h2, List.all_cons, List.all_nil, Bool.and_true, Bool.true_and]
        unfold isDigB
        simp only [ht, Bool.and_eq_true, decide_eq_true_eq]
        omega
      · cases k with
        | zero => omega
        | succ k =>
          rw [Nat.pow_succ] at hn
          cases k with
          | zero => omega
          | succ k =>
            have := h4 (k + 1) (by omega) (by omega)
            rw [List.length_append, List.length_singleton]
            omega
theorem itoa_dec {n : Nat} : Lib.itoa (n : Int) = Lib.decDigits n := by unfold Lib.itoa; rw [if_neg (by omega), Int.toNat_natCast]
/-- Three digits. -/
theorem dec_three {n : Nat} (h1 : 100 ≤ n) (h2 : n ≤ 599) : Lib.decDigits n = [UInt8.ofNat (48 + n / 100), UInt8.ofNat (48 + n / 10 % 10), UInt8.ofNat (48 + n % 10)] := by
  rw [decDigits_step (by omega), decDigits_step (by omega), Nat.div_div_eq_div_mul, Lib.decDigits_one (by omega)]
  rfl
/-- An answer's first line. -/
theorem run_start1 {f : Fs} {m : Ms} {r : List UInt8} (hf : Idle f) (ha : f.ans = true) (hm : m.meth.size = 0) (hb : startB m = true) (hl : (startL m ++ crlf).length ≤ 8192) :
    runS f (startL m ++ crlf ++ r) = runS (f.line { m with heads := [], body := [] } (startL m ++ crlf).length) r := by
  unfold startB at hb
  rw [if_neg (by omega)] at hb
  simp only [Bool.and_eq_true, decide_eq_true_eq] at hb
  obtain ⟨⟨hb1, hb2, hb3⟩, hb4⟩ := hb
  obtain ⟨n, hn⟩ := Int.eq_ofNat_of_zero_le (show 0 ≤ m.stat by omega)
  have hn1 : 100 ≤ n := by omega
  have hn2 : n ≤ 599 := by omega
  have hd3 := dec_three hn1 hn2
  obtain ⟨hdv, hda, _, _⟩ := dec_all n
  have hdl : (Lib.decDigits n).length = 3 := by rw [hd3]; rfl
  have hsl : startL m = protoL ++ 32 :: Lib.decDigits n ++ 32 :: bl m.reas := by unfold startL; rw [if_neg (by omega), hn, itoa_dec]
  have hlen : (startL m ++ crlf).length = m.reas.size + 15 := by
    rw [hsl]; simp [bl_len, protoL, crlf, hdl]; omega
  rw [hlen] at hl ⊢
  rw [hsl, show protoL ++ 32 :: Lib.decDigits n ++ 32 :: bl m.reas ++ crlf ++ r = protoL ++ 32 :: (Lib.decDigits n ++ 32 :: (bl m.reas ++ 13 :: 10 :: r)) by simp [crlf]]
  have h0 := hf.head
  have hv := run_ver (f := f) (r := Lib.decDigits n ++ 32 :: (bl m.reas ++ 13 :: 10 :: r)) (by simp [hf.next, ha]) hf.tok (by omega) (by omega)
  rw [ha] at hv
  simp only [if_true] at hv
  rw [hv]
  rw [run_toks (k := 3) (u := Lib.decDigits n) rfl rfl (by show (0 : Int) ≤ f.head + 9; omega) (by show f.head + 9 + ((Lib.decDigits n).length : Int) ≤ 8192; omega) (fun v c s hu g h1 h2 h3 h4 => by
    have hc := mem_mid hu hda
    have hv := mid_len hu
    unfold stepS
    rw [h1]
    show statusS g c = _
    unfold statusS
    have h0 : g.tok.length = 0 → ¬ (c.toNat = 48 ∨ 53 < c.toNat) := fun h => by
      rw [h4] at h
      rw [List.eq_nil_of_length_eq_zero h, List.nil_append, hd3] at hu
      injection hu with e _
      rw [← e, ofNat_toNat (by omega)]
      omega
    rw [if_neg (by rw [h4]; omega), if_neg (by
      rintro (h | h | h)
      · rw [h4] at h; omega
      · rw [hc] at h; cases h
      · exact h0 h.1 h.2)])]
  rw [run_one (by show (0 : Int) ≤ f.head + 9 + _; omega) (by show f.head + 9 + ((Lib.decDigits n).length : Int) < 8192; omega) (by
    unfold stepS
    simp only
    unfold statusS
    rw [if_pos ⟨hdl, rfl⟩])]
  rw [run_toks (k := 4) (u := bl m.reas) rfl rfl (by show (0 : Int) ≤ f.head + 9 + _ + 1; omega) (by show f.head + 9 + ((Lib.decDigits n).length : Int) + 1 + ((bl m.reas).length : Int) ≤ 8192; rw [bl_len]; omega) (fun v c s hu g h1 h2 h3 h4 => by
    have hc := mem_mid hu hb4
    unfold isTextB at hc
    simp only [Bool.and_eq_true, decide_eq_true_eq] at hc
    unfold stepS
    rw [h1]
    show reasonS g c = _
    unfold reasonS
    rw [if_neg (by omega), if_neg (by omega)])]
  rw [run_one (by show (0 : Int) ≤ f.head + 9 + _ + 1 + _; omega) (by show f.head + 9 + ((Lib.decDigits n).length : Int) + 1 + ((bl m.reas).length : Int) < 8192; rw [bl_len]; omega) (by
    unfold stepS
    simp only
    unfold reasonS
    rw [if_pos (show (13 : UInt8).toNat = 13 from rfl)])]
  rw [run_one (by show (0 : Int) ≤ f.head + 9 + _ + 1 + _ + 1; omega) (by show f.head + 9 + ((Lib.decDigits n).length : Int) + 1 + ((bl m.reas).length : Int) + 1 < 8192; rw [bl_len]; omega) (ten_step rfl (by show f.about ≠ 2; rw [hf.about]; decide))]
  congr 1
  unfold Fs.line
  simp only [Fs.mk.injEq, true_and, and_true, bl_len, hf.m, Ms.zero, txt_bl, hdv, ha]
  refine ⟨by omega, by omega, ?_⟩
  cases m
  simp only [Ms.mk.injEq, true_and, and_true]
  exact ⟨(empty_txt hm).symm, (empty_txt hb1).symm, hn.symm⟩
theorem drop_len {p : UInt8 → Bool} (l : List UInt8) : (l.dropWhile p).length ≤ l.length := (List.dropWhile_suffix p).length_le
theorem drop_same {p : UInt8 → Bool} {l : List UInt8} (h : (l.dropWhile p).length = l.length) : l.dropWhile p = l := (List.dropWhile_suffix p).eq_of_length h
theorem drop_app {p : UInt8 → Bool} : ∀ {l : List UInt8} {m : List UInt8}, l ≠ [] → l.dropWhile p = l → (l ++ m).dropWhile p = l ++ m
  | c :: r, m, _, h => by
    cases hp : p c with
    | false => rw [List.cons_append, List.dropWhile_cons_of_neg (by rw [hp]; simp)]
    | true =>
      rw [List.dropWhile_cons_of_pos hp] at h
      have := drop_len (p := p) r
      rw [h] at this
      simp at this
      omega
theorem trim_blank {v : List UInt8} (h : trimL v = v) : trimL (32 :: v) = v := by
  unfold trimL Lib.trimS Lib.trimLeftS Lib.trimRightS at *
  generalize hp : (fun x => [32, 9].contains x : UInt8 → Bool) = p at *
  have h32 : p 32 = true := by rw [← hp]; rfl
  have l1 := drop_len (p := p) v.reverse
  have l2 := drop_len (p := p) (v.reverse.dropWhile p).reverse
  rw [h] at l2
  have e1 : v.reverse.dropWhile p = v.reverse := drop_same (by simp only [List.length_reverse] at *; omega)
  rw [e1, List.reverse_reverse] at h
  by_cases hv : v = []
  · subst hv
    simp [h32]
  · rw [List.reverse_cons, drop_app (by simpa using hv) e1, List.reverse_append, List.reverse_reverse]
    show (32 :: v).dropWhile p = v
    rw [List.dropWhile_cons_of_pos h32, h]
theorem setLast_app (L : List (ByteArray × ByteArray)) (x v w : ByteArray) : setLast (L ++ [(x, w)]) v = L ++ [(x, v)] := by
  unfold setLast
  simp
/-- A header's line. -/
theorem run_head {f : Fs} {M : Ms} {n : Nat} {p : ByteArray × ByteArray} {r : List UInt8} (h1 : p.1.size ≠ 0) (h2 : (bl p.1).all isNameB = true) (h3 : (bl p.2).all isValueB = true) (h4 : trimL (bl p.2) = bl p.2)
    (h5 : M.heads.length < 64) (h6 : n + (headL p).length ≤ 8192) : runS (f.line M n) (headL p ++ r) = runS (f.line { M with heads := M.heads ++ [p] } (n + (headL p).length)) r := by
  have hlen : (headL p).length = p.1.size + p.2.size + 4 := by unfold headL; simp [bl_len, crlf]; omega
  rw [hlen] at h6 ⊢
  unfold headL
  rw [show bl p.1 ++ [58, 32] ++ bl p.2 ++ crlf ++ r = bl p.1 ++ 58 :: ((32 :: bl p.2) ++ 13 :: 10 :: r) by simp [crlf]]
  have hz : ((bl p.1).length : Int) = p.1.size := by rw [bl_len]
  have hz2 : ((32 :: bl p.2).length : Int) = p.2.size + 1 := by rw [List.length_cons, bl_len]; omega
  rw [run_toks (k := 6) (f := f.line M n) (u := bl p.1) rfl rfl (by show (0 : Int) ≤ (n : Int); omega) (by show (n : Int) + _ ≤ 8192; omega) (fun v c s hu g g1 g2 g3 g4 => by
    have hc := mem_mid hu h2
    have c13 : c.toNat ≠ 13 := fun e => by
      have : c = 13 := UInt8.toNat_inj.1 e
      subst this; cases hc
    have c58 : c.toNat ≠ 58 := fun e => by
      have : c = 58 := UInt8.toNat_inj.1 e
      subst this; cases hc
    have hh : g.m.heads.length ≠ 64 := by rw [g2]; show M.heads.length ≠ 64; omega
    unfold stepS
    rw [g1]
    show nameS g c = _
    unfold nameS
    rw [if_neg (fun h => c13 h.1), if_neg (fun h => hh h.2), if_neg (fun h => c58 h.1), if_neg (by rw [hc]; decide)])]
  rw [run_one (by show (0 : Int) ≤ (n : Int) + _; omega) (by show (n : Int) + ((bl p.1).length : Int) < 8192; omega) (by
    unfold stepS
    simp only [Fs.line]
    unfold nameS
    rw [if_neg (by simp), if_neg (fun h => by have : M.heads.length = 64 := h.2; omega), if_pos ⟨rfl, by show 0 < (bl p.1).length; rw [bl_len]; omega⟩])]
  rw [run_toks (k := 7) (u := 32 :: bl p.2) rfl rfl (by show (0 : Int) ≤ (n : Int) + _ + 1; omega) (by show (n : Int) + ((bl p.1).length : Int) + 1 + ((32 :: bl p.2).length : Int) ≤ 8192; omega) (fun v c s hu g g1 g2 g3 g4 => by
    have hc : isValueB c = true := mem_mid hu (by rw [List.all_cons, h3]; rfl)
    have c13 : c.toNat ≠ 13 := fun e => by
      have : c = 13 := UInt8.toNat_inj.1 e
      subst this; cases hc
    unfold stepS
    rw [g1]
    show valueS g c = _
    unfold valueS
    rw [if_neg c13, if_neg (by rw [hc]; decide)])]
  rw [run_one (by show (0 : Int) ≤ (n : Int) + _ + 1 + _; omega) (by show (n : Int) + ((bl p.1).length : Int) + 1 + ((32 :: bl p.2).length : Int) < 8192; omega) (by
    unfold stepS
    simp only
    unfold valueS
    rw [if_pos (show (13 : UInt8).toNat = 13 from rfl)])]
  rw [run_one (by show (0 : Int) ≤ (n : Int) + _ + 1 + _ + 1; omega) (by show (n : Int) + ((bl p.1).length : Int) + 1 + ((32 :: bl p.2).length : Int) + 1 < 8192; omega) (ten_step rfl (by show (1 : Int) ≠ 2; decide))]
  congr 1
  unfold Fs.line
  simp only [Fs.mk.injEq, true_and, and_true]
  refine ⟨by omega, by omega, ?_⟩
  rw [setLast_app, trim_blank h4, txt_bl, txt_bl]
theorem run_heads {f : Fs} {r : List UInt8} : ∀ (l : List (ByteArray × ByteArray)) (M : Ms) (n : Nat), l.all fitB = true → M.heads.length + l.length ≤ 64 → n + (l.flatMap headL).length ≤ 8192 →
    runS (f.line M n) (l.flatMap headL ++ r) = runS (f.line { M with heads := M.heads ++ l } (n + (l.flatMap headL).length)) r
  | [], M, n, _, _, _ => by simp
  | p :: l, M, n, h1, h2, h3 => by
    rw [List.all_cons, Bool.and_eq_true] at h1
    obtain ⟨hp, hl⟩ := h1
    unfold fitB at hp
    simp only [Bool.and_eq_true, decide_eq_true_eq, beq_iff_eq] at hp
    obtain ⟨⟨⟨p1, p2⟩, p3, p4⟩, _⟩ := hp
    rw [List.length_cons] at h2
    rw [List.flatMap_cons, List.length_append] at h3
    rw [List.flatMap_cons, List.append_assoc, run_head p1 p2 p3 p4 (by omega) (by omega), run_heads l _ _ hl (by simp only [List.length_append, List.length_singleton]; omega) (by omega)]
    congr 2
    · simp only [List.append_assoc, List.singleton_append]
    · simp only [List.length_append]; omega
/-- The headers say nothing of the body. -/
theorem heads_none : ∀ (l : List (ByteArray × ByteArray)) (h : Hs), l.all fitB = true → l.foldl headS h = h
  | [], _, _ => rfl
  | p :: l, h, h1 => by
    rw [List.all_cons, Bool.and_eq_true] at h1
    obtain ⟨hp, hl⟩ := h1
    unfold fitB at hp
    simp only [Bool.and_eq_true, Bool.not_eq_true'] at hp
    obtain ⟨_, p5, p6⟩ := hp
    unfold bl at p5 p6
    rw [List.foldl_cons, heads_none l _ hl]
    unfold headS
    rw [if_neg (by rw [p5]; decide), if_neg (by rw [p6]; decide)]
/-- The header that tells the body's length. -/
def lenH (n : Nat) : ByteArray × ByteArray := (txt lengthL, txt (Lib.decDigits n))
theorem heads_len {l : List (ByteArray × ByteArray)} {n : Nat} (h : l.all fitB = true) (hn : n ≤ 65536) : headsS (l ++ [lenH n]) 0 = ⟨1, false, false, n⟩ := by
  unfold headsS
  rw [List.foldl_append, heads_none l _ h]
  obtain ⟨d1, d2, d3, d4⟩ := dec_all n
  have d5 := d4 10 (by decide) (by omega)
  have hd : decS (Lib.decDigits n) = some n := by
    unfold decS
    rw [if_pos ⟨d3, d5, d2⟩, d1]
  show headS ⟨0, false, false, 0⟩ (lenH n) = _
  unfold headS
  rw [show (lenH n).1.data.toList = lengthL from rfl, if_neg (show ¬ (alikeB lengthL codingL = true) by decide +kernel), if_pos (show alikeB lengthL lengthL = true by decide +kernel)]
  show (match decS (Lib.decDigits n) with
    | some n => (⟨0 + 1, false, false, n⟩ : Hs)
    | none => ⟨0 + 1, true, false, 0⟩) = _
  rw [hd]
/-- The body's bytes. -/
theorem run_bytes : ∀ (l : List UInt8) (f : Fs), f.next = 8 → f.head = -1 → f.left = l.length → l ≠ [] → f.shut = false → ∃ g, runS f l = .inl g ∧ Idle g ∧ g.ans = f.ans ∧ g.whole = f.whole ++ [{ f.m with body := f.m.body ++ l }]
  | [], f, _, _, _, h, _ => absurd rfl h
  | c :: r, f, h1, h2, h3, _, h5 => by
    rw [runS_cons]
    have e : stepS f c = bytesS f c := by unfold stepS; rw [h1]; rfl
    cases r with
    | nil =>
      have e2 : bytesS f c = .ok ({ f with m := { f.m with body := f.m.body ++ [c] }, left := f.left - 1 } : Fs).end_ := by
        unfold bytesS
        rw [if_pos (by rw [h3]; rfl)]
      rw [one_okb h2 (e.trans e2)]
      exact ⟨_, rfl, ⟨rfl, h5⟩, rfl, rfl⟩
    | cons d r =>
      have e2 : bytesS f c = .ok { f with m := { f.m with body := f.m.body ++ [c] }, left := f.left - 1, next := 8 } := by
        unfold bytesS
        rw [if_neg (by rw [h3]; simp only [List.length_cons]; omega)]
      rw [one_okb h2 (e.trans e2)]
      obtain ⟨g, g1, g2, g3, g4⟩ := run_bytes (d :: r) { f with m := { f.m with body := f.m.body ++ [c] }, left := f.left - 1, next := 8, pos := f.pos + 1 } rfl h2 (by show f.left - 1 = _; rw [h3]; simp only [List.length_cons]; omega) (by simp) h5
      refine ⟨g, g1, g2, g3, ?_⟩
      rw [g4]
      simp
/-- A message that can be written is read as it was, with the header that tells its length. -/
theorem back_one {m : Ms} {f : Fs} {bs : List UInt8} (hw : writeS m = (0, bs)) (hf : Idle f) (ha : f.ans = decide (m.meth.size = 0)) :
    ∃ g, runS f bs = .inl g ∧ Idle g ∧ g.ans = f.ans ∧ g.whole = f.whole ++ [{ m with heads := m.heads ++ [lenH m.body.length] }] := by
  unfold writeS at hw
  split at hw
  · cases hw
  rename_i h1
  split at hw
  · cases hw
  rename_i h2
  split at hw
  · cases hw
  rename_i h3
  injection hw with _ hw
  subst hw
  have h1 : (startB m && m.heads.all fitB) = true := by simpa using h1
  rw [Bool.and_eq_true] at h1
  obtain ⟨hs, hh⟩ := h1
  have hlen : (headL (lenH m.body.length)) = lengthL ++ [58, 32] ++ Lib.itoa (m.body.length : Int) ++ crlf := by rw [itoa_dec]; rfl
  have htop : topL m = startL m ++ crlf ++ (m.heads.flatMap headL ++ (headL (lenH m.body.length) ++ crlf)) := by
    unfold topL; rw [hlen]; simp only [List.append_assoc]
  have hsz := h3
  rw [htop] at hsz
  simp only [List.length_append] at hsz
  have hst : ∀ r, runS f (startL m ++ crlf ++ r) = runS (f.line { m with heads := [], body := [] } (startL m ++ crlf).length) r := fun r => by
    by_cases hm : m.meth.size = 0
    · exact run_start1 hf (by rw [ha]; simp [hm]) hm hs (by simp only [List.length_append]; omega)
    · exact run_start0 hf (by rw [ha]; simp [hm]) hm hs (by simp only [List.length_append]; omega)
  rw [htop, List.append_assoc, hst, List.append_assoc, run_heads _ _ _ hh (by show 0 + _ ≤ 64; omega) (by simp only [List.length_append] at *; omega)]
  obtain ⟨d1, d2, d3, d4⟩ := dec_all m.body.length
  have dv : ∀ c ∈ Lib.decDigits m.body.length, 48 ≤ c.toNat ∧ c.toNat ≤ 57 := fun c hc => by
    have := List.all_eq_true.1 d2 c hc
    unfold isDigB at this
    simpa using this
  rw [List.append_assoc, run_head (p := lenH m.body.length) (by show lengthL.toArray.size ≠ 0; decide) (show lengthL.all isNameB = true by decide +kernel) (List.all_eq_true.2 fun c hc => by
      have := dv c hc
      unfold isValueB
      simp only [Bool.or_eq_true, Bool.and_eq_true, decide_eq_true_eq, bne_iff_ne]
      omega) (by
      show trimL (Lib.decDigits m.body.length) = Lib.decDigits m.body.length
      have hq : ∀ c ∈ Lib.decDigits m.body.length, ([32, 9] : List UInt8).contains c = false := fun c hc => by
        have := dv c hc
        have e1 : c ≠ 32 := fun e => by subst e; revert this; decide
        have e2 : c ≠ 9 := fun e => by subst e; revert this; decide
        simp [e1, e2]
      have hx : ∀ l : List UInt8, (∀ c ∈ l, ([32, 9] : List UInt8).contains c = false) → l.dropWhile (fun x => ([32, 9] : List UInt8).contains x) = l := fun l hl => by
        cases l with
        | nil => rfl
        | cons c r => rw [List.dropWhile_cons_of_neg (by rw [hl c (by simp)]; decide)]
      unfold trimL Lib.trimS Lib.trimLeftS Lib.trimRightS
      rw [hx (Lib.decDigits m.body.length).reverse (fun c hc => hq c (List.mem_reverse.1 hc)), List.reverse_reverse, hx _ hq]) (by show (([] : List (ByteArray × ByteArray)) ++ m.heads).length < 64; rw [List.nil_append]; omega) (by simp only [List.length_append] at *; omega)]
  generalize hn : (startL m ++ crlf).length + (m.heads.flatMap headL).length + (headL (lenH m.body.length)).length = n
  have hn2 : n + 2 ≤ 8192 := by
    have : crlf.length = 2 := rfl
    simp only [List.length_append] at hn
    omega
  show ∃ g, runS _ (13 :: 10 :: m.body) = .inl g ∧ _
  rw [run_one (g := { f.line { m with heads := m.heads ++ [lenH m.body.length], body := [] } n with head := n + 1, about := 2, next := 5 }) (by show (0 : Int) ≤ (n : Int); omega) (by show (n : Int) < 8192; omega) (by
    unfold stepS
    simp only [Fs.line]
    unfold nameS
    rw [if_pos ⟨rfl, rfl⟩]
    rfl)]
  generalize hF : ({ f.line { m with heads := m.heads ++ [lenH m.body.length], body := [] } n with head := n + 1, about := 2, next := 5, pos := f.pos + n + 1 } : Fs) = F
  show ∃ g, runS ({ f.line { m with heads := m.heads ++ [lenH m.body.length], body := [] } n with head := n + 1, about := 2, next := 5, pos := f.pos + n + 1 } : Fs) (10 :: m.body) = .inl g ∧ _
  rw [hF]
  have f1 : F.m = { m with heads := m.heads ++ [lenH m.body.length], body := [] } := by rw [← hF]; rfl
  have f2 : F.about = 2 := by rw [← hF]
  have f3 : F.next = 5 := by rw [← hF]
  have f4 : F.left = 0 := by rw [← hF]; exact hf.left
  have f5 : F.head = n + 1 := by rw [← hF]
  have f6 : F.ans = f.ans := by rw [← hF]; rfl
  have f7 : F.whole = f.whole := by rw [← hF]; rfl
  have f8 : F.shut = false := by rw [← hF]; exact hf.shut
  have hb : stepS { F with head := F.head + 1 } 10 = bodyS { F with head := F.head + 1 } := by
    unfold stepS
    simp only [f3]
    unfold lineS
    rw [if_neg (by decide), if_neg (by simp [f2])]
  have hhs : headsS F.m.heads F.left = ⟨1, false, false, m.body.length⟩ := by rw [f1, f4]; exact heads_len hh (by omega)
  by_cases h0 : m.body = []
  · have e2 : bodyS { F with head := F.head + 1 } = .ok ({ F with head := -1, left := 0 } : Fs).end_ := by
      unfold bodyS
      simp only [hhs]
      rw [if_neg (by simp), if_neg (by simp), if_neg (by omega), if_pos (by rw [h0]; rfl), h0]
      rfl
    rw [runS_cons, one_ok (by omega) (by omega) (hb.trans e2), h0]
    refine ⟨_, rfl, ⟨rfl, f8⟩, f6, ?_⟩
    show F.whole ++ [F.m] = _
    rw [f7, f1, h0]
  · have hpos : 0 < m.body.length := List.length_pos_iff.2 h0
    have e2 : bodyS { F with head := F.head + 1 } = .ok { F with head := -1, left := m.body.length, next := 8 } := by
      unfold bodyS
      simp only [hhs]
      rw [if_neg (by simp), if_neg (by simp), if_neg (by omega), if_neg (by omega)]
    rw [runS_cons, one_ok (by omega) (by omega) (hb.trans e2)]
    obtain ⟨g, g1, g2, g3, g4⟩ := run_bytes m.body { F with head := -1, left := m.body.length, next := 8, pos := F.pos + 1 } rfl rfl rfl h0 f8
    refine ⟨g, g1, g2, g3.trans f6, ?_⟩
    rw [g4]
    show F.whole ++ [{ F.m with body := F.m.body ++ m.body }] = _
    rw [f7, f1]
    rfl
end Go.Proofs.YtbehakabglegjaaGreatDoor
