/- Layer 2: a value told as a text, with blanks or without, in plain words; the parts of it are read back. -/
import Derived.Test.YtnjhmnolngdfaaaGreatDoorSnA
namespace Go.Proofs.YtnjhmnolngdfaaaGreatDoor
open Go.RowKit Go.PlainAid
set_option linter.unusedVariables false
set_option linter.unusedSimpArgs false
/-- From place i on stand the bytes L, and then the rest R. -/
def LAt (s : ByteArray) (i : Nat) (L R : List UInt8) : Prop := s.data.toList.drop i = L ++ R
section
variable {s : ByteArray} {i : Nat} {L M R : List UInt8}
theorem LAt.left (h : LAt s i (L ++ M) R) : LAt s i L (M ++ R) := by unfold LAt at *; rw [h, List.append_assoc]
theorem LAt.right (h : LAt s i (L ++ M) R) : LAt s (i + L.length) M R := by
  unfold LAt at *
  rw [← List.drop_drop, h, List.append_assoc, List.drop_left]
theorem LAt.head {c : UInt8} (h : LAt s i (c :: L) R) : i < s.size ∧ bt s i = c.toNat ∧ pk s i = c.toNat ∧ LAt s (i + 1) L R := by
  have hl : i < s.size := by
    rcases Nat.lt_or_ge i s.size with h1 | h1
    · exact h1
    · unfold LAt at h
      rw [List.drop_eq_nil_of_le (by simpa using h1)] at h
      cases h
  have hg : s[i] = c := by
    unfold LAt at h
    have h2 : s.data.toList.drop i = s.data.toList[i]'(by simpa using hl) :: s.data.toList.drop (i + 1) := List.drop_eq_getElem_cons (by simpa using hl)
    rw [h2] at h
    injection h
  have hb : bt s i = c.toNat := by unfold bt; rw [dif_pos hl, hg]
  refine ⟨hl, hb, by rw [pk_in hl, hb], ?_⟩
  have := LAt.right (L := [c]) (M := L) h
  exact this
theorem LAt.size (h : LAt s i L R) (hi : i ≤ s.size) : i + L.length ≤ s.size := by
  unfold LAt at h
  have h1 := congrArg List.length h
  rw [List.length_drop, List.length_append] at h1
  have : s.data.toList.length = s.size := by simp
  omega
end
/-- All of these are blanks. -/
def Blanks (G : List UInt8) : Prop := ∀ c ∈ G, blankI (c.toNat : Int) = true
theorem skip_blanks {s : ByteArray} : ∀ (G : List UInt8) (i : Nat) (R : List UInt8), Blanks G → LAt s i G R → skipTo s i = skipTo s (i + G.length)
  | [], i, R, _, _ => rfl
  | c :: G, i, R, hb, h => by
    obtain ⟨h1, h2, h3, h4⟩ := h.head
    have e : skipTo s i = skipTo s (i + 1) := overTo_go h1 (by rw [h3]; exact hb c (by simp))
    rw [e, skip_blanks G (i + 1) R (fun x hx => hb x (by simp [hx])) h4, List.length_cons]
    congr 1
    omega
theorem skip_at {s : ByteArray} {i : Nat} {c : UInt8} {G L R : List UInt8} (hG : Blanks G) (h : LAt s i (G ++ c :: L) R) (hc : blankI (c.toNat : Int) = false) : skipTo s i = i + G.length := by
  rw [skip_blanks G i _ hG h.left]
  obtain ⟨_, _, h3, _⟩ := h.right.head
  exact overTo_stop (by rw [h3]; exact hc)
/-- A number's digits. -/
def dig (x : Nat) : List UInt8 := if x < 10 then [(48 + x).toUInt8] else dig (x / 10) ++ [(48 + x % 10).toUInt8]
termination_by x
theorem dec_lt {x : Nat} (h : x < 10) : dig x = [(48 + x).toUInt8] := by rw [dig, if_pos h]
theorem dec_ge {x : Nat} (h : ¬ x < 10) : dig x = dig (x / 10) ++ [(48 + x % 10).toUInt8] := by rw [dig, if_neg h]
theorem dbyte {d : Nat} (h : d < 10) : ((48 + d).toUInt8).toNat = 48 + d := by simp [Nat.toUInt8]; omega
/-- What digits say. -/
def dval : Int → List UInt8 → Int
  | v, [] => v
  | v, c :: r => dval (10 * v + ((c.toNat : Int) - 48)) r
theorem dval_app : ∀ (l m : List UInt8) (v : Int), dval v (l ++ m) = dval (dval v l) m
  | [], m, v => rfl
  | c :: r, m, v => dval_app r m _
theorem dig_spec : ∀ (n x : Nat), x < n → (∀ c ∈ dig x, 48 ≤ c.toNat ∧ c.toNat ≤ 57) ∧ dval 0 (dig x) = x ∧ (∃ c r, dig x = c :: r ∧ (x ≠ 0 → c.toNat ≠ 48))
  | 0, x, h => by omega
  | n + 1, x, h => by
    by_cases hx : x < 10
    · rw [dec_lt hx]
      have hb := dbyte hx
      refine ⟨fun c hc => ?_, ?_, _, _, rfl, fun h0 => by rw [hb]; omega⟩
      · have : c = (48 + x).toUInt8 := by simpa using hc
        rw [this, hb]; omega
      · show 10 * 0 + (((48 + x).toUInt8.toNat : Int) - 48) = x
        rw [hb]; omega
    · rw [dec_ge hx]
      have hb := dbyte (d := x % 10) (by omega)
      obtain ⟨h1, h2, c, r, h3, h4⟩ := dig_spec n (x / 10) (by omega)
      refine ⟨fun c hc => ?_, ?_, c, r ++ [(48 + x % 10).toUInt8], by rw [h3]; rfl, fun _ => h4 (by omega)⟩
      · rcases List.mem_append.1 hc with hc | hc
        · exact h1 c hc
        · have : c = (48 + x % 10).toUInt8 := by simpa using hc
          rw [this, hb]; omega
      · rw [dval_app, h2]
        show 10 * ((x / 10 : Nat) : Int) + (((48 + x % 10).toUInt8.toNat : Int) - 48) = x
        rw [hb]; omega
/-- A number's text. -/
def figL (n : Int) : List UInt8 := if n < 0 then 45 :: dig n.natAbs else dig n.natAbs
/-- What may follow a number: nothing, or no digit. -/
def NoDig (R : List UInt8) : Prop := ∀ c r, R = c :: r → digI (c.toNat : Int) = false
theorem over_digs {s : ByteArray} : ∀ (L : List UInt8) (i : Nat) (R : List UInt8), (∀ c ∈ L, 48 ≤ c.toNat ∧ c.toNat ≤ 57) → LAt s i L R → NoDig R → overTo digI s i = i + L.length
  | [], i, R, _, h, hR => by
    refine overTo_stop ?_
    rcases Nat.lt_or_ge i s.size with h1 | h1
    · cases R with
      | nil =>
        unfold LAt at h
        have := congrArg List.length h
        rw [List.length_drop] at this
        have e : s.data.toList.length = s.size := by simp
        simp at this
        omega
      | cons c r =>
        have h2 : LAt s i (c :: r) [] := by unfold LAt at *; simpa using h
        rw [h2.head.2.2.1]
        exact hR c r rfl
    · rw [pk_end h1]; rfl
  | c :: L, i, R, hd, h, hR => by
    obtain ⟨h1, h2, h3, h4⟩ := h.head
    have hc := hd c (by simp)
    rw [overTo_go h1 (by rw [h3]; unfold digI; simp; omega), over_digs L (i + 1) R (fun x hx => hd x (by simp [hx])) h4 hR, List.length_cons]
    omega
theorem digs_val {s : ByteArray} : ∀ (L : List UInt8) (i : Nat) (R : List UInt8) (v : Int), LAt s i L R → digsTo s L.length i v = dval v L
  | [], i, R, v, _ => rfl
  | c :: L, i, R, v, h => by
    obtain ⟨h1, h2, h3, h4⟩ := h.head
    show digsTo s L.length (i + 1) (10 * v + (bt s i - 48)) = dval (10 * v + ((c.toNat : Int) - 48)) L
    rw [h2, digs_val L (i + 1) R _ h4]
theorem nat_read {s : ByteArray} {j x : Nat} {R : List UInt8} (h : LAt s j (dig x) R) (hR : NoDig R) : digI (pk s j) = true ∧ numEnd s j = j + (dig x).length ∧ numVal s j = x := by
  obtain ⟨h1, h2, c, r, h3, h4⟩ := dig_spec (x + 1) x (Nat.lt_succ_self _)
  have hh : LAt s j (c :: r) R := by rw [← h3]; exact h
  obtain ⟨g1, g2, g3, g4⟩ := hh.head
  have hc := h1 c (by rw [h3]; simp)
  have hdj : digI (pk s j) = true := by rw [g3]; unfold digI; simp; omega
  have he : numEnd s j = j + (dig x).length := by
    unfold numEnd
    by_cases h48 : pk s j = 48
    · rw [if_pos h48]
      have : x = 0 := by
        rcases Nat.eq_zero_or_pos x with h0 | h0
        · exact h0
        · have := h4 (by omega); rw [g3] at h48; omega
      subst this
      rw [dec_lt (by omega)]; rfl
    · rw [if_neg h48]
      exact over_digs _ _ _ h1 h hR
  refine ⟨hdj, he, ?_⟩
  unfold numVal
  rw [he, Nat.add_sub_cancel_left, digs_val _ _ _ _ h, h2]
theorem num_read {s : ByteArray} {i : Nat} {n : Int} {R : List UInt8} (h : LAt s i (figL n) R) (hR : NoDig R) (h1 : n ≤ 9007199254740991) (h2 : -9007199254740991 ≤ n) : numTo s i = .ok n (i + (figL n).length) ∧ (pk s i = 45 ∨ digI (pk s i) = true) := by
  unfold figL at *
  by_cases hn : n < 0
  · rw [if_pos hn] at h ⊢
    obtain ⟨g1, g2, g3, g4⟩ := h.head
    obtain ⟨k1, k2, k3⟩ := nat_read g4 hR
    have h45 : pk s i = 45 := g3
    refine ⟨?_, .inl h45⟩
    unfold numTo numAt
    rw [if_pos h45, if_neg (by rw [k1]; decide), k3, if_neg (by omega), if_pos rfl, k2, List.length_cons]
    congr 1
    · omega
    · omega
  · rw [if_neg hn] at h ⊢
    obtain ⟨k1, k2, k3⟩ := nat_read h hR
    have h45 : pk s i ≠ 45 := by intro e; rw [e] at k1; revert k1; decide
    refine ⟨?_, .inr k1⟩
    unfold numTo numAt
    rw [if_neg h45, if_neg (by rw [k1]; decide), k3, if_neg (by omega), k2]
    congr 1
    · show (if false = true then _ else _) = _
      rw [if_neg (by decide)]
      omega
theorem fig_head (n : Int) : ∃ c r, figL n = c :: r ∧ (c.toNat = 45 ∨ (48 ≤ c.toNat ∧ c.toNat ≤ 57)) := by
  unfold figL
  split
  · exact ⟨_, _, rfl, .inl rfl⟩
  · obtain ⟨h1, _, c, r, h3, _⟩ := dig_spec (n.natAbs + 1) n.natAbs (Nat.lt_succ_self _)
    exact ⟨c, r, h3, .inr (h1 c (by rw [h3]; simp))⟩
/-- A byte of a text, as it is told. -/
def hx (d : Nat) : UInt8 := if d < 10 then (48 + d).toUInt8 else (87 + d).toUInt8
def qb (c : UInt8) : List UInt8 :=
  if c.toNat = 34 ∨ c.toNat = 92 then [92, c]
  else if c.toNat = 8 then [92, 98] else if c.toNat = 9 then [92, 116] else if c.toNat = 10 then [92, 110] else if c.toNat = 12 then [92, 102] else if c.toNat = 13 then [92, 114]
  else if c.toNat < 32 then [92, 117, 48, 48, hx (c.toNat / 16), hx (c.toNat % 16)]
  else [c]
def quoB (l : List UInt8) : List UInt8 := l.flatMap qb
def quo (t : ByteArray) : List UInt8 := 34 :: (quoB t.data.toList ++ [34])
theorem hx_is : ∀ d : Nat, d < 16 → hexI ((hx d).toNat : Int) = d := by decide
theorem qb_high {c : UInt8} (h : 128 ≤ c.toNat) : qb c = [c] := by
  unfold qb
  rw [if_neg (by omega), if_neg (by omega), if_neg (by omega), if_neg (by omega), if_neg (by omega), if_neg (by omega), if_neg (by omega)]
theorem quoB_high : ∀ (l : List UInt8), (∀ c ∈ l, 128 ≤ c.toNat) → quoB l = l
  | [], _ => rfl
  | c :: r, h => by
    unfold quoB
    rw [List.flatMap_cons, qb_high (h c (by simp))]
    have := quoB_high r (fun x hx => h x (by simp [hx]))
    unfold quoB at this
    rw [this]; rfl
theorem enc_high {r : Int} (hs : Scal r) (h : 128 ≤ r) : ∀ c ∈ Lib.encodeRune r, 128 ≤ c.toNat := by
  unfold Scal at hs
  intro c hc
  unfold Lib.encodeRune at hc
  obtain ⟨x, hx, rfl⟩ := List.mem_map.1 hc
  have hb := Lib.encodeRuneZ_byte r x hx
  rw [u8n hb.1 hb.2]
  by_cases c2 : r ≤ 2047
  · rw [Lib.encodeRuneZ_two h c2] at hx
    simp at hx; omega
  · by_cases c3 : r ≤ 65535
    · rw [Lib.encodeRuneZ_three (by omega)] at hx
      simp at hx; omega
    · rw [Lib.encodeRuneZ_four (by omega) (by omega)] at hx
      simp at hx; omega
/-- One byte of a text is read back. -/
theorem low_read {s : ByteArray} {i n : Nat} {c : UInt8} {acc R : List UInt8} (hc : c.toNat < 128) (h : LAt s i (qb c) R) : textL s (n + 1) i acc = textL s n (i + (qb c).length) (acc ++ [c]) := by
  have he : ∀ x : Nat, x < 128 → Lib.encodeRune (x : Int) = [x.toUInt8] := fun x hx => by unfold Lib.encodeRune; rw [Lib.encodeRuneZ_one (by omega) (by omega)]; rfl
  have hcc : c.toNat.toUInt8 = c := by simp
  have esc : ∀ (e : UInt8) (x : Nat), x < 128 → escI (e.toNat : Int) = x → qb c = [92, e] → x = c.toNat → textL s (n + 1) i acc = textL s n (i + (qb c).length) (acc ++ [c]) := fun e x hx hex hq hxc => by
    rw [hq] at h
    obtain ⟨g1, g2, g3, g4⟩ := h.head
    obtain ⟨k1, k2, k3, _⟩ := g4.head
    have hch : charTo s (i + 1) = .ok (x : Int) (i + 1 + 1) := by unfold charTo; rw [k3, hex, if_pos (by omega)]
    have h92 : pk s i = 92 := g3
    conv => lhs; unfold textL
    rw [if_neg (by omega), if_neg (by omega), if_pos h92, hch, hq]
    show textL s n (i + 1 + 1) (acc ++ Lib.encodeRune (x : Int)) = _
    rw [he x hx, hxc, hcc]; rfl
  by_cases h1 : c.toNat = 34 ∨ c.toNat = 92
  · refine esc c c.toNat hc ?_ (by unfold qb; rw [if_pos h1]) rfl
    rcases h1 with h1 | h1 <;> rw [h1] <;> rfl
  · by_cases h2 : c.toNat = 8
    · exact esc 98 8 (by omega) (by decide) (by unfold qb; rw [if_neg h1, if_pos h2]) h2.symm
    · by_cases h3 : c.toNat = 9
      · exact esc 116 9 (by omega) (by decide) (by unfold qb; rw [if_neg h1, if_neg h2, if_pos h3]) h3.symm
      · by_cases h4 : c.toNat = 10
        · exact esc 110 10 (by omega) (by decide) (by unfold qb; rw [if_neg h1, if_neg h2, if_neg h3, if_pos h4]) h4.symm
        · by_cases h5 : c.toNat = 12
          · exact esc 102 12 (by omega) (by decide) (by unfold qb; rw [if_neg h1, if_neg h2, if_neg h3, if_neg h4, if_pos h5]) h5.symm
          · by_cases h6 : c.toNat = 13
            · exact esc 114 13 (by omega) (by decide) (by unfold qb; rw [if_neg h1, if_neg h2, if_neg h3, if_neg h4, if_neg h5, if_pos h6]) h6.symm
            · by_cases h7 : c.toNat < 32
              · have hq : qb c = [92, 117, 48, 48, hx (c.toNat / 16), hx (c.toNat % 16)] := by unfold qb; rw [if_neg h1, if_neg h2, if_neg h3, if_neg h4, if_neg h5, if_neg h6, if_pos h7]
                rw [hq] at h
                obtain ⟨_, _, p0, g0⟩ := h.head
                obtain ⟨_, _, p1, g1⟩ := g0.head
                obtain ⟨_, _, p2, g2⟩ := g1.head
                obtain ⟨_, _, p3, g3⟩ := g2.head
                obtain ⟨_, _, p4, g4⟩ := g3.head
                obtain ⟨_, _, p5, g5⟩ := g4.head
                have q2 : hexI (pk s (i + 1 + 1)) = 0 := by rw [p2]; decide
                have q3 : hexI (pk s (i + 1 + 1 + 1)) = 0 := by rw [p3]; decide
                have q4 : hexI (pk s (i + 1 + 1 + 1 + 1)) = (c.toNat / 16 : Nat) := by rw [p4]; exact hx_is _ (by omega)
                have q5 : hexI (pk s (i + 1 + 1 + 1 + 1 + 1)) = (c.toNat % 16 : Nat) := by rw [p5]; exact hx_is _ (by omega)
                have h92 : pk s i = 92 := p0
                have h117 : pk s (i + 1) = 117 := p1
                have hhex : hexTo s 4 (i + 1 + 1) 0 = .ok (c.toNat : Int) (i + 6) := by
                  unfold hexTo; rw [if_neg (by omega)]
                  unfold hexTo; rw [if_neg (by omega)]
                  unfold hexTo; rw [if_neg (by omega)]
                  unfold hexTo; rw [if_neg (by omega)]
                  unfold hexTo
                  rw [q2, q3, q4, q5]
                  congr 1
                  omega
                have hch : charTo s (i + 1) = .ok (c.toNat : Int) (i + 6) := by
                  unfold charTo
                  rw [h117, if_neg (by decide), if_neg (by decide), hhex]
                  show (if (c.toNat : Int) < 55296 ∨ _ then _ else _) = _
                  rw [if_pos (.inl (by omega))]
                conv => lhs; unfold textL
                rw [if_neg (by omega), if_neg (by omega), if_pos h92, hch, hq]
                show textL s n (i + 6) (acc ++ Lib.encodeRune (c.toNat : Int)) = _
                rw [he _ hc, hcc]; rfl
              · have hq : qb c = [c] := by unfold qb; rw [if_neg h1, if_neg h2, if_neg h3, if_neg h4, if_neg h5, if_neg h6, if_neg h7]
                rw [hq] at h
                obtain ⟨_, _, p0, _⟩ := h.head
                have hd : Utf8.decode s i = (c.toNat, 1) := by
                  rw [← Lib.decodeL_drop]
                  unfold LAt at h
                  rw [h]
                  exact Lib.decodeL_ascii c R hc
                conv => lhs; unfold textL
                rw [p0, if_neg (by omega), if_neg (by omega), if_neg (by omega), hd, if_neg (by dsimp only; omega), hq]
                show textL s n (i + 1) (acc ++ Lib.encodeRune (c.toNat : Int)) = _
                rw [he _ hc, hcc]; rfl
theorem high_read {s : ByteArray} {i n : Nat} {r : Int} {acc R : List UInt8} (hs : Scal r) (hr : 128 ≤ r) (h : LAt s i (Lib.encodeRune r) R) : textL s (n + 1) i acc = textL s n (i + (Lib.encodeRune r).length) (acc ++ Lib.encodeRune r) := by
  have hd : Utf8.decode s i = (r.toNat, (Lib.encodeRune r).length) := by
    rw [← Lib.decodeL_drop]
    unfold LAt at h
    rw [h]
    exact decodeL_enc hs R
  have hl2 : 2 ≤ (Lib.encodeRune r).length := by rw [lenE_is hs]; unfold lenE; repeat' split
                                                 all_goals omega
  have hhi := enc_high hs hr
  obtain ⟨c, t, hct⟩ : ∃ c t, Lib.encodeRune r = c :: t := by
    cases he : Lib.encodeRune r with
    | nil => exact absurd he (enc_ne r)
    | cons c t => exact ⟨c, t, rfl⟩
  have hc := hhi c (by rw [hct]; simp)
  have hh := h
  rw [hct] at hh
  obtain ⟨_, _, p0, _⟩ := hh.head
  conv => lhs; unfold textL
  rw [p0, if_neg (by omega), if_neg (by omega), if_neg (by omega), hd, if_neg (by dsimp only; omega)]
  show textL s n (i + (Lib.encodeRune r).length) (acc ++ Lib.encodeRune ((r.toNat : Nat) : Int)) = _
  rw [show ((r.toNat : Nat) : Int) = r by omega]
theorem quoB_app (a b : List UInt8) : quoB (a ++ b) = quoB a ++ quoB b := by unfold quoB; exact List.flatMap_append
theorem qb_pos (c : UInt8) : 1 ≤ (qb c).length := by unfold qb; repeat' split
                                                     all_goals simp
theorem body_read {s : ByteArray} {l : List UInt8} (hl : Runes l) : ∀ (n i : Nat) (acc R : List UInt8), LAt s i (quoB l ++ [34]) R → s.size < i + n → textL s n i acc = .ok ⟨(acc ++ l).toArray⟩ (i + (quoB l).length + 1) := by
  induction hl with
  | nil =>
    intro n i acc R h hn
    have h1 : LAt s i (34 :: []) R := h
    obtain ⟨g1, _, p0, _⟩ := h1.head
    obtain ⟨m, rfl⟩ : ∃ m, n = m + 1 := ⟨n - 1, by omega⟩
    have h34 : pk s i = 34 := p0
    unfold textL
    rw [if_neg (by omega), if_pos h34, List.append_nil]; rfl
  | @cons r t hr ht ih =>
    intro n i acc R h hn
    rw [quoB_app, List.append_assoc] at h
    have hsz := h.left
    by_cases hlow : r < 128
    · have hsc := hr
      unfold Scal at hsc
      obtain ⟨c, hc, hc2⟩ : ∃ c : UInt8, Lib.encodeRune r = [c] ∧ c.toNat < 128 := by
        refine ⟨r.toNat.toUInt8, ?_, ?_⟩
        · unfold Lib.encodeRune; rw [Lib.encodeRuneZ_one (by omega) (by omega)]; rfl
        · rw [u8n (by omega) (by omega)]; omega
      have hqc : quoB (Lib.encodeRune r) = qb c := by rw [hc]; unfold quoB; simp
      rw [hqc] at h
      obtain ⟨m, rfl⟩ : ∃ m, n = m + 1 := ⟨n - 1, by
        have : i < s.size := by
          have hp := qb_pos c
          cases hq : qb c with
          | nil => rw [hq] at hp; simp at hp
          | cons a b =>
            rw [hq] at h
            exact (LAt.head (L := b ++ (quoB t ++ [34])) h).1
        omega⟩
      rw [low_read hc2 h.left, ih m _ _ R h.right (by have := qb_pos c; omega), quoB_app, hqc, hc]
      rw [List.length_append, List.append_assoc]
      congr 1
      omega
    · have hqr : quoB (Lib.encodeRune r) = Lib.encodeRune r := quoB_high _ (enc_high hr (by omega))
      rw [hqr] at h
      have hp : 1 ≤ (Lib.encodeRune r).length := List.length_pos_iff.2 (enc_ne r)
      obtain ⟨m, rfl⟩ : ∃ m, n = m + 1 := ⟨n - 1, by
        have : i < s.size := by
          cases hq : Lib.encodeRune r with
          | nil => rw [hq] at hp; simp at hp
          | cons a b =>
            rw [hq] at h
            exact (LAt.head (L := b ++ (quoB t ++ [34])) h).1
        omega⟩
      rw [high_read hr (by omega) h.left, ih m _ _ R h.right (by omega), quoB_app, hqr]
      rw [List.length_append, List.append_assoc]
      congr 1
      omega
theorem text_read {s t : ByteArray} {i : Nat} {R : List UInt8} (h : LAt s i (quo t) R) (ht : badI t < 0) : textTo s i = .ok t (i + (quo t).length) ∧ pk s i = 34 := by
  unfold quo at h
  obtain ⟨g1, _, p0, g4⟩ := h.head
  have hr := valid_runes _ _ (Nat.le_refl _) ((badI_valid t).1 ht)
  refine ⟨?_, p0⟩
  unfold textTo
  rw [body_read hr (s.size + 1) (i + 1) [] R g4 (by omega)]
  unfold quo
  rw [List.length_cons, List.length_append, List.nil_append]
  congr 1
  show i + 1 + (quoB t.data.toList).length + 1 = i + ((quoB t.data.toList).length + 1 + 1)
  omega
end Go.Proofs.YtnjhmnolngdfaaaGreatDoor
