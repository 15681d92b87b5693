/- Layer 2: what stands behind a backslash. -/
import Derived.Test.YtnjhmnolngdfaaaGreatDoorQ04
import Derived.Test.YtnjhmnolngdfaaaGreatDoorQZip
set_option linter.unusedVariables false
set_option linter.unusedSimpArgs false
set_option maxHeartbeats 16000000
set_option maxRecDepth 100000
namespace Go.Proofs.YtnjhmnolngdfaaaGreatDoor
open Go.RowKit Go.PlainAid
def eix (c : Int) : Int := Lib.indexByte (⟨#[34, 92, 47, 98, 102, 110, 114, 116]⟩ : ByteArray).data.toList c.toNat.toUInt8
theorem qEP (c : Int) (w : World) : Calls Tryz.prog 54 #[.string ⟨#[34, 92, 47, 98, 102, 110, 114, 116]⟩, .int .u8 c] w fun e w' => e = .returned (.int .i64 (eix c)) ∧ w' = w := Tryz.strings_IndexByte _ _ _
def qKc : Array Value := #[.int .i32 34, .int .i32 92, .int .i32 47, .int .i32 8, .int .i32 12, .int .i32 10, .int .i32 13, .int .i32 9]
theorem qNV : ∀ n : Nat, n < 256 → (qEu (n : Int) < 0 ∧ eix (n : Int) < 0) ∨ (0 ≤ qEu (n : Int) ∧ 0 ≤ eix (n : Int) ∧ eix (n : Int) < 8 ∧ [34, 92, 47, 8, 12, 10, 13, 9][(eix (n : Int)).toNat]? = some (qEu (n : Int))) := by decide +kernel
theorem qNv {c : Int} (h0 : -1 ≤ c) (h1 : c ≤ 255) : (qEu c < 0 ∧ eix (max c 0) < 0) ∨ (0 ≤ qEu c ∧ ∃ n : Nat, eix (max c 0) = (n : Int) ∧ n < 8 ∧ qKc[n]? = some (.int .i32 (qEu c))) := by
  by_cases h : c = -1
  · subst h; exact .inl (by decide +kernel)
  · rw [show max c 0 = c by omega]; have := qNV c.toNat (by omega); rw [show ((c.toNat : Nat) : Int) = c by omega] at this; rcases this with h | ⟨h2, h3, h4, h5⟩
    · exact .inl h
    · refine .inr ⟨h2, (eix c).toNat, by omega, by omega, ?_⟩; have : qKc = (([34, 92, 47, 8, 12, 10, 13, 9] : List Int).map fun x => Value.int .i32 x).toArray := rfl; rw [this]; simp only [List.getElem?_toArray, List.getElem?_map, h5, Option.map_some]
theorem qMs : (Tryz.prog.info? 21).map (fun i => (i.zero, i.size)) = some (some (.int .i32 0), 1) := by kernel_rfl
theorem qLa : ∃ ie z, Tryz.prog.info? 21 = some ie ∧ ie.zero = some z ∧ ie.size = 1 ∧ z = .int .i32 0 := by
  have h := qMs
  cases hq : Tryz.prog.info? 21 with
  | none => rw [hq] at h; cases h
  | some ie =>
    rw [hq] at h; simp only [Option.map_some, Option.some.injEq, Prod.mk.injEq] at h; exact ⟨ie, _, rfl, h.1, h.2, rfl⟩
abbrev qQZ (x : Int) (e : Ending) (_ : World) : Prop := e = .returned (.int .i32 x)
theorem qMx {s : ByteArray} {i : Nat} (h : 0 ≤ qEu (pk s i)) : qA0 s i = .ok (qEu (pk s i)) (i + 1) := by unfold qA0; rw [if_pos h]
theorem qNb {s : ByteArray} {i : Nat} (h : qEu (pk s i) < 0) (h2 : pk s i ≠ 117) : qA0 s i = .bad 3 i := by unfold qA0; rw [if_neg (by omega), if_pos h2]
theorem qIJ {s : ByteArray} : ∀ (n i : Nat) (v x : Int) (k : Nat), qAv s n i v = .ok x k → k = i + n
  | 0, i, v, x, k, h => by unfold qAv at h; injection h with h1 h2; exact h2.symm
  | n + 1, i, v, x, k, h => by
    unfold qAv at h
    split at h
    · cases h
    · have := qIJ n (i + 1) _ x k h; omega
theorem qHk {s : ByteArray} {i : Nat} {c : Int} {p : Nat} (h : qEu (pk s i) < 0) (h2 : pk s i = 117) (h3 : qAv s 4 (i + 1) 0 = .bad c p) : qA0 s i = .bad c p := by unfold qA0; rw [if_neg (by omega), if_neg (by omega), h3]
theorem qJr {s : ByteArray} {i : Nat} {n : Int} {k : Nat} (h : qEu (pk s i) < 0) (h2 : pk s i = 117) (h3 : qAv s 4 (i + 1) 0 = .ok n k) (h4 : n < 55296 ∨ 57343 < n) : qA0 s i = .ok n k := by
  unfold qA0; rw [if_neg (by omega), if_neg (by omega), h3]; show (if n < 55296 ∨ 57343 < n then _ else _) = _; rw [if_pos h4]
theorem qFb {s : ByteArray} {i : Nat} {n : Int} {k : Nat} (h : qEu (pk s i) < 0) (h2 : pk s i = 117) (h3 : qAv s 4 (i + 1) 0 = .ok n k) (h4 : 55296 ≤ n) (h5 : n ≤ 57343) (h6 : ¬ (pk s k = 92 ∧ pk s (k + 1) = 117)) : qA0 s i = .bad 7 (i - 1) := by
  unfold qA0; rw [if_neg (by omega), if_neg (by omega), h3]; show (if n < 55296 ∨ 57343 < n then _ else if pk s k = 92 ∧ pk s (k + 1) = 117 then _ else _) = _; rw [if_neg (by omega), if_neg h6]
theorem qEj {s : ByteArray} {i : Nat} {n : Int} {k : Nat} (h : qEu (pk s i) < 0) (h2 : pk s i = 117) (h3 : qAv s 4 (i + 1) 0 = .ok n k) (h4 : 55296 ≤ n) (h5 : n ≤ 57343) {c : Int} {p : Nat} (h6 : qAv s 4 (k + 2) 0 = .bad c p) : qA0 s i = .bad 7 (i - 1) := by
  by_cases hh : pk s k = 92 ∧ pk s (k + 1) = 117
  · unfold qA0; rw [if_neg (by omega), if_neg (by omega), h3]; show (if n < 55296 ∨ 57343 < n then _ else if pk s k = 92 ∧ pk s (k + 1) = 117 then (match qAv s 4 (k + 2) 0 with | .bad _ _ => _ | .ok m k2 => _) else _) = _; rw [if_neg (by omega), if_pos hh, h6]
  · exact qFb h h2 h3 h4 h5 hh
theorem qIL {s : ByteArray} {i : Nat} {n : Int} {k : Nat} (h : qEu (pk s i) < 0) (h2 : pk s i = 117) (h3 : qAv s 4 (i + 1) 0 = .ok n k) (h4 : 55296 ≤ n) (h5 : n ≤ 57343) {m : Int} {k2 : Nat} (hh : pk s k = 92 ∧ pk s (k + 1) = 117) (h6 : qAv s 4 (k + 2) 0 = .ok m k2) :
    qA0 s i = if n ≤ 56319 ∧ 56320 ≤ m ∧ m ≤ 57343 then .ok (65536 + 1024 * (n - 55296) + (m - 56320)) k2 else .bad 7 (i - 1) := by
  unfold qA0; rw [if_neg (by omega), if_neg (by omega), h3]; show (if n < 55296 ∨ 57343 < n then _ else if pk s k = 92 ∧ pk s (k + 1) = 117 then (match qAv s 4 (k + 2) 0 with | .bad _ _ => _ | .ok m k2 => _) else _) = _; rw [if_neg (by omega), if_pos hh, h6]
theorem qFy {s : ByteArray} {i : Nat} {n : Int} {k : Nat} (h : qEu (pk s i) < 0) (h2 : pk s i = 117) (h3 : qAv s 4 (i + 1) 0 = .ok n k) (h4 : 55296 ≤ n) (h5 : n ≤ 57343) (hl : ¬ k + 6 ≤ s.size) : qA0 s i = .bad 7 (i - 1) := by
  cases h6 : qAv s 4 (k + 2) 0 with
  | bad c p => exact qEj h h2 h3 h4 h5 h6
  | ok m k2 =>
    exfalso
    have h7 := qIJ 4 (k + 2) 0 m k2 h6; have h8 := (qCc 4 (k + 2) 0 (by omega) m k2 h6).2; omega
theorem qGY {s : ByteArray} : ∀ (n i : Nat) (v x : Int) (k : Nat), qAv s n i v = .ok x k → 0 ≤ v → k = i + n ∧ 0 ≤ x ∧ x < (v + 1) * 16 ^ n
  | 0, i, v, x, k, h, h0 => by
    unfold qAv at h; injection h with h1 h2; subst h1 h2; exact ⟨rfl, h0, by omega⟩
  | n + 1, i, v, x, k, h, h0 => by
    unfold qAv at h
    split at h
    · cases h
    · rename_i hx
      have hl : qCZ (pk s i) ≤ 15 := by
          unfold qCZ qBa; split <;> rename_i q; · simp at q; omega
          · split <;> rename_i q2; · simp at q2; omega
            · split <;> rename_i q3; · simp at q3; omega
              · omega
      obtain ⟨h1, h2, h3⟩ := qGY n (i + 1) _ x k h (by omega); refine ⟨by omega, h2, ?_⟩; rw [Int.pow_succ]; have h4 : (16 * v + qCZ (pk s i) + 1) * 16 ^ n ≤ (16 * (v + 1)) * 16 ^ n := Int.mul_le_mul_of_nonneg_right (by omega) (Int.pow_nonneg (by omega)); (have h5 : (16 * (v + 1)) * (16 : Int) ^ n = (v + 1) * (16 ^ n * 16) := by rw [Int.mul_comm 16 (v + 1), Int.mul_assoc, Int.mul_comm (16 : Int) (16 ^ n)]); omega
theorem qOn {s : ByteArray} {a b j : Nat} (h : a + j < b) (hb : b ≤ s.size) : bt (s.extract a b) j = bt s (a + j) := by
  unfold bt; rw [dif_pos (by simp; omega), dif_pos (by omega)]; simp [ByteArray.getElem_extract]
theorem qNE {s : ByteArray} {k : Nat} (h : k + 6 ≤ s.size) : (s.extract k (k + 2)).toList = [s[k], s[k + 1]] := by
  rw [qBN]; apply List.ext_getElem
  · simp; omega
  · intro n h1 h2; simp at h2
    match n, h2 with
    | 0, _ => simp; rfl
    | 1, _ => simp; rfl
theorem qIf {s : ByteArray} {k : Nat} (h : k < s.size) (n : Nat) (hn : n < 256) : pk s k = (n : Int) ↔ s[k] = n.toUInt8 := by
  rw [qBh h]; unfold bt; rw [dif_pos h]; constructor
  · intro e; (have e2 : (s[k]).toNat = n := by exact_mod_cast e); rw [← e2]; simp
  · intro e; rw [e]; simp; omega
theorem qOt {s : ByteArray} {k : Nat} (h : k + 6 ≤ s.size) (hE : ((s.extract k (k + 2)).toList == [92, 117]) = false) : ¬ (pk s k = 92 ∧ pk s (k + 1) = 117) := by
  rintro ⟨h1, h2⟩; rw [qNE h] at hE; have e1 := (qIf (by omega) 92 (by omega)).1 h1; have e2 := (qIf (by omega) 117 (by omega)).1 h2; rw [e1, e2] at hE; exact absurd hE (by decide)
theorem qNZ {s : ByteArray} {k : Nat} (h : k + 6 ≤ s.size) (hE : ((s.extract k (k + 2)).toList == [92, 117]) = true) : pk s k = 92 ∧ pk s (k + 1) = 117 := by
  rw [qNE h] at hE; have e := eq_of_beq hE; injection e with e1 e2; injection e2 with e2 _; exact ⟨(qIf (by omega) 92 (by omega)).2 e1, (qIf (by omega) 117 (by omega)).2 e2⟩
theorem qHu {s : ByteArray} {k : Nat} (h : k + 6 ≤ s.size) : ∀ (n j : Nat) (v : Int), j + n ≤ 4 → qAv s n (k + 2 + j) v = (match qAv (s.extract (k + 2) (k + 6)) n j v with
    | .ok x q => .ok x (k + 2 + q)
    | .bad c q => .bad c (k + 2 + q))
  | 0, j, v, _ => rfl
  | n + 1, j, v, hj => by
    have hp : pk (s.extract (k + 2) (k + 6)) j = pk s (k + 2 + j) := by
      rw [qBh (by simp; omega), qBh (by omega), qOn (by omega) h]
    unfold qAv; rw [hp]
    split
    · rfl
    · exact qHu h n (j + 1) _ (by omega)
theorem qN7 {s : ByteArray} {k : Nat} (h : k + 6 ≤ s.size) {c : Int} {p : Nat} (hq : qAv (s.extract (k + 2) (k + 6)) 4 0 0 = .bad c p) : qAv s 4 (k + 2) 0 = .bad c (k + 2 + p) := by
  have := qHu h 4 0 0 (by omega); rw [hq] at this; exact this
theorem qOz {s : ByteArray} {k : Nat} (h : k + 6 ≤ s.size) {x : Int} {p : Nat} (hq : qAv (s.extract (k + 2) (k + 6)) 4 0 0 = .ok x p) : qAv s 4 (k + 2) 0 = .ok x (k + 2 + p) := by
  have := qHu h 4 0 0 (by omega); rw [hq] at this; exact this
theorem qI1 {w : World} {r : Nat} {s : ByteArray} {i : Nat} (h : Rd w r s i) (hG : Gl w r) (hi : i ≤ s.size) (h1 : 1 ≤ i) (hs : s.size ≤ 65536) :
    Calls Tryz.prog 82 #[At r] w (Got (qA0 s i) r s w qQZ) := by
  have HR := h; have HM := Mv.refl r w; have c0 := HR.c0; have c1 := HR.c1; have f1 := HR.f1; have p0 := qKR s i; have p1 := qLg s i; rcases qNv p0 p1 with ⟨hn, hx⟩ | ⟨hn, n, hx, hn8, hrow⟩
  · by_cases hu : pk s i = 117
    · have hi2 : i < s.size := qCn (by omega); have hxe : ¬ 0 ≤ eix (max 117 0) := by rw [hu] at hx; omega
      cases ho : qAv s 4 (i + 1) 0 with
      | bad c p =>
        have HK := Lib.hid (qHk hn hu ho); go_enter Tryz.func82, Tryz.ntmps82
        go_wp2_with (first
          | (go_at_call 55; (with_reducible refine (qCE HR).mono ?_); rintro e w1 ⟨rfl, m, rfl⟩; replace HR := HR.drewN m; replace HM := HM.trans (qAr r _ m); replace c0 := HR.c0; replace c1 := HR.c1; replace f1 := HR.f1)
          | (go_at_call 54; (with_reducible refine (qEP _ _).mono ?_); rintro e w2 ⟨rfl, rfl⟩)
          | (go_at_call 99; have HQ := HR.set (x := (i : Int) + 1) (k := i + 1) (by omega); (with_reducible refine (qGU HQ.1 (by omega) hs).mono ?_); rw [ho]; rintro e w4 ⟨hm, ⟨g, rfl, hg⟩⟩; replace HM := (HM.trans HQ.2).trans hm))
        exact ⟨rfl, Got.bad HK.out HM ⟨g, rfl, hg⟩⟩
      | ok n k =>
        obtain ⟨hk4, hn0, hn1⟩ := qGY 4 (i + 1) 0 n k ho (by omega); have hkk := (qCc 4 (i + 1) 0 (by omega) n k ho).2; (have hk1 : 1 ≤ k := by omega); have HK4 := Lib.hid hk4; clear hk4; have hn2 : n < 65536 := by simpa using hn1
        by_cases hsur : n < 55296 ∨ 57343 < n
        · have HK := Lib.hid (qJr hn hu ho hsur); rcases hsur with q | q
          · go_enter Tryz.func82, Tryz.ntmps82
            go_wp2_with (first
              | (go_at_call 55; (with_reducible refine (qCE HR).mono ?_); rintro e w1 ⟨rfl, m, rfl⟩; replace HR := HR.drewN m; replace HM := HM.trans (qAr r _ m); replace c0 := HR.c0; replace c1 := HR.c1; replace f1 := HR.f1)
              | (go_at_call 54; (with_reducible refine (qEP _ _).mono ?_); rintro e w2 ⟨rfl, rfl⟩)
              | (go_at_call 99; have HQ := HR.set (x := (i : Int) + 1) (k := i + 1) (by omega); (with_reducible refine (qGU HQ.1 (by omega) hs).mono ?_); rw [ho]; rintro e w4 ⟨hm, rfl, hr4⟩; replace HM := (HM.trans HQ.2).trans hm; replace HR := hr4; clear hr4; replace c0 := HR.c0; replace c1 := HR.c1; replace f1 := HR.f1))
            refine bodyPost_ret (results_tmp rfl _ _ _) rfl ?_; exact Got.ok HK.out HM rfl HR
          · (have q0 : ¬ n < 55296 := by omega); go_enter Tryz.func82, Tryz.ntmps82
            go_wp2_with (first
              | (go_at_call 55; (with_reducible refine (qCE HR).mono ?_); rintro e w1 ⟨rfl, m, rfl⟩; replace HR := HR.drewN m; replace HM := HM.trans (qAr r _ m); replace c0 := HR.c0; replace c1 := HR.c1; replace f1 := HR.f1)
              | (go_at_call 54; (with_reducible refine (qEP _ _).mono ?_); rintro e w2 ⟨rfl, rfl⟩)
              | (go_at_call 99; have HQ := HR.set (x := (i : Int) + 1) (k := i + 1) (by omega); (with_reducible refine (qGU HQ.1 (by omega) hs).mono ?_); rw [ho]; rintro e w4 ⟨hm, rfl, hr4⟩; replace HM := (HM.trans HQ.2).trans hm; replace HR := hr4; clear hr4; replace c0 := HR.c0; replace c1 := HR.c1; replace f1 := HR.f1))
            refine bodyPost_ret (results_tmp rfl _ _ _) rfl ?_; exact Got.ok HK.out HM rfl HR
        · (have q0 : ¬ n < 55296 := fun h => hsur (.inl h)); (have q1 : ¬ 57343 < n := fun h => hsur (.inr h)); clear hsur; go_enter Tryz.func82, Tryz.ntmps82
          go_wp2_with (first
            | (go_at_call 55; (with_reducible refine (qCE HR).mono ?_); rintro e w1 ⟨rfl, m, rfl⟩; replace HR := HR.drewN m; replace HM := HM.trans (qAr r _ m); replace c0 := HR.c0; replace c1 := HR.c1; replace f1 := HR.f1)
            | (go_at_call 54; (with_reducible refine (qEP _ _).mono ?_); rintro e w2 ⟨rfl, rfl⟩)
            | (go_at_call 99; have HQ := HR.set (x := (i : Int) + 1) (k := i + 1) (by omega); (with_reducible refine (qGU HQ.1 (by omega) hs).mono ?_); rw [ho]; rintro e w4 ⟨hm, rfl, hr4⟩; replace HM := (HM.trans HQ.2).trans hm; replace HR := hr4; clear hr4; replace c0 := HR.c0; replace c1 := HR.c1; replace f1 := HR.f1))
          (have hfp : (i : Int) - 1 = ((i - 1 : Nat) : Int) := by omega); have hcat := get_bt s
          by_cases hlen : k + 6 ≤ s.size
          · (have hl1 : (k : Int) + 6 ≤ (s.size : Int) := by omega); have hl2 : decide ((k : Int) + 6 ≤ (s.size : Int)) = true := decide_eq_true hl1; (have hl3 : (k : Int) ≤ (k : Int) + 2 := by omega); (have hl4 : (k : Int) + 2 ≤ (s.size : Int) := by omega); (have hl5 : ¬ (k : Int) < 0 := by omega); cases hE : ((s.extract k (k + 2)).toList == [92, 117])
            · have HK := Lib.hid (qFb hn hu ho (by omega) (by omega) (qOt hlen hE))
              go_quiet (fail)
              go_wp2_with (go_at_call 39; (try rw [hfp]); (with_reducible refine (qAz _ _ _ _).mono ?_); rintro e w5 ⟨⟨g, rfl, hg⟩, hb⟩)
              exact ⟨rfl, Got.bad HK.out ((HM.trans (qAr r _ _)).trans (Mv.of hb)) ⟨g, rfl, hg⟩⟩
            · have hyes := qNZ hlen hE; have hlo : (k : Int) + 2 ≤ (k : Int) + 6 := by omega
              cases hq : qAv (s.extract (k + 2) (k + 6)) 4 0 0 with
              | bad c p =>
                have HK := Lib.hid (qEj hn hu ho (by omega) (by omega) (qN7 hlen hq))
                go_quiet (fail)
                go_wp2; (have hw2 : IntKind.i64.wrap ((k : Int) + 2) = (k : Int) + 2 := by rw [IntKind.wrap_i64]; omega); (have hw6 : IntKind.i64.wrap ((k : Int) + 6) = (k : Int) + 6 := by rw [IntKind.wrap_i64]; omega); (have hA : 0 ≤ (k : Int) + 6 ∧ (k : Int) + 6 ≤ (s.size : Int) := by omega); (have hB : 0 ≤ (k : Int) + 2 ∧ (k : Int) + 2 ≤ (k : Int) + 6 := by omega); (have ht2 : ((k : Int) + 2).toNat = k + 2 := by omega); (have ht6 : ((k : Int) + 6).toNat = k + 6 := by omega); generalize hw7 : World.drewN _ nq = w7; have hb7 := qDE hw7; replace HR := HR.below hb7; replace HM := HM.trans (Mv.of hb7); replace c0 := HR.c0; replace c1 := HR.c1; have HG4 := hG.mv HM; clear hw7 hb7; refine qAc (by kernel_rfl) (fun w8 hHeld => ?_); refine TKC 0 89 rfl ?_; (try simp only [Act.put, zA, zB, zC]); refine TKC 1 90 rfl ?_; (try simp only [Act.put, zA, zB, zC]); refine TKC 2 91 rfl ?_; (try simp only [Act.put, zA, zB, zC]); refine TKB 3 92 ?_ rfl ?_ ?_; rotate_left
                · (intro w hSw; (try dsimp only at hSw); have := qAB hSw c0; go_simp; try with_reducible rfl)
                (try simp only [Act.put, zA, zB, zC]); refine TKC 4 93 rfl ?_; (try simp only [Act.put, zA, zB, zC]); refine TKC 5 94 rfl ?_; (try simp only [Act.put, zA, zB, zC]); refine TKC 6 95 rfl ?_; (try simp only [Act.put, zA, zB, zC]); refine TKB 7 96 ?_ rfl ?_ ?_; rotate_left
                · (intro w hSw; (try dsimp only at hSw); have := qAB hSw c1; go_simp; try with_reducible rfl)
                (try simp only [Act.put, zA, zB, zC]); refine TKB 8 97 (.int .i64 ((k : Int) + 2)) rfl ?_ ?_
                · (intro w hSw; (try dsimp only at hSw); go_simp; try simp only [hw2])
                (try simp only [Act.put, zA, zB, zC]); refine TKC 9 98 rfl ?_; (try simp only [Act.put, zA, zB, zC]); refine TKC 10 99 rfl ?_; (try simp only [Act.put, zA, zB, zC]); refine TKC 11 100 rfl ?_; (try simp only [Act.put, zA, zB, zC]); refine TKB 12 101 ?_ rfl ?_ ?_; rotate_left
                · (intro w hSw; (try dsimp only at hSw); have := qAB hSw c1; go_simp; try with_reducible rfl)
                (try simp only [Act.put, zA, zB, zC]); refine TKB 13 102 (.int .i64 ((k : Int) + 6)) rfl ?_ ?_
                · (intro w hSw; (try dsimp only at hSw); go_simp; try simp only [hw6])
                (try simp only [Act.put, zA, zB, zC]); refine TKB 14 103 (.string (s.extract (k + 2) (k + 6))) rfl ?_ ?_
                · (intro w hSw; (try dsimp only at hSw); go_simp; try simp only [if_pos hA, if_pos hB, ht2, ht6])
                (try simp only [Act.put, zA, zB, zC]); have HS8 := (HG4.below hHeld).syn; refine wpAnyH_ready (rs := [15]) (by kernel_rfl) (by simp) ?_; refine AllReadyH.cons (o := ⟨some 104, _, _, _, _, _⟩) rfl (fun K hK => ?_) AllReadyH.nil; go_simp
                (go_at_call 100; (with_reducible refine (qKM _ (by simp; omega) HS8).mono ?_); rw [hq]; rintro e w9 ⟨hb3, tt, pp, rfl⟩)
                refine hK.out _ _ (zT hHeld hb3) (fun hHeld2 => ?_); clear hK K hHeld hb3; have hHeld := hHeld2; clear hHeld2; (try simp only [Act.put, zA, zB, zC]); refine TKC 16 88 rfl ?_; (try simp only [Act.put, zA, zB, zC]); refine TKC 17 105 rfl ?_; (try simp only [Act.put, zA, zB, zC]); refine TKC 18 106 rfl ?_; (try simp only [Act.put, zA, zB, zC]); refine TKC 19 7 rfl ?_; (try simp only [Act.put, zA, zB, zC]); refine TKC 20 8 rfl ?_; (try simp only [Act.put, zA, zB, zC]); refine wpAnyH_done (by kernel_rfl) ?_ _; have hb8 := hHeld; clear hHeld HS8; replace HR := HR.below hb8; replace HM := HM.trans (Mv.of hb8); replace c0 := HR.c0; replace c1 := HR.c1; have f1 := HR.f1; clear hb8
                go_wp2_with (go_at_call 39; (try rw [hfp]); (with_reducible refine (qAz _ _ _ _).mono ?_); rintro e w5 ⟨⟨g, rfl, hg⟩, hb⟩)
                exact ⟨rfl, Got.bad HK.out (HM.trans (Mv.of hb)) ⟨g, rfl, hg⟩⟩
              | ok m2 k2 =>
                have hsq := qOz hlen hq; have hch := qIL hn hu ho (by omega) (by omega) hyes hsq; obtain ⟨_, hm0, hm1⟩ := qGY 4 0 0 m2 k2 hq (by omega); (have hm2 : m2 < 65536 := by simpa using hm1); have hk6 := qIJ 4 (k + 2) 0 m2 _ hsq; have HSQ := Lib.hid hsq; have HK6 := Lib.hid hk6; have HCH := Lib.hid hch; clear hm1 hsq hk6 hch
                go_quiet (fail)
                go_wp2; (have hw2 : IntKind.i64.wrap ((k : Int) + 2) = (k : Int) + 2 := by rw [IntKind.wrap_i64]; omega); (have hw6 : IntKind.i64.wrap ((k : Int) + 6) = (k : Int) + 6 := by rw [IntKind.wrap_i64]; omega); (have hA : 0 ≤ (k : Int) + 6 ∧ (k : Int) + 6 ≤ (s.size : Int) := by omega); (have hB : 0 ≤ (k : Int) + 2 ∧ (k : Int) + 2 ≤ (k : Int) + 6 := by omega); (have ht2 : ((k : Int) + 2).toNat = k + 2 := by omega); (have ht6 : ((k : Int) + 6).toNat = k + 6 := by omega); generalize hw7 : World.drewN _ nq = w7; have hb7 := qDE hw7; replace HR := HR.below hb7; replace HM := HM.trans (Mv.of hb7); replace c0 := HR.c0; replace c1 := HR.c1; have HG4 := hG.mv HM; clear hw7 hb7; refine qAc (by kernel_rfl) (fun w8 hHeld => ?_); refine TKC 0 89 rfl ?_; (try simp only [Act.put, zA, zB, zC]); refine TKC 1 90 rfl ?_; (try simp only [Act.put, zA, zB, zC]); refine TKC 2 91 rfl ?_; (try simp only [Act.put, zA, zB, zC]); refine TKB 3 92 ?_ rfl ?_ ?_; rotate_left
                · (intro w hSw; (try dsimp only at hSw); have := qAB hSw c0; go_simp; try with_reducible rfl)
                (try simp only [Act.put, zA, zB, zC]); refine TKC 4 93 rfl ?_; (try simp only [Act.put, zA, zB, zC]); refine TKC 5 94 rfl ?_; (try simp only [Act.put, zA, zB, zC]); refine TKC 6 95 rfl ?_; (try simp only [Act.put, zA, zB, zC]); refine TKB 7 96 ?_ rfl ?_ ?_; rotate_left
                · (intro w hSw; (try dsimp only at hSw); have := qAB hSw c1; go_simp; try with_reducible rfl)
                (try simp only [Act.put, zA, zB, zC]); refine TKB 8 97 (.int .i64 ((k : Int) + 2)) rfl ?_ ?_
                · (intro w hSw; (try dsimp only at hSw); go_simp; try simp only [hw2])
                (try simp only [Act.put, zA, zB, zC]); refine TKC 9 98 rfl ?_; (try simp only [Act.put, zA, zB, zC]); refine TKC 10 99 rfl ?_; (try simp only [Act.put, zA, zB, zC]); refine TKC 11 100 rfl ?_; (try simp only [Act.put, zA, zB, zC]); refine TKB 12 101 ?_ rfl ?_ ?_; rotate_left
                · (intro w hSw; (try dsimp only at hSw); have := qAB hSw c1; go_simp; try with_reducible rfl)
                (try simp only [Act.put, zA, zB, zC]); refine TKB 13 102 (.int .i64 ((k : Int) + 6)) rfl ?_ ?_
                · (intro w hSw; (try dsimp only at hSw); go_simp; try simp only [hw6])
                (try simp only [Act.put, zA, zB, zC]); refine TKB 14 103 (.string (s.extract (k + 2) (k + 6))) rfl ?_ ?_
                · (intro w hSw; (try dsimp only at hSw); go_simp; try simp only [if_pos hA, if_pos hB, ht2, ht6])
                (try simp only [Act.put, zA, zB, zC]); have HS8 := (HG4.below hHeld).syn; refine wpAnyH_ready (rs := [15]) (by kernel_rfl) (by simp) ?_; refine AllReadyH.cons (o := ⟨some 104, _, _, _, _, _⟩) rfl (fun K hK => ?_) AllReadyH.nil; go_simp
                (go_at_call 100; (with_reducible refine (qKM _ (by simp; omega) HS8).mono ?_); rw [hq]; rintro e w9 ⟨hb3, rfl⟩)
                refine hK.out _ _ (zT hHeld hb3) (fun hHeld2 => ?_); clear hK K hHeld hb3; have hHeld := hHeld2; clear hHeld2; (try simp only [Act.put, zA, zB, zC]); refine TKC 16 88 rfl ?_; (try simp only [Act.put, zA, zB, zC]); refine TKC 17 105 rfl ?_; (try simp only [Act.put, zA, zB, zC]); refine TKC 18 106 rfl ?_; (try simp only [Act.put, zA, zB, zC]); refine TKC 19 7 rfl ?_; (try simp only [Act.put, zA, zB, zC]); refine TKC 20 8 rfl ?_; (try simp only [Act.put, zA, zB, zC]); refine wpAnyH_done (by kernel_rfl) ?_ _; have hb8 := hHeld; clear hHeld HS8; replace HR := HR.below hb8; replace HM := HM.trans (Mv.of hb8); replace c0 := HR.c0; replace c1 := HR.c1; have f1 := HR.f1; clear hb8; have hwm : IntKind.i64.wrap m2 = m2 := by rw [IntKind.wrap_i64]; omega
                by_cases hp : n ≤ 56319 ∧ 56320 ≤ m2 ∧ m2 ≤ 57343
                · have HK := Lib.hid (HCH.out.trans (if_pos hp)); have hp1 := hp.1; have hp2 := hp.2.1; have hp3 := hp.2.2; clear hp
                  go_wp2_with (go_at_call 101; (with_reducible refine (qOR q0 hp1 hp2 hp3 _).mono ?_); rintro e w9 ⟨rfl, rfl⟩)
                  have HQ2 := HR.set (x := (k : Int) + 6) (k := k + 2 + k2) (by have := HK6.out; omega); refine bodyPost_ret (results_tmp rfl _ _ _) rfl ?_; exact Got.ok HK.out (HM.trans HQ2.2) rfl HQ2.1
                · have HK := Lib.hid (HCH.out.trans (if_neg hp)); (have hp4 : ¬ (55296 ≤ n ∧ n ≤ 56319 ∧ 56320 ≤ m2 ∧ m2 ≤ 57343) := fun h => hp ⟨h.2.1, h.2.2⟩); have HP := Lib.hid hp4; clear hp hp4
                  go_wp2_with (first
                    | (go_at_call 101; (with_reducible refine (qMo (by omega) hn2 hm0 hm2 HP.out _).mono ?_); rintro e w9 ⟨rfl, rfl⟩)
                    | (go_at_call 39; (try rw [hfp]); (with_reducible refine (qAz _ _ _ _).mono ?_); rintro e w5 ⟨⟨g, rfl, hg⟩, hb⟩))
                  exact ⟨rfl, Got.bad HK.out (HM.trans (Mv.of hb)) ⟨g, rfl, hg⟩⟩
          · have HK := Lib.hid (qFy hn hu ho (by omega) (by omega) hlen); (have hl1 : ¬ (k : Int) + 6 ≤ (s.size : Int) := by omega); have hl2 : decide ((k : Int) + 6 ≤ (s.size : Int)) = false := decide_eq_false hl1
            go_quiet (fail)
            go_wp2_with (go_at_call 39; (try rw [hfp]); (with_reducible refine (qAz _ _ _ _).mono ?_); rintro e w5 ⟨⟨g, rfl, hg⟩, hb⟩)
            exact ⟨rfl, Got.bad HK.out ((HM.trans (qAr r _ _)).trans (Mv.of hb)) ⟨g, rfl, hg⟩⟩
    · have HK := Lib.hid (qNb hn hu); go_enter Tryz.func82, Tryz.ntmps82
      go_wp2_with (first
        | (go_at_call 55; (with_reducible refine (qCE HR).mono ?_); rintro e w1 ⟨rfl, m, rfl⟩; replace HR := HR.drewN m; replace HM := HM.trans (qAr r _ m); replace c0 := HR.c0; replace c1 := HR.c1; replace f1 := HR.f1)
        | (go_at_call 54; (with_reducible refine (qEP _ _).mono ?_); rintro e w2 ⟨rfl, rfl⟩)
        | (go_at_call 39; (with_reducible refine (qAz _ _ _ _).mono ?_); rintro e w3 ⟨⟨g, rfl, hg⟩, hb⟩))
      exact ⟨rfl, Got.bad HK.out (HM.trans (Mv.of hb)) ⟨g, rfl, hg⟩⟩
  · have hk := qMx hn
    have hi2 : i < s.size := qCn (by
      rcases Int.lt_or_le (pk s i) 0 with h1 | h1
      · exfalso
        rw [show pk s i = -1 by omega] at hn; exact absurd hn (by decide)
      · exact h1)
    have HK := Lib.hid hk; have HRW := Lib.hid hrow; obtain ⟨ie, z, hie1, hie2, hie3, hz⟩ := qLa; subst hz; (have hx0 : ¬ (n : Int) < 0 := by omega); (have hx8 : (n : Int) < 8 := by omega); clear hk hrow hn; go_enter Tryz.func82, Tryz.ntmps82
    go_wp2_with (first
      | (go_at_call 55; (with_reducible refine (qCE HR).mono ?_); rintro e w1 ⟨rfl, m, rfl⟩; replace HR := HR.drewN m; replace HM := HM.trans (qAr r _ m); replace c0 := HR.c0; replace c1 := HR.c1; replace f1 := HR.f1)
      | (go_at_call 54; (with_reducible refine (qEP _ _).mono ?_); rintro e w2 ⟨rfl, rfl⟩)
      | ((with_reducible refine qAm ?_); refine qAU 8 [(0, .int .i32 34), (1, .int .i32 92), (2, .int .i32 47), (3, .int .i32 8), (4, .int .i32 12), (5, .int .i32 10), (6, .int .i32 13), (7, .int .i32 9)] qKc ie _ (by rw [hie3]; kernel_rfl) rfl 130 21 _ rfl rfl rfl hie1 hie2 (by rw [hie3]; decide) (by rw [hie3]; decide) ?_; intro w4 hw; have hb := qAD hw; have BN := (qAC hw).1; have cN : w4.cell? ⟨w.heap.size, n, none⟩ = some (.int .i32 (qEu (pk s i))) := (by have := (BN.cell n).trans HRW.out; simpa using this); have HQ := HR.set (x := (i : Int) + 1) (k := i + 1) (by omega); have HR2 := HQ.1.below hb; have HM2 := (HM.trans HQ.2).trans (Mv.of hb); clear hw))
    refine bodyPost_ret (results_tmp rfl _ _ _) rfl ?_; exact Got.ok HK.out HM2 rfl HR2
end Go.Proofs.YtnjhmnolngdfaaaGreatDoor
