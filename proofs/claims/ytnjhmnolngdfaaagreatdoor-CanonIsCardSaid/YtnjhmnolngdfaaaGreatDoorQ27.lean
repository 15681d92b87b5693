/- Layer 2, the document's reader (coveyref02): object. -/
import Derived.Test.YtnjhmnolngdfaaaGreatDoorQ26
set_option linter.unusedVariables false
set_option linter.unusedSimpArgs false
set_option maxHeartbeats 16000000
set_option maxRecDepth 100000
namespace Go.Proofs.YtnjhmnolngdfaaaGreatDoor
open Go.RowKit Go.PlainAid
theorem qDy {s : ByteArray} : ∀ (n i : Nat) (acc : List UInt8) (t : ByteArray) (k : Nat), acc.length ≤ 4 * i → s.size < i + n → qBM s n i acc = .ok t k → t.size ≤ 4 * s.size
 | 0, i, acc, t, k, ha, hn, h => by unfold qBM at h; cases h
 | n + 1, i, acc, t, k, ha, hn, h => by
  unfold qBM at h
  split at h
  ·cases h
  ·rename_i h1; have hi : i < s.size := qHf (by omega)
   split at h
   ·injection h with h2 h3; subst h2; show acc.toArray.size ≤ _; simp; omega
   ·split at h
    ·split at h
     ·cases h
     ·rename_i x q hq; have hg := qCT x q hq; have hl := Lib.runeCells_le x; rw [Lib.runeCells_length] at hl; exact qDy n q _ t k (by simp; omega) (by omega) h
    ·split at h
     ·cases h
     ·have hd := qB8 s i hi; have hl := Lib.runeCells_le ((Utf8.decode s i).1 : Int); rw [Lib.runeCells_length] at hl; exact qDy n _ _ t k (by simp; omega) (by omega) h
theorem qEO {s : ByteArray} {i : Nat} {t : ByteArray} {k : Nat} (h : qBK s i = .ok t k) (hi : i < s.size) : t.size ≤ 4 * s.size := qDy _ _ [] t k (by simp) (by omega) h
theorem qBr {w : World} {r : Nat} {s : ByteArray} {i : Nat} (h : RR w r s i 0 0) (hi : i ≤ s.size) (hs : s.size ≤ 65536) :
    Calls Tryz.prog 74 #[At r, .string ⟨#[58]⟩] w (qBL (qBF s ⟨#[58]⟩ 1 i) r s w qJ0 Nix) := qEF ⟨#[58]⟩ h hi hs (by decide)
def RoV (w : World) (x : List ByteArray × List JT) (e : Ending) (w' : World) : Prop := ∃ A c L, e = .returned (.slice A L.length c) ∧ qAi w' (qDD A c L) ∧ (L.map (·.1), L.map fun p => er p.2) = x ∧ Off (fun q => q < w.heap.size) (qDD A c L)
theorem RoV.nil {w w' : World} : RoV w ([], []) (.returned (.slice none 0 0)) w' := ⟨none, 0, [], rfl, by
  unfold qDD qAi; refine ⟨⟨mi5, mi0, mze, rfl, rfl, rfl, by decide, by decide, ?_⟩, ?_, ?_⟩
  · unfold qBA; exact True.intro
  · unfold qBf; exact True.intro
  · unfold qBf; exact True.intro, rfl, by
  unfold qDD Off qCd
  exact ⟨fun h => absurd rfl h, fun h => absurd rfl h, True.intro, by unfold qCd; exact True.intro⟩⟩
theorem RoV.of {r : Nat} {s : ByteArray} {E : TypeId} {k : Nat} {v : Value} {L : List (ByteArray × JV)} {w0 w : World} (h : RK r s w0.heap.size E 7 k v L.length (qCB L) (L.map (·.2)) w) (hn : ∀ p ∈ L, p.1.size ≤ qAy) (hb : L.length * 96 ≤ qAy) : RoV w0 (L.map (·.1), L.map fun p => er p.2) (.returned v) w := by
  (have hels : ∀ p ∈ L, qAi w p.2 ∧ Off (fun q => q < w0.heap.size ∨ v.ownBlock = some q) p.2 := fun p hp => h.els p.2 (List.mem_map_of_mem hp)); obtain ⟨A, c, rfl, hj⟩ := qGu h.own rfl (fun p hp => ⟨hn p hp, (hels p hp).1⟩) hb; refine ⟨A, c, L, rfl, hj, rfl, ?_⟩; unfold qDD Off; refine ⟨fun h => absurd rfl h, fun _ a e hlt => ?_, by unfold qCd; exact True.intro, qCi fun x hx => ?_⟩
  · have := qFI h.own a e; have hlt2 : a.block < w0.heap.size := hlt; omega
  · obtain ⟨p, hp, rfl⟩ := List.mem_map.1 hx; exact Off.mono (fun q e => Or.inl e) (hels p hp).2
theorem qDd {r : Nat} {s : ByteArray} {base : Nat} {E : TypeId} {k : Nat} {v : Value} {L : List (ByteArray × JV)} {nm : ByteArray} {j : JV} {w : World} (h : RK r s base E 7 k v (L.length + 1) (qCB L ++ (qBB (nm, j)).toList) (L.map (·.2) ++ [j]) w) : RK r s base E 7 k v (L ++ [(nm, j)]).length (qCB (L ++ [(nm, j)])) ((L ++ [(nm, j)]).map (·.2)) w := by
  rw [List.length_append, qE4, qEt, List.map_append]; exact h
theorem qIj {w : World} {base : Nat} {E : TypeId} {v : Value} {L : List (ByteArray × JV)} {n : Nat} (h : w.ownsRow base E 7 v n (qCB L)) {q : Nat} {p : ByteArray × JV} (hq : L[q]? = some p) (hn : n = L.length) : ∃ g cap, v = .slice (some ⟨g, 0, none⟩) L.length cap ∧ w.cell? ⟨g, q * 7, none⟩ = some (.string p.1) := by
  subst hn; have hl := (List.getElem?_eq_some_iff.1 hq).1; rcases h.2 with ⟨rfl, h0⟩ | ⟨g, cap, cur, rfl, hb, hg, h1, h2, h3, htake⟩
  · omega
  · refine ⟨g, cap, rfl, ?_⟩; have e1 := qEJ hq 0 (.string p.1) rfl; have hI : qAW w g E cur := hg; rw [← htake, List.getElem?_take] at e1; rw [hI.cell]
    split at e1
    · simpa using e1
    · cases e1
theorem qKu {w : World} {base : Nat} {E : TypeId} {size : Nat} {v : Value} {n : Nat} {xs : List Value} (h : w.ownsRow base E size v n xs) : ∃ A c, v = .slice A n c := by
  rcases h.2 with ⟨rfl, rfl⟩ | ⟨g, cap, cur, rfl, _⟩
  · exact ⟨_, _, rfl⟩
  · exact ⟨_, _, rfl⟩
theorem qG8 {L : List (ByteArray × JV)} {nm : ByteArray} {q : Nat} {p : ByteArray × JV} (hq : L[q]? = some p) : qCP ((L.take (q + 1)).map (·.1)) nm = (qCP ((L.take q).map (·.1)) nm || (p.1.toList == nm.toList)) := by
  obtain ⟨hl, e⟩ := List.getElem?_eq_some_iff.1 hq; rw [List.take_succ_eq_append_getElem hl, e, List.map_append]; unfold qCP; simp
theorem qLR {L : List (ByteArray × JV)} {nm : ByteArray} {q : Nat} {p : ByteArray × JV} (hq : L[q]? = some p) (h : (p.1.toList == nm.toList) = true) : qCP (L.map (·.1)) nm = true := by
  unfold qCP; rw [List.any_eq_true]; exact ⟨p.1, List.mem_map_of_mem (List.mem_of_getElem? hq), h⟩
section
variable {s : ByteArray} {f : Nat → Out JT} {k k1 k2 : Nat} {x : List ByteArray × List JT} {nm : ByteArray}
theorem qMN (h : pk s k ≠ 34) : qAg s f k x = .bad 3 k := by unfold qAg; rw [if_neg h]
theorem qKC {c : Int} {p : Nat} (h : pk s k = 34) (ht : qBK s k = .bad c p) : qAg s f k x = .bad c p := by unfold qAg; rw [if_pos h, ht]
theorem qJD (h : pk s k = 34) (ht : qBK s k = .ok nm k1) (h2 : qCP x.1 nm = true) : qAg s f k x = .bad 6 k := by
  unfold qAg; rw [if_pos h, ht]; show (if qCP x.1 nm = true then _ else _) = _; rw [if_pos h2]
theorem qJV {c : Int} {p : Nat} (h : pk s k = 34) (ht : qBK s k = .ok nm k1) (h2 : qCP x.1 nm = false) (hw : qBF s ⟨#[58]⟩ 1 (qAd s k1) = .bad c p) : qAg s f k x = .bad c p := by
  unfold qAg; rw [if_pos h, ht]; show (if qCP x.1 nm = true then _ else _) = _; rw [if_neg (by rw [h2]; decide), hw]
theorem qNK (h : pk s k = 34) (ht : qBK s k = .ok nm k1) (h2 : qCP x.1 nm = false) (hw : qBF s ⟨#[58]⟩ 1 (qAd s k1) = .ok () k2) : qAg s f k x = (f (qAd s k2)).map fun t => (x.1 ++ [nm], x.2 ++ [t]) := by
  unfold qAg; rw [if_pos h, ht]; show (if qCP x.1 nm = true then _ else _) = _; rw [if_neg (by rw [h2]; decide), hw]
end
theorem qD6 {L : List (ByteArray × JV)} {nm : ByteArray} {j : JV} (h : ∀ p : ByteArray × JV, (p ∈ L ∨ p.1 = nm) → p.1.size ≤ qAy) : ∀ p ∈ L ++ [(nm, j)], p.1.size ≤ qAy := fun p hp => h p (by
  rcases List.mem_append.1 hp with h1 | h1
  · exact .inl h1
  · have h2 : p = (nm, j) := by simpa using h1
    exact .inr (by rw [h2]))
theorem qJX {d : Nat} (hd : d ≤ 31) (hval : qIP d) {w : World} {r : Nat} {s : ByteArray} {i i1 : Nat} (h : RR w r s i1 0 0) (hi1 : i1 = i + 1) (hi : i < s.size) (hs : s.size ≤ 65536) :
    Calls Tryz.prog 78 #[At r, .int .i64 (32 - (d : Int))] w (qBL (qAx s 125 (qAg s (qAJ s d)) i ([], [])) r s w (RoV w) SlN) := by
  obtain ⟨ie, z, hie1, hie2, hie3, hie4, hz⟩ := qCo; subst hz; have HR := h; have HM := Mv.refl r w; have hrw := HR.lt; (have hi1s : i1 ≤ s.size := by omega); obtain ⟨k, hk⟩ : ∃ k, k = qAd s i1 := ⟨_, rfl⟩; (have hks : k ≤ s.size := by rw [hk]; exact qBg hi1s); have HK1 := Lib.hid hk
  have heq : qAx s 125 (qAg s (qAJ s d)) i ([], []) = if pk s k = 125 then .ok ([], []) (k + 1) else qBU s 125 (qAg s (qAJ s d)) (s.size + 1) k ([], []) := by
    rw [hk, hi1]; rfl
  clear hk
  by_cases hlt : k < s.size
  · have b0 := bt_nonneg s k; have b1 := bt_le s k
    by_cases h93 : bt s k = 125
    · (have q93 : (bt s k == 125) = true := by rw [h93]; rfl); have HK : Hid (qAx s 125 (qAg s (qAJ s d)) i ([], []) = .ok ([], []) (k + 1)) := Lib.hid (by rw [heq, if_pos ((qBh hlt).trans h93)]); clear heq h93; go_enter Tryz.func78, Tryz.ntmps78
      go_wp2_with (first
        | (go_at_call 50; (with_reducible refine (qAa HR hi1s hs).mono ?_); rintro e w2 ⟨rfl, hr, hm⟩; rw [← HK1.out] at hr; replace HR := hr; replace HM := HM.trans hm; clear hr hm; have c0 := HR.c0; have c1 := HR.c1; have f1 := HR.f1; have c2 := HR.c2)
        | (go_at_call 72; (with_reducible refine (qAS HR hlt).mono ?_); rintro e w2 ⟨rfl, hr, hm⟩; replace HR := hr; replace HM := HM.trans hm; clear c0 c1 f1 c2 hr hm; have c0 := HR.c0; have c1 := HR.c1; have f1 := HR.f1; have c2 := HR.c2)
        | ((with_reducible refine qAF ?_); refine qAl rfl (.tmp 33) (.tmp 31) rfl rfl (k + 1) (by rfl) HR ?_; intro w4 hr hm; clear c0 c1 f1 c2; replace HR := hr; replace HM := HM.trans hm; clear hr hm; have c0 := HR.c0; have c1 := HR.c1; have f1 := HR.f1; have c2 := HR.c2))
      go_ret; exact qBL.ok HK.out HM RoV.nil HR
    · (have q93 : (bt s k == 125) = false := by simpa using h93); have HE : Hid (qAx s 125 (qAg s (qAJ s d)) i ([], []) = qBU s 125 (qAg s (qAJ s d)) (s.size + 1) k ([], [])) := Lib.hid (by rw [heq, if_neg (by rw [qBh hlt]; exact h93)]); clear heq; clear h93; go_enter Tryz.func78, Tryz.ntmps78
      go_wp2_with (first
        | (go_at_call 50; (with_reducible refine (qAa HR hi1s hs).mono ?_); rintro e w2 ⟨rfl, hr, hm⟩; rw [← HK1.out] at hr; replace HR := hr; replace HM := HM.trans hm; clear hr hm; have c0 := HR.c0; have c1 := HR.c1; have f1 := HR.f1; have c2 := HR.c2)
        | (go_at_call 72; (with_reducible refine (qAS HR hlt).mono ?_); rintro e w2 ⟨rfl, hr, hm⟩; replace HR := hr; replace HM := HM.trans hm; clear c0 c1 f1 c2 hr hm; have c0 := HR.c0; have c1 := HR.c1; have f1 := HR.f1; have c2 := HR.c2))
      clear b0 b1 c0 c1 f1 c2
      go_loopw [7] (fun ov wr => ∃ (k n : Nat) (v : Value) (L : List (ByteArray × JV)), v = ov ∧ k ≤ s.size ∧ RK r s w.heap.size 52 7 k v L.length (qCB L) (L.map (·.2)) wr ∧ Hid (qBU s 125 (qAg s (qAJ s d)) n k (L.map (·.1), L.map fun p => er p.2) = qAx s 125 (qAg s (qAJ s d)) i ([], [])) ∧ s.size < k + n ∧ L.length ≤ k ∧ Hid (∀ p ∈ L, p.1.size ≤ qAy) ∧ Mv r w wr) (fun _ wr => s.size - qHW wr r)
      case atStart => exact ⟨k, s.size + 1, _, [], rfl, hks, ⟨HR, ⟨rfl, .inl ⟨rfl, rfl⟩⟩, (fun y hy => by cases hy), ⟨hrw, HM.size⟩⟩, Lib.hid HE.out.symm, Nat.lt_succ_of_le (Nat.le_add_left _ _), Nat.zero_le _, Lib.hid (fun p hp => by cases hp), HM⟩
      case round =>
        clear HR HM HE hks HK1; obtain ⟨k, n, v, L, rfl, hks, HL, HS, hkn, hal, HNL, HM⟩ := hrel; have HR := HL.rd; have c0 := HR.c0; have c1 := HR.c1; have f1 := HR.f1; have c2 := HR.c2; have hat := HR.at; have hwz := HM.size; obtain ⟨n2, hn2⟩ : ∃ n2, n = n2 + 1 := ⟨n - 1, by omega⟩; subst hn2; have hst : Hid (∀ c p, qAg s (qAJ s d) k (L.map (·.1), L.map fun p => er p.2) = .bad c p → qAx s 125 (qAg s (qAJ s d)) i ([], []) = .bad c p) := Lib.hid (fun c p hb => by rw [← HS.out, qCp (by decide), hb])
        have hst2 : Hid (∀ y k2, qAg s (qAJ s d) k (L.map (·.1), L.map fun p => er p.2) = .ok y k2 → qAx s 125 (qAg s (qAJ s d)) i ([], []) = match qB9 s 125 k2 with
              | .ok true k3 => qBU s 125 (qAg s (qAJ s d)) n2 k3 y
              | .ok false k3 => .ok y k3
              | .bad c p => .bad c p) := Lib.hid (fun y k2 hb => by rw [← HS.out, qCp (by decide), hb]; rfl)
        clear HS
        by_cases hlt : k < s.size
        · have b0 := bt_nonneg s k; have b1 := bt_le s k; have hpk := qBh hlt
          by_cases h34 : bt s k = 34
          · (have q34 : (bt s k == 34) = true := by rw [h34]; rfl); (have p34 : (bt s k != 34) = false := by rw [h34]; rfl); have hp34 := hpk.trans h34; clear h34 hpk
            cases ht : qBK s k with
            | bad c p =>
              have HK := Lib.hid (hst.out _ _ (qKC hp34 ht)); have HT := Lib.hid ht; clear ht hst hst2 hp34
              go_wp2_with (first
                | (go_at_call 72; (with_reducible refine (qAS HR hlt).mono ?_); rintro e w2 ⟨rfl, hr, hm⟩; replace HL := HL.mv hm hr; replace HM := HM.trans hm; clear HR hr hm; have HR := HL.rd; clear c0 c1 f1 c2; have c0 := HR.c0; have c1 := HR.c1; have f1 := HR.f1; have c2 := HR.c2)
                | (go_at_call 76; (refine (qCu HR hlt hs).mono ?_); rw [HT.out]; rintro e w5 ⟨hm, rfl, hc, i3, hr⟩; have hc2 : (c == 0) = false := (by simpa using hc); have hc3 : (c != 0) = true := (by simpa using hc); have HC := Lib.hid hc; clear hc c0 c1 f1 c2; replace HR := hr; replace HM := HM.trans hm; clear hr hm; have c0 := HR.c0; have c1 := HR.c1; have f1 := HR.f1; have c2 := HR.c2))
              go_ret; exact qBL.bad HK.out HM SlN.nil HC.out HR
            | ok nm k1 =>
              have hg1 := qCt hlt nm k1 ht; have hk1 : k < k1 := hg1.1; have hk1s : k1 ≤ s.size := hg1.2; have hnmr : Hid (nm.size ≤ qAy) := Lib.hid (by have := qEO ht hlt; unfold qAy; omega); have HT := Lib.hid ht; have HP := Lib.hid hp34; clear ht hp34 hg1
              go_wp2_with (first
                | (go_at_call 72; (with_reducible refine (qAS HR hlt).mono ?_); rintro e w2 ⟨rfl, hr, hm⟩; replace HL := HL.mv hm hr; replace HM := HM.trans hm; clear HR hr hm; have HR := HL.rd; clear c0 c1 f1 c2; have c0 := HR.c0; have c1 := HR.c1; have f1 := HR.f1; have c2 := HR.c2)
                | (go_at_call 76; (refine (qCu HR hlt hs).mono ?_); rw [HT.out]; rintro e w5 ⟨hm, rfl, hr⟩; replace HL := HL.mv hm hr; replace HM := HM.trans hm; clear HR hr hm; have HR := HL.rd; clear c0 c1 f1 c2; have c0 := HR.c0; have c1 := HR.c1; have f1 := HR.f1; have c2 := HR.c2))
              obtain ⟨A, cp, hv⟩ := qKu HL.own; subst hv; have hLn : L.length ≤ 9223372036854775807 := by omega
              go_loop [12] (fun iv => ∃ q : Nat, q ≤ L.length ∧ iv = .int .i64 q ∧ Hid (qCP ((L.take q).map (·.1)) nm = false)) (fun iv => L.length - (intOf iv).toNat)
              case atStart => exact ⟨0, Nat.zero_le _, rfl, Lib.hid rfl⟩
              case round =>
                obtain ⟨q, hq, rfl, HH⟩ := hrel
                by_cases hql : q < L.length
                · have eq1 : L[q]? = some L[q] := List.getElem?_eq_getElem hql; have hnx := qG8 (nm := nm) eq1; have hin := qLR (nm := nm) eq1; obtain ⟨g, cap, hv, hcell⟩ := qIj HL.own eq1 rfl; generalize L[q] = pp at hnx hin hcell; injection hv with hv1 hv2 hv3; subst hv1; clear hv2 hv3 eq1; have hbl := World.block_lt_of_cell? _ _ hcell; cases he : (pp.1.toList == nm.toList)
                  · have hnx2 : Hid (qCP ((L.take (q + 1)).map (·.1)) nm = false) := Lib.hid (by rw [hnx, HH.out, he]; rfl); clear hnx hin; go_wp2
                    go_round
                    case rel => exact ⟨q + 1, by omega, by go_num, hnx2⟩
                    case measure => simp [intOf]; omega
                  · have HK := Lib.hid (hst.out _ _ (qJD HP.out HT.out (hin he))); clear hnx hin hst hst2
                    go_wp2_with (first
                    | (go_at_call 73; (with_reducible refine (qAj _ _ HR).mono ?_); rintro e w3 ⟨rfl, hr, hm⟩; clear c0 c1 f1 c2; replace HR := hr; replace HM := HM.trans hm; have c0 := HR.c0; have c1 := HR.c1; have f1 := HR.f1; have c2 := HR.c2))
                    go_ret; exact qBL.bad HK.out HM SlN.nil (by decide) HR
                · (obtain rfl : q = L.length := by omega); have HNN : Hid (qCP (L.map (·.1)) nm = false) := Lib.hid (by have := HH.out; rwa [List.take_length] at this); clear HH hq hql; obtain ⟨k1b, hk1b⟩ : ∃ k1b, k1b = qAd s k1 := ⟨_, rfl⟩; (have hk1b1 : k1 ≤ k1b := by rw [hk1b]; exact qBJ); (have hk1b2 : k1b ≤ s.size := by rw [hk1b]; exact qBg hk1s); have HK1B := Lib.hid hk1b; clear hk1b
                  cases hw : qBF s ⟨#[58]⟩ 1 k1b with
                  | bad c p =>
                    have HK := Lib.hid (hst.out _ _ (qJV HP.out HT.out HNN.out (by rw [← HK1B.out]; exact hw))); have HW := Lib.hid hw; clear hw hst hst2
                    go_wp2_with (first
                      | (go_at_call 50; (with_reducible refine (qAa HR hk1s hs).mono ?_); rintro e w2 ⟨rfl, hr, hm⟩; rw [← HK1B.out] at hr; replace HL := HL.mv hm hr; replace HM := HM.trans hm; clear HR hr hm; have HR := HL.rd; clear c0 c1 f1 c2; have c0 := HR.c0; have c1 := HR.c1; have f1 := HR.f1; have c2 := HR.c2)
                      | (go_at_call 74; (refine (qBr HR hk1b2 hs).mono ?_); rw [HW.out]; rintro e w5 ⟨hm, rfl, hc, i3, hr⟩; have hc2 : (c == 0) = false := (by simpa using hc); have hc3 : (c != 0) = true := (by simpa using hc); have HC := Lib.hid hc; clear hc c0 c1 f1 c2; replace HR := hr; replace HM := HM.trans hm; clear hr hm; have c0 := HR.c0; have c1 := HR.c1; have f1 := HR.f1; have c2 := HR.c2))
                    go_ret; exact qBL.bad HK.out HM SlN.nil HC.out HR
                  | ok u k2 =>
                    have hgw := qB2 1 k1b (by decide) qDe u k2 hw; have hk2 : k1b < k2 := hgw.1; have hk2s : k2 ≤ s.size := hgw.2; have hov := qNK (f := qAJ s d) (x := (L.map (·.1), L.map fun p => er p.2)) HP.out HT.out HNN.out (by rw [← HK1B.out]; exact hw); have HOV := Lib.hid hov; have HW := Lib.hid hw; clear hw hgw hov; obtain ⟨k2b, hk2b⟩ : ∃ k2b, k2b = qAd s k2 := ⟨_, rfl⟩; (have hk2b1 : k2 ≤ k2b := by rw [hk2b]; exact qBJ); (have hk2b2 : k2b ≤ s.size := by rw [hk2b]; exact qBg hk2s); have HK2B := Lib.hid hk2b; clear hk2b
                    cases ho : qAJ s d k2b with
                    | bad c p =>
                      have HK := Lib.hid (hst.out c p (by rw [HOV.out, ← HK2B.out, ho]; rfl)); have HO := Lib.hid ho; clear ho hst hst2
                      go_wp2_with (first
                        | (go_at_call 50; (with_reducible refine (qAa HR hk1s hs).mono ?_); rintro e w2 ⟨rfl, hr, hm⟩; rw [← HK1B.out] at hr; replace HL := HL.mv hm hr; replace HM := HM.trans hm; clear HR hr hm; have HR := HL.rd; clear c0 c1 f1 c2; have c0 := HR.c0; have c1 := HR.c1; have f1 := HR.f1; have c2 := HR.c2)
                        | (go_at_call 74; (refine (qBr HR hk1b2 hs).mono ?_); rw [HW.out]; rintro e w5 ⟨hm, rfl, hr⟩; replace HL := HL.mv hm hr; replace HM := HM.trans hm; clear HR hr hm; have HR := HL.rd; clear c0 c1 f1 c2; have c0 := HR.c0; have c1 := HR.c1; have f1 := HR.f1; have c2 := HR.c2)
                        | (go_at_call 50; (with_reducible refine (qAa HR hk2s hs).mono ?_); rintro e w2 ⟨rfl, hr, hm⟩; rw [← HK2B.out] at hr; replace HL := HL.mv hm hr; replace HM := HM.trans hm; clear HR hr hm; have HR := HL.rd; clear c0 c1 f1 c2; have c0 := HR.c0; have c1 := HR.c1; have f1 := HR.f1; have c2 := HR.c2)
                        | (go_at_call 51; (refine (hval.at HR hk2b2 hs).mono ?_); rw [HO.out]; rintro e w5 ⟨hm, ⟨j, rfl⟩, hc, i3, hr⟩; have hc2 : (c == 0) = false := (by simpa using hc); have hc3 : (c != 0) = true := (by simpa using hc); have HC := Lib.hid hc; clear hc c0 c1 f1 c2; replace HR := hr; replace HM := HM.trans hm; clear hr hm; have c0 := HR.c0; have c1 := HR.c1; have f1 := HR.f1; have c2 := HR.c2)
                        | (refine qAO 13 rfl rfl 25 rfl rfl (.tmp 99) rfl _ qAY j.cells rfl rfl qAA rfl (qAP _) ?_; intro w7 hw; have hb := qAD hw; clear hw; replace HR := HR.below hb; replace HM := HM.trans (Mv.of hb); clear hb c0 c1 f1 c2; have c0 := HR.c0; have c1 := HR.c1; have f1 := HR.f1; have c2 := HR.c2))
                      go_ret; exact qBL.bad HK.out HM SlN.nil HC.out HR
                    | ok t k3 =>
                      have hg := qA8 d k2b t k3 ho; have hk3a : k2b < k3 := hg.1; have hk3 : k3 ≤ s.size := hg.2; have HO := Lib.hid ho; have hsm := hst2.out (L.map (·.1) ++ [nm], (L.map fun p => er p.2) ++ [t]) k3 (by rw [HOV.out, ← HK2B.out, ho]; rfl); clear hst hst2
                      have HNL2 : Hid (∀ p : ByteArray × JV, (p ∈ L ∨ p.1 = nm) → p.1.size ≤ qAy) := Lib.hid (fun p hp => by
                        rcases hp with hp | hp
                        · exact HNL.out p hp
                        · rw [hp]; exact hnmr.out)
                      cases hm : qB9 s 125 k3 with
                      | bad c p =>
                        have hc3 := qEy hm; subst hc3; have HK : Hid (qAx s 125 (qAg s (qAJ s d)) i ([], []) = .bad 3 p) := Lib.hid (by rw [hsm, hm]); have HMO := Lib.hid hm; clear ho hsm hm hg
                        go_wp2_with (first
                          | (go_at_call 50; (with_reducible refine (qAa HR hk1s hs).mono ?_); rintro e w2 ⟨rfl, hr, hm⟩; rw [← HK1B.out] at hr; replace HL := HL.mv hm hr; replace HM := HM.trans hm; clear HR hr hm; have HR := HL.rd; clear c0 c1 f1 c2; have c0 := HR.c0; have c1 := HR.c1; have f1 := HR.f1; have c2 := HR.c2)
                          | (go_at_call 74; (refine (qBr HR hk1b2 hs).mono ?_); rw [HW.out]; rintro e w5 ⟨hm, rfl, hr⟩; replace HL := HL.mv hm hr; replace HM := HM.trans hm; clear HR hr hm; have HR := HL.rd; clear c0 c1 f1 c2; have c0 := HR.c0; have c1 := HR.c1; have f1 := HR.f1; have c2 := HR.c2)
                          | (go_at_call 50; (with_reducible refine (qAa HR hk2s hs).mono ?_); rintro e w2 ⟨rfl, hr, hm⟩; rw [← HK2B.out] at hr; replace HL := HL.mv hm hr; replace HM := HM.trans hm; clear HR hr hm; have HR := HL.rd; clear c0 c1 f1 c2; have c0 := HR.c0; have c1 := HR.c1; have f1 := HR.f1; have c2 := HR.c2)
                          | (go_at_call 51; (refine (hval.at HR hk2b2 hs).mono ?_); rw [HO.out]; rintro e w5 ⟨hm, ⟨j, rfl, hj, hje, hjo⟩, hr⟩; have HJE := Lib.hid hje; have hwz2 := HM.size; have hjf : Off (fun q => q < w.heap.size ∨ (Value.slice A L.length cp).ownBlock = some q) j := Off.mono (fun q e => e.elim (fun e => Nat.lt_of_lt_of_le e hwz2) (fun e => (qAh HL.own e).2)) hjo; have HJF := Lib.hid hjf; clear hje hjf hjo hwz2; replace HL := HL.mv hm hr; replace HM := HM.trans hm; clear HR hr hm; have HR := HL.rd; clear c0 c1 f1 c2; have c0 := HR.c0; have c1 := HR.c1; have f1 := HR.f1; have c2 := HR.c2)
                          | (refine qAO 13 rfl rfl 25 rfl rfl (.tmp 99) rfl _ qAY j.cells rfl rfl qAA rfl (qAP _) ?_; intro w7 hw; have hb := qAD hw; have B8 := (qAC hw).1; clear hw; replace HL := HL.below hb; replace hj := qAi.below hb hj; replace HM := HM.trans (Mv.of hb); clear hb c0 c1 f1 c2 HR; have HR := HL.rd; have c0 := HR.c0; have c1 := HR.c1; have f1 := HR.f1; have c2 := HR.c2)
                          | ((with_reducible refine qAR ?_); refine qAL rfl 25 (.tmp 13) rfl _ rfl _ _ _ B8 Tryz.underlying25 rfl qAA ?_)
                          | ((with_reducible refine qAT ?_); refine qAK (vals := [(0, .string nm), (1, .agg j.cells)]) (qBQ nm j) rfl _ rfl rfl ?_)
                          | ((with_reducible refine qAm ?_); refine qAU 1 [(0, .agg (qBB (nm, j)))] (qBB (nm, j)) ie _ (by rw [hie3]; exact qBl (nm, j)) rfl 23 52 _ rfl rfl Tryz.underlying23 hie1 hie2 (by rw [hie3]; decide) (by rw [hie3]; decide) ?_; intro w9 hw; have hb := qAD hw; have B9 := (qAC hw).1; clear hw; replace HL := HL.below hb; replace hj := qAi.below hb hj; replace HM := HM.trans (Mv.of hb); clear hb c0 c1 f1 c2 HR; have HR := HL.rd; have c0 := HR.c0; have c1 := HR.c1; have f1 := HR.f1; have c2 := HR.c2)
                          | (at_builtin; refine qA4 rfl (.tmp 106) (.tmp 110) 23 rfl w.heap.size 52 ie _ 7 104 Tryz.underlying23 hie1 hie2 hie3 hie4 rfl (by decide) (.slice A L.length cp) L.length (qCB L) rfl HL.own _ 1 (qBB (nm, j)) _ B9 (qC6 _) rfl (qAw _) (by unfold maxLen; omega) (by omega) HL.st.2 ?_; intro v9 w10 ho9 hb9 hat9; have HL2 := qDd (HL.more ho9 hb9 hat9 hj HJF.out); replace HM := HM.own9 hb9 HL.own (Nat.le_refl _); clear HR HL hb9 ho9 hat9 B9 c0 c1 f1 c2; have HL := HL2; clear HL2; have HR := HL.rd; have c0 := HR.c0; have c1 := HR.c1; have f1 := HR.f1; have c2 := HR.c2)
                          | (go_at_call 94; (with_reducible refine (qBp HR hk3 hs (by decide)).mono ?_); rw [HMO.out]; rintro e w11 ⟨hm, rfl, hc, i3, hr⟩; clear c0 c1 f1 c2; replace HR := hr; have hown := HL.own; replace HM := HM.trans hm; clear hr hm hc; have c0 := HR.c0; have c1 := HR.c1; have f1 := HR.f1; have c2 := HR.c2))
                        go_ret; exact qBL.bad HK.out HM (SlN.own hown) (by decide) HR
                      | ok b k4 =>
                        have hgm := qEM (by decide) b k4 hm; have hk4 : k3 < k4 := hgm.1; have hk4s : k4 ≤ s.size := hgm.2; have HMO := Lib.hid hm; cases b
                        · have HK : Hid (qAx s 125 (qAg s (qAJ s d)) i ([], []) = .ok (L.map (·.1) ++ [nm], (L.map fun p => er p.2) ++ [t]) k4) := Lib.hid (by rw [hsm, hm]); clear ho hsm hm hg hgm
                          go_wp2_with (first
                            | (go_at_call 50; (with_reducible refine (qAa HR hk1s hs).mono ?_); rintro e w2 ⟨rfl, hr, hm⟩; rw [← HK1B.out] at hr; replace HL := HL.mv hm hr; replace HM := HM.trans hm; clear HR hr hm; have HR := HL.rd; clear c0 c1 f1 c2; have c0 := HR.c0; have c1 := HR.c1; have f1 := HR.f1; have c2 := HR.c2)
                            | (go_at_call 74; (refine (qBr HR hk1b2 hs).mono ?_); rw [HW.out]; rintro e w5 ⟨hm, rfl, hr⟩; replace HL := HL.mv hm hr; replace HM := HM.trans hm; clear HR hr hm; have HR := HL.rd; clear c0 c1 f1 c2; have c0 := HR.c0; have c1 := HR.c1; have f1 := HR.f1; have c2 := HR.c2)
                            | (go_at_call 50; (with_reducible refine (qAa HR hk2s hs).mono ?_); rintro e w2 ⟨rfl, hr, hm⟩; rw [← HK2B.out] at hr; replace HL := HL.mv hm hr; replace HM := HM.trans hm; clear HR hr hm; have HR := HL.rd; clear c0 c1 f1 c2; have c0 := HR.c0; have c1 := HR.c1; have f1 := HR.f1; have c2 := HR.c2)
                            | (go_at_call 51; (refine (hval.at HR hk2b2 hs).mono ?_); rw [HO.out]; rintro e w5 ⟨hm, ⟨j, rfl, hj, hje, hjo⟩, hr⟩; have HJE := Lib.hid hje; have hwz2 := HM.size; have hjf : Off (fun q => q < w.heap.size ∨ (Value.slice A L.length cp).ownBlock = some q) j := Off.mono (fun q e => e.elim (fun e => Nat.lt_of_lt_of_le e hwz2) (fun e => (qAh HL.own e).2)) hjo; have HJF := Lib.hid hjf; clear hje hjf hjo hwz2; replace HL := HL.mv hm hr; replace HM := HM.trans hm; clear HR hr hm; have HR := HL.rd; clear c0 c1 f1 c2; have c0 := HR.c0; have c1 := HR.c1; have f1 := HR.f1; have c2 := HR.c2)
                            | (refine qAO 13 rfl rfl 25 rfl rfl (.tmp 99) rfl _ qAY j.cells rfl rfl qAA rfl (qAP _) ?_; intro w7 hw; have hb := qAD hw; have B8 := (qAC hw).1; clear hw; replace HL := HL.below hb; replace hj := qAi.below hb hj; replace HM := HM.trans (Mv.of hb); clear hb c0 c1 f1 c2 HR; have HR := HL.rd; have c0 := HR.c0; have c1 := HR.c1; have f1 := HR.f1; have c2 := HR.c2)
                            | ((with_reducible refine qAR ?_); refine qAL rfl 25 (.tmp 13) rfl _ rfl _ _ _ B8 Tryz.underlying25 rfl qAA ?_)
                            | ((with_reducible refine qAT ?_); refine qAK (vals := [(0, .string nm), (1, .agg j.cells)]) (qBQ nm j) rfl _ rfl rfl ?_)
                            | ((with_reducible refine qAm ?_); refine qAU 1 [(0, .agg (qBB (nm, j)))] (qBB (nm, j)) ie _ (by rw [hie3]; exact qBl (nm, j)) rfl 23 52 _ rfl rfl Tryz.underlying23 hie1 hie2 (by rw [hie3]; decide) (by rw [hie3]; decide) ?_; intro w9 hw; have hb := qAD hw; have B9 := (qAC hw).1; clear hw; replace HL := HL.below hb; replace hj := qAi.below hb hj; replace HM := HM.trans (Mv.of hb); clear hb c0 c1 f1 c2 HR; have HR := HL.rd; have c0 := HR.c0; have c1 := HR.c1; have f1 := HR.f1; have c2 := HR.c2)
                            | (at_builtin; refine qA4 rfl (.tmp 106) (.tmp 110) 23 rfl w.heap.size 52 ie _ 7 104 Tryz.underlying23 hie1 hie2 hie3 hie4 rfl (by decide) (.slice A L.length cp) L.length (qCB L) rfl HL.own _ 1 (qBB (nm, j)) _ B9 (qC6 _) rfl (qAw _) (by unfold maxLen; omega) (by omega) HL.st.2 ?_; intro v9 w10 ho9 hb9 hat9; have HL2 := qDd (HL.more ho9 hb9 hat9 hj HJF.out); replace HM := HM.own9 hb9 HL.own (Nat.le_refl _); clear HR HL hb9 ho9 hat9 B9 c0 c1 f1 c2; have HL := HL2; clear HL2; have HR := HL.rd; have c0 := HR.c0; have c1 := HR.c1; have f1 := HR.f1; have c2 := HR.c2)
                            | (go_at_call 94; (with_reducible refine (qBp HR hk3 hs (by decide)).mono ?_); rw [HMO.out]; rintro e w11 ⟨hm, rfl, hr⟩; clear c0 c1 f1 c2; replace HL := HL.mv hm hr; replace HM := HM.trans hm; clear HR hr hm; have HR := HL.rd; have c0 := HR.c0; have c1 := HR.c1; have f1 := HR.f1; have c2 := HR.c2))
                          go_ret
                          exact qBL.ok HK.out HM (by
                            have hh := RoV.of HL (qD6 HNL2.out) (by unfold qAy; simp; omega); rw [List.map_append, List.map_append] at hh
                            rw [← HJE.out]; exact hh) HR
                        · have HK : Hid (qBU s 125 (qAg s (qAJ s d)) n2 k4 (L.map (·.1) ++ [nm], (L.map fun p => er p.2) ++ [t]) = qAx s 125 (qAg s (qAJ s d)) i ([], [])) := Lib.hid (by rw [hsm, hm]); clear ho hsm hm hg hgm
                          go_wp2_with (first
                            | (go_at_call 50; (with_reducible refine (qAa HR hk1s hs).mono ?_); rintro e w2 ⟨rfl, hr, hm⟩; rw [← HK1B.out] at hr; replace HL := HL.mv hm hr; replace HM := HM.trans hm; clear HR hr hm; have HR := HL.rd; clear c0 c1 f1 c2; have c0 := HR.c0; have c1 := HR.c1; have f1 := HR.f1; have c2 := HR.c2)
                            | (go_at_call 74; (refine (qBr HR hk1b2 hs).mono ?_); rw [HW.out]; rintro e w5 ⟨hm, rfl, hr⟩; replace HL := HL.mv hm hr; replace HM := HM.trans hm; clear HR hr hm; have HR := HL.rd; clear c0 c1 f1 c2; have c0 := HR.c0; have c1 := HR.c1; have f1 := HR.f1; have c2 := HR.c2)
                            | (go_at_call 50; (with_reducible refine (qAa HR hk2s hs).mono ?_); rintro e w2 ⟨rfl, hr, hm⟩; rw [← HK2B.out] at hr; replace HL := HL.mv hm hr; replace HM := HM.trans hm; clear HR hr hm; have HR := HL.rd; clear c0 c1 f1 c2; have c0 := HR.c0; have c1 := HR.c1; have f1 := HR.f1; have c2 := HR.c2)
                            | (go_at_call 51; (refine (hval.at HR hk2b2 hs).mono ?_); rw [HO.out]; rintro e w5 ⟨hm, ⟨j, rfl, hj, hje, hjo⟩, hr⟩; have HJE := Lib.hid hje; have hwz2 := HM.size; have hjf : Off (fun q => q < w.heap.size ∨ (Value.slice A L.length cp).ownBlock = some q) j := Off.mono (fun q e => e.elim (fun e => Nat.lt_of_lt_of_le e hwz2) (fun e => (qAh HL.own e).2)) hjo; have HJF := Lib.hid hjf; clear hje hjf hjo hwz2; replace HL := HL.mv hm hr; replace HM := HM.trans hm; clear HR hr hm; have HR := HL.rd; clear c0 c1 f1 c2; have c0 := HR.c0; have c1 := HR.c1; have f1 := HR.f1; have c2 := HR.c2)
                            | (refine qAO 13 rfl rfl 25 rfl rfl (.tmp 99) rfl _ qAY j.cells rfl rfl qAA rfl (qAP _) ?_; intro w7 hw; have hb := qAD hw; have B8 := (qAC hw).1; clear hw; replace HL := HL.below hb; replace hj := qAi.below hb hj; replace HM := HM.trans (Mv.of hb); clear hb c0 c1 f1 c2 HR; have HR := HL.rd; have c0 := HR.c0; have c1 := HR.c1; have f1 := HR.f1; have c2 := HR.c2)
                            | ((with_reducible refine qAR ?_); refine qAL rfl 25 (.tmp 13) rfl _ rfl _ _ _ B8 Tryz.underlying25 rfl qAA ?_)
                            | ((with_reducible refine qAT ?_); refine qAK (vals := [(0, .string nm), (1, .agg j.cells)]) (qBQ nm j) rfl _ rfl rfl ?_)
                            | ((with_reducible refine qAm ?_); refine qAU 1 [(0, .agg (qBB (nm, j)))] (qBB (nm, j)) ie _ (by rw [hie3]; exact qBl (nm, j)) rfl 23 52 _ rfl rfl Tryz.underlying23 hie1 hie2 (by rw [hie3]; decide) (by rw [hie3]; decide) ?_; intro w9 hw; have hb := qAD hw; have B9 := (qAC hw).1; clear hw; replace HL := HL.below hb; replace hj := qAi.below hb hj; replace HM := HM.trans (Mv.of hb); clear hb c0 c1 f1 c2 HR; have HR := HL.rd; have c0 := HR.c0; have c1 := HR.c1; have f1 := HR.f1; have c2 := HR.c2)
                            | (at_builtin; refine qA4 rfl (.tmp 106) (.tmp 110) 23 rfl w.heap.size 52 ie _ 7 104 Tryz.underlying23 hie1 hie2 hie3 hie4 rfl (by decide) (.slice A L.length cp) L.length (qCB L) rfl HL.own _ 1 (qBB (nm, j)) _ B9 (qC6 _) rfl (qAw _) (by unfold maxLen; omega) (by omega) HL.st.2 ?_; intro v9 w10 ho9 hb9 hat9; have HL2 := qDd (HL.more ho9 hb9 hat9 hj HJF.out); replace HM := HM.own9 hb9 HL.own (Nat.le_refl _); clear HR HL hb9 ho9 hat9 B9 c0 c1 f1 c2; have HL := HL2; clear HL2; have HR := HL.rd; have c0 := HR.c0; have c1 := HR.c1; have f1 := HR.f1; have c2 := HR.c2)
                            | (go_at_call 94; (with_reducible refine (qBp HR hk3 hs (by decide)).mono ?_); rw [HMO.out]; rintro e w11 ⟨hm, rfl, hr⟩; clear c0 c1 f1 c2; replace HL := HL.mv hm hr; replace HM := HM.trans hm; clear HR hr hm; have HR := HL.rd; have c0 := HR.c0; have c1 := HR.c1; have f1 := HR.f1; have c2 := HR.c2))
                          go_roundw
                          case rel => exact ⟨k4, n2, _, L ++ [(nm, j)], rfl, hk4s, HL, by rw [List.map_append, List.map_append]; show Hid (qBU _ _ _ _ _ (L.map (·.1) ++ [nm], (L.map fun p => er p.2) ++ [er j]) = _); rw [HJE.out]; exact HK, by omega, by simp; omega, Lib.hid (qD6 HNL2.out), HM⟩
                          case measure => rw [HR.at, hat]; omega
          · (have q34 : (bt s k == 34) = false := by simpa using h34); (have p34 : (bt s k != 34) = true := by simpa using h34); have HK := Lib.hid (hst.out _ _ (qMN (by rw [hpk]; exact h34))); have HC : Hid ((3 : Int) ≠ 0) := Lib.hid (by decide); clear hpk h34 hst hst2
            go_wp2_with (first
              | (go_at_call 72; (with_reducible refine (qAS HR hlt).mono ?_); rintro e w2 ⟨rfl, hr, hm⟩; replace HL := HL.mv hm hr; replace HM := HM.trans hm; clear HR hr hm; have HR := HL.rd; clear c0 c1 f1 c2; have c0 := HR.c0; have c1 := HR.c1; have f1 := HR.f1; have c2 := HR.c2)
              | (go_at_call 73; (with_reducible refine (qAj _ _ HR).mono ?_); rintro e w3 ⟨rfl, hr, hm⟩; clear c0 c1 f1 c2; replace HR := hr; replace HM := HM.trans hm; have c0 := HR.c0; have c1 := HR.c1; have f1 := HR.f1; have c2 := HR.c2))
            go_ret; exact qBL.bad HK.out HM SlN.nil HC.out HR
        · have HK := Lib.hid (hst.out _ _ (qMN (by rw [qBb (by omega)]; decide))); have HC : Hid ((3 : Int) ≠ 0) := Lib.hid (by decide); clear hst hst2
          go_wp2_with (first
            | (go_at_call 72; (with_reducible refine (qBT HR hlt).mono ?_); rintro e w2 ⟨rfl, hr, hm⟩; replace HL := HL.mv hm hr; replace HM := HM.trans hm; clear HR hr hm; have HR := HL.rd; clear c0 c1 f1 c2; have c0 := HR.c0; have c1 := HR.c1; have f1 := HR.f1; have c2 := HR.c2)
            | (go_at_call 73; (with_reducible refine (qAj _ _ HR).mono ?_); rintro e w3 ⟨rfl, hr, hm⟩; clear c0 c1 f1 c2; replace HR := hr; replace HM := HM.trans hm; have c0 := HR.c0; have c1 := HR.c1; have f1 := HR.f1; have c2 := HR.c2))
          go_ret; exact qBL.bad HK.out HM SlN.nil HC.out HR
  · have HE : Hid (qAx s 125 (qAg s (qAJ s d)) i ([], []) = qBU s 125 (qAg s (qAJ s d)) (s.size + 1) k ([], [])) := Lib.hid (by rw [heq, if_neg (by rw [qBb (by omega)]; decide)]); clear heq; go_enter Tryz.func78, Tryz.ntmps78
    go_wp2_with (first
      | (go_at_call 50; (with_reducible refine (qAa HR hi1s hs).mono ?_); rintro e w2 ⟨rfl, hr, hm⟩; rw [← HK1.out] at hr; replace HR := hr; replace HM := HM.trans hm; clear hr hm; have c0 := HR.c0; have c1 := HR.c1; have f1 := HR.f1; have c2 := HR.c2)
      | (go_at_call 72; (with_reducible refine (qBT HR hlt).mono ?_); rintro e w2 ⟨rfl, hr, hm⟩; replace HR := hr; replace HM := HM.trans hm; clear c0 c1 f1 c2 hr hm; have c0 := HR.c0; have c1 := HR.c1; have f1 := HR.f1; have c2 := HR.c2))
    clear c0 c1 f1 c2
    go_loopw [7] (fun ov wr => ∃ (k n : Nat) (v : Value) (L : List (ByteArray × JV)), v = ov ∧ k ≤ s.size ∧ RK r s w.heap.size 52 7 k v L.length (qCB L) (L.map (·.2)) wr ∧ Hid (qBU s 125 (qAg s (qAJ s d)) n k (L.map (·.1), L.map fun p => er p.2) = qAx s 125 (qAg s (qAJ s d)) i ([], [])) ∧ s.size < k + n ∧ L.length ≤ k ∧ Hid (∀ p ∈ L, p.1.size ≤ qAy) ∧ Mv r w wr) (fun _ wr => s.size - qHW wr r)
    case atStart => exact ⟨k, s.size + 1, _, [], rfl, hks, ⟨HR, ⟨rfl, .inl ⟨rfl, rfl⟩⟩, (fun y hy => by cases hy), ⟨hrw, HM.size⟩⟩, Lib.hid HE.out.symm, Nat.lt_succ_of_le (Nat.le_add_left _ _), Nat.zero_le _, Lib.hid (fun p hp => by cases hp), HM⟩
    case round =>
      clear HR HM HE hks HK1; obtain ⟨k, n, v, L, rfl, hks, HL, HS, hkn, hal, HNL, HM⟩ := hrel; have HR := HL.rd; have c0 := HR.c0; have c1 := HR.c1; have f1 := HR.f1; have c2 := HR.c2; have hat := HR.at; have hwz := HM.size; obtain ⟨n2, hn2⟩ : ∃ n2, n = n2 + 1 := ⟨n - 1, by omega⟩; subst hn2; have hst : Hid (∀ c p, qAg s (qAJ s d) k (L.map (·.1), L.map fun p => er p.2) = .bad c p → qAx s 125 (qAg s (qAJ s d)) i ([], []) = .bad c p) := Lib.hid (fun c p hb => by rw [← HS.out, qCp (by decide), hb])
      have hst2 : Hid (∀ y k2, qAg s (qAJ s d) k (L.map (·.1), L.map fun p => er p.2) = .ok y k2 → qAx s 125 (qAg s (qAJ s d)) i ([], []) = match qB9 s 125 k2 with
            | .ok true k3 => qBU s 125 (qAg s (qAJ s d)) n2 k3 y
            | .ok false k3 => .ok y k3
            | .bad c p => .bad c p) := Lib.hid (fun y k2 hb => by rw [← HS.out, qCp (by decide), hb]; rfl)
      clear HS
      by_cases hlt : k < s.size
      · have b0 := bt_nonneg s k; have b1 := bt_le s k; have hpk := qBh hlt
        by_cases h34 : bt s k = 34
        · (have q34 : (bt s k == 34) = true := by rw [h34]; rfl); (have p34 : (bt s k != 34) = false := by rw [h34]; rfl); have hp34 := hpk.trans h34; clear h34 hpk
          cases ht : qBK s k with
          | bad c p =>
            have HK := Lib.hid (hst.out _ _ (qKC hp34 ht)); have HT := Lib.hid ht; clear ht hst hst2 hp34
            go_wp2_with (first
              | (go_at_call 72; (with_reducible refine (qAS HR hlt).mono ?_); rintro e w2 ⟨rfl, hr, hm⟩; replace HL := HL.mv hm hr; replace HM := HM.trans hm; clear HR hr hm; have HR := HL.rd; clear c0 c1 f1 c2; have c0 := HR.c0; have c1 := HR.c1; have f1 := HR.f1; have c2 := HR.c2)
              | (go_at_call 76; (refine (qCu HR hlt hs).mono ?_); rw [HT.out]; rintro e w5 ⟨hm, rfl, hc, i3, hr⟩; have hc2 : (c == 0) = false := (by simpa using hc); have hc3 : (c != 0) = true := (by simpa using hc); have HC := Lib.hid hc; clear hc c0 c1 f1 c2; replace HR := hr; replace HM := HM.trans hm; clear hr hm; have c0 := HR.c0; have c1 := HR.c1; have f1 := HR.f1; have c2 := HR.c2))
            go_ret; exact qBL.bad HK.out HM SlN.nil HC.out HR
          | ok nm k1 =>
            have hg1 := qCt hlt nm k1 ht; have hk1 : k < k1 := hg1.1; have hk1s : k1 ≤ s.size := hg1.2; have hnmr : Hid (nm.size ≤ qAy) := Lib.hid (by have := qEO ht hlt; unfold qAy; omega); have HT := Lib.hid ht; have HP := Lib.hid hp34; clear ht hp34 hg1
            go_wp2_with (first
              | (go_at_call 72; (with_reducible refine (qAS HR hlt).mono ?_); rintro e w2 ⟨rfl, hr, hm⟩; replace HL := HL.mv hm hr; replace HM := HM.trans hm; clear HR hr hm; have HR := HL.rd; clear c0 c1 f1 c2; have c0 := HR.c0; have c1 := HR.c1; have f1 := HR.f1; have c2 := HR.c2)
              | (go_at_call 76; (refine (qCu HR hlt hs).mono ?_); rw [HT.out]; rintro e w5 ⟨hm, rfl, hr⟩; replace HL := HL.mv hm hr; replace HM := HM.trans hm; clear HR hr hm; have HR := HL.rd; clear c0 c1 f1 c2; have c0 := HR.c0; have c1 := HR.c1; have f1 := HR.f1; have c2 := HR.c2))
            obtain ⟨A, cp, hv⟩ := qKu HL.own; subst hv; have hLn : L.length ≤ 9223372036854775807 := by omega
            go_loop [12] (fun iv => ∃ q : Nat, q ≤ L.length ∧ iv = .int .i64 q ∧ Hid (qCP ((L.take q).map (·.1)) nm = false)) (fun iv => L.length - (intOf iv).toNat)
            case atStart => exact ⟨0, Nat.zero_le _, rfl, Lib.hid rfl⟩
            case round =>
              obtain ⟨q, hq, rfl, HH⟩ := hrel
              by_cases hql : q < L.length
              · have eq1 : L[q]? = some L[q] := List.getElem?_eq_getElem hql; have hnx := qG8 (nm := nm) eq1; have hin := qLR (nm := nm) eq1; obtain ⟨g, cap, hv, hcell⟩ := qIj HL.own eq1 rfl; generalize L[q] = pp at hnx hin hcell; injection hv with hv1 hv2 hv3; subst hv1; clear hv2 hv3 eq1; have hbl := World.block_lt_of_cell? _ _ hcell; cases he : (pp.1.toList == nm.toList)
                · have hnx2 : Hid (qCP ((L.take (q + 1)).map (·.1)) nm = false) := Lib.hid (by rw [hnx, HH.out, he]; rfl); clear hnx hin; go_wp2
                  go_round
                  case rel => exact ⟨q + 1, by omega, by go_num, hnx2⟩
                  case measure => simp [intOf]; omega
                · have HK := Lib.hid (hst.out _ _ (qJD HP.out HT.out (hin he))); clear hnx hin hst hst2
                  go_wp2_with (first
                  | (go_at_call 73; (with_reducible refine (qAj _ _ HR).mono ?_); rintro e w3 ⟨rfl, hr, hm⟩; clear c0 c1 f1 c2; replace HR := hr; replace HM := HM.trans hm; have c0 := HR.c0; have c1 := HR.c1; have f1 := HR.f1; have c2 := HR.c2))
                  go_ret; exact qBL.bad HK.out HM SlN.nil (by decide) HR
              · (obtain rfl : q = L.length := by omega); have HNN : Hid (qCP (L.map (·.1)) nm = false) := Lib.hid (by have := HH.out; rwa [List.take_length] at this); clear HH hq hql; obtain ⟨k1b, hk1b⟩ : ∃ k1b, k1b = qAd s k1 := ⟨_, rfl⟩; (have hk1b1 : k1 ≤ k1b := by rw [hk1b]; exact qBJ); (have hk1b2 : k1b ≤ s.size := by rw [hk1b]; exact qBg hk1s); have HK1B := Lib.hid hk1b; clear hk1b
                cases hw : qBF s ⟨#[58]⟩ 1 k1b with
                | bad c p =>
                  have HK := Lib.hid (hst.out _ _ (qJV HP.out HT.out HNN.out (by rw [← HK1B.out]; exact hw))); have HW := Lib.hid hw; clear hw hst hst2
                  go_wp2_with (first
                    | (go_at_call 50; (with_reducible refine (qAa HR hk1s hs).mono ?_); rintro e w2 ⟨rfl, hr, hm⟩; rw [← HK1B.out] at hr; replace HL := HL.mv hm hr; replace HM := HM.trans hm; clear HR hr hm; have HR := HL.rd; clear c0 c1 f1 c2; have c0 := HR.c0; have c1 := HR.c1; have f1 := HR.f1; have c2 := HR.c2)
                    | (go_at_call 74; (refine (qBr HR hk1b2 hs).mono ?_); rw [HW.out]; rintro e w5 ⟨hm, rfl, hc, i3, hr⟩; have hc2 : (c == 0) = false := (by simpa using hc); have hc3 : (c != 0) = true := (by simpa using hc); have HC := Lib.hid hc; clear hc c0 c1 f1 c2; replace HR := hr; replace HM := HM.trans hm; clear hr hm; have c0 := HR.c0; have c1 := HR.c1; have f1 := HR.f1; have c2 := HR.c2))
                  go_ret; exact qBL.bad HK.out HM SlN.nil HC.out HR
                | ok u k2 =>
                  have hgw := qB2 1 k1b (by decide) qDe u k2 hw; have hk2 : k1b < k2 := hgw.1; have hk2s : k2 ≤ s.size := hgw.2; have hov := qNK (f := qAJ s d) (x := (L.map (·.1), L.map fun p => er p.2)) HP.out HT.out HNN.out (by rw [← HK1B.out]; exact hw); have HOV := Lib.hid hov; have HW := Lib.hid hw; clear hw hgw hov; obtain ⟨k2b, hk2b⟩ : ∃ k2b, k2b = qAd s k2 := ⟨_, rfl⟩; (have hk2b1 : k2 ≤ k2b := by rw [hk2b]; exact qBJ); (have hk2b2 : k2b ≤ s.size := by rw [hk2b]; exact qBg hk2s); have HK2B := Lib.hid hk2b; clear hk2b
                  cases ho : qAJ s d k2b with
                  | bad c p =>
                    have HK := Lib.hid (hst.out c p (by rw [HOV.out, ← HK2B.out, ho]; rfl)); have HO := Lib.hid ho; clear ho hst hst2
                    go_wp2_with (first
                      | (go_at_call 50; (with_reducible refine (qAa HR hk1s hs).mono ?_); rintro e w2 ⟨rfl, hr, hm⟩; rw [← HK1B.out] at hr; replace HL := HL.mv hm hr; replace HM := HM.trans hm; clear HR hr hm; have HR := HL.rd; clear c0 c1 f1 c2; have c0 := HR.c0; have c1 := HR.c1; have f1 := HR.f1; have c2 := HR.c2)
                      | (go_at_call 74; (refine (qBr HR hk1b2 hs).mono ?_); rw [HW.out]; rintro e w5 ⟨hm, rfl, hr⟩; replace HL := HL.mv hm hr; replace HM := HM.trans hm; clear HR hr hm; have HR := HL.rd; clear c0 c1 f1 c2; have c0 := HR.c0; have c1 := HR.c1; have f1 := HR.f1; have c2 := HR.c2)
                      | (go_at_call 50; (with_reducible refine (qAa HR hk2s hs).mono ?_); rintro e w2 ⟨rfl, hr, hm⟩; rw [← HK2B.out] at hr; replace HL := HL.mv hm hr; replace HM := HM.trans hm; clear HR hr hm; have HR := HL.rd; clear c0 c1 f1 c2; have c0 := HR.c0; have c1 := HR.c1; have f1 := HR.f1; have c2 := HR.c2)
                      | (go_at_call 51; (refine (hval.at HR hk2b2 hs).mono ?_); rw [HO.out]; rintro e w5 ⟨hm, ⟨j, rfl⟩, hc, i3, hr⟩; have hc2 : (c == 0) = false := (by simpa using hc); have hc3 : (c != 0) = true := (by simpa using hc); have HC := Lib.hid hc; clear hc c0 c1 f1 c2; replace HR := hr; replace HM := HM.trans hm; clear hr hm; have c0 := HR.c0; have c1 := HR.c1; have f1 := HR.f1; have c2 := HR.c2)
                      | (refine qAO 13 rfl rfl 25 rfl rfl (.tmp 99) rfl _ qAY j.cells rfl rfl qAA rfl (qAP _) ?_; intro w7 hw; have hb := qAD hw; clear hw; replace HR := HR.below hb; replace HM := HM.trans (Mv.of hb); clear hb c0 c1 f1 c2; have c0 := HR.c0; have c1 := HR.c1; have f1 := HR.f1; have c2 := HR.c2))
                    go_ret; exact qBL.bad HK.out HM SlN.nil HC.out HR
                  | ok t k3 =>
                    have hg := qA8 d k2b t k3 ho; have hk3a : k2b < k3 := hg.1; have hk3 : k3 ≤ s.size := hg.2; have HO := Lib.hid ho; have hsm := hst2.out (L.map (·.1) ++ [nm], (L.map fun p => er p.2) ++ [t]) k3 (by rw [HOV.out, ← HK2B.out, ho]; rfl); clear hst hst2
                    have HNL2 : Hid (∀ p : ByteArray × JV, (p ∈ L ∨ p.1 = nm) → p.1.size ≤ qAy) := Lib.hid (fun p hp => by
                      rcases hp with hp | hp
                      · exact HNL.out p hp
                      · rw [hp]; exact hnmr.out)
                    cases hm : qB9 s 125 k3 with
                    | bad c p =>
                      have hc3 := qEy hm; subst hc3; have HK : Hid (qAx s 125 (qAg s (qAJ s d)) i ([], []) = .bad 3 p) := Lib.hid (by rw [hsm, hm]); have HMO := Lib.hid hm; clear ho hsm hm hg
                      go_wp2_with (first
                        | (go_at_call 50; (with_reducible refine (qAa HR hk1s hs).mono ?_); rintro e w2 ⟨rfl, hr, hm⟩; rw [← HK1B.out] at hr; replace HL := HL.mv hm hr; replace HM := HM.trans hm; clear HR hr hm; have HR := HL.rd; clear c0 c1 f1 c2; have c0 := HR.c0; have c1 := HR.c1; have f1 := HR.f1; have c2 := HR.c2)
                        | (go_at_call 74; (refine (qBr HR hk1b2 hs).mono ?_); rw [HW.out]; rintro e w5 ⟨hm, rfl, hr⟩; replace HL := HL.mv hm hr; replace HM := HM.trans hm; clear HR hr hm; have HR := HL.rd; clear c0 c1 f1 c2; have c0 := HR.c0; have c1 := HR.c1; have f1 := HR.f1; have c2 := HR.c2)
                        | (go_at_call 50; (with_reducible refine (qAa HR hk2s hs).mono ?_); rintro e w2 ⟨rfl, hr, hm⟩; rw [← HK2B.out] at hr; replace HL := HL.mv hm hr; replace HM := HM.trans hm; clear HR hr hm; have HR := HL.rd; clear c0 c1 f1 c2; have c0 := HR.c0; have c1 := HR.c1; have f1 := HR.f1; have c2 := HR.c2)
                        | (go_at_call 51; (refine (hval.at HR hk2b2 hs).mono ?_); rw [HO.out]; rintro e w5 ⟨hm, ⟨j, rfl, hj, hje, hjo⟩, hr⟩; have HJE := Lib.hid hje; have hwz2 := HM.size; have hjf : Off (fun q => q < w.heap.size ∨ (Value.slice A L.length cp).ownBlock = some q) j := Off.mono (fun q e => e.elim (fun e => Nat.lt_of_lt_of_le e hwz2) (fun e => (qAh HL.own e).2)) hjo; have HJF := Lib.hid hjf; clear hje hjf hjo hwz2; replace HL := HL.mv hm hr; replace HM := HM.trans hm; clear HR hr hm; have HR := HL.rd; clear c0 c1 f1 c2; have c0 := HR.c0; have c1 := HR.c1; have f1 := HR.f1; have c2 := HR.c2)
                        | (refine qAO 13 rfl rfl 25 rfl rfl (.tmp 99) rfl _ qAY j.cells rfl rfl qAA rfl (qAP _) ?_; intro w7 hw; have hb := qAD hw; have B8 := (qAC hw).1; clear hw; replace HL := HL.below hb; replace hj := qAi.below hb hj; replace HM := HM.trans (Mv.of hb); clear hb c0 c1 f1 c2 HR; have HR := HL.rd; have c0 := HR.c0; have c1 := HR.c1; have f1 := HR.f1; have c2 := HR.c2)
                        | ((with_reducible refine qAR ?_); refine qAL rfl 25 (.tmp 13) rfl _ rfl _ _ _ B8 Tryz.underlying25 rfl qAA ?_)
                        | ((with_reducible refine qAT ?_); refine qAK (vals := [(0, .string nm), (1, .agg j.cells)]) (qBQ nm j) rfl _ rfl rfl ?_)
                        | ((with_reducible refine qAm ?_); refine qAU 1 [(0, .agg (qBB (nm, j)))] (qBB (nm, j)) ie _ (by rw [hie3]; exact qBl (nm, j)) rfl 23 52 _ rfl rfl Tryz.underlying23 hie1 hie2 (by rw [hie3]; decide) (by rw [hie3]; decide) ?_; intro w9 hw; have hb := qAD hw; have B9 := (qAC hw).1; clear hw; replace HL := HL.below hb; replace hj := qAi.below hb hj; replace HM := HM.trans (Mv.of hb); clear hb c0 c1 f1 c2 HR; have HR := HL.rd; have c0 := HR.c0; have c1 := HR.c1; have f1 := HR.f1; have c2 := HR.c2)
                        | (at_builtin; refine qA4 rfl (.tmp 106) (.tmp 110) 23 rfl w.heap.size 52 ie _ 7 104 Tryz.underlying23 hie1 hie2 hie3 hie4 rfl (by decide) (.slice A L.length cp) L.length (qCB L) rfl HL.own _ 1 (qBB (nm, j)) _ B9 (qC6 _) rfl (qAw _) (by unfold maxLen; omega) (by omega) HL.st.2 ?_; intro v9 w10 ho9 hb9 hat9; have HL2 := qDd (HL.more ho9 hb9 hat9 hj HJF.out); replace HM := HM.own9 hb9 HL.own (Nat.le_refl _); clear HR HL hb9 ho9 hat9 B9 c0 c1 f1 c2; have HL := HL2; clear HL2; have HR := HL.rd; have c0 := HR.c0; have c1 := HR.c1; have f1 := HR.f1; have c2 := HR.c2)
                        | (go_at_call 94; (with_reducible refine (qBp HR hk3 hs (by decide)).mono ?_); rw [HMO.out]; rintro e w11 ⟨hm, rfl, hc, i3, hr⟩; clear c0 c1 f1 c2; replace HR := hr; have hown := HL.own; replace HM := HM.trans hm; clear hr hm hc; have c0 := HR.c0; have c1 := HR.c1; have f1 := HR.f1; have c2 := HR.c2))
                      go_ret; exact qBL.bad HK.out HM (SlN.own hown) (by decide) HR
                    | ok b k4 =>
                      have hgm := qEM (by decide) b k4 hm; have hk4 : k3 < k4 := hgm.1; have hk4s : k4 ≤ s.size := hgm.2; have HMO := Lib.hid hm; cases b
                      · have HK : Hid (qAx s 125 (qAg s (qAJ s d)) i ([], []) = .ok (L.map (·.1) ++ [nm], (L.map fun p => er p.2) ++ [t]) k4) := Lib.hid (by rw [hsm, hm]); clear ho hsm hm hg hgm
                        go_wp2_with (first
                          | (go_at_call 50; (with_reducible refine (qAa HR hk1s hs).mono ?_); rintro e w2 ⟨rfl, hr, hm⟩; rw [← HK1B.out] at hr; replace HL := HL.mv hm hr; replace HM := HM.trans hm; clear HR hr hm; have HR := HL.rd; clear c0 c1 f1 c2; have c0 := HR.c0; have c1 := HR.c1; have f1 := HR.f1; have c2 := HR.c2)
                          | (go_at_call 74; (refine (qBr HR hk1b2 hs).mono ?_); rw [HW.out]; rintro e w5 ⟨hm, rfl, hr⟩; replace HL := HL.mv hm hr; replace HM := HM.trans hm; clear HR hr hm; have HR := HL.rd; clear c0 c1 f1 c2; have c0 := HR.c0; have c1 := HR.c1; have f1 := HR.f1; have c2 := HR.c2)
                          | (go_at_call 50; (with_reducible refine (qAa HR hk2s hs).mono ?_); rintro e w2 ⟨rfl, hr, hm⟩; rw [← HK2B.out] at hr; replace HL := HL.mv hm hr; replace HM := HM.trans hm; clear HR hr hm; have HR := HL.rd; clear c0 c1 f1 c2; have c0 := HR.c0; have c1 := HR.c1; have f1 := HR.f1; have c2 := HR.c2)
                          | (go_at_call 51; (refine (hval.at HR hk2b2 hs).mono ?_); rw [HO.out]; rintro e w5 ⟨hm, ⟨j, rfl, hj, hje, hjo⟩, hr⟩; have HJE := Lib.hid hje; have hwz2 := HM.size; have hjf : Off (fun q => q < w.heap.size ∨ (Value.slice A L.length cp).ownBlock = some q) j := Off.mono (fun q e => e.elim (fun e => Nat.lt_of_lt_of_le e hwz2) (fun e => (qAh HL.own e).2)) hjo; have HJF := Lib.hid hjf; clear hje hjf hjo hwz2; replace HL := HL.mv hm hr; replace HM := HM.trans hm; clear HR hr hm; have HR := HL.rd; clear c0 c1 f1 c2; have c0 := HR.c0; have c1 := HR.c1; have f1 := HR.f1; have c2 := HR.c2)
                          | (refine qAO 13 rfl rfl 25 rfl rfl (.tmp 99) rfl _ qAY j.cells rfl rfl qAA rfl (qAP _) ?_; intro w7 hw; have hb := qAD hw; have B8 := (qAC hw).1; clear hw; replace HL := HL.below hb; replace hj := qAi.below hb hj; replace HM := HM.trans (Mv.of hb); clear hb c0 c1 f1 c2 HR; have HR := HL.rd; have c0 := HR.c0; have c1 := HR.c1; have f1 := HR.f1; have c2 := HR.c2)
                          | ((with_reducible refine qAR ?_); refine qAL rfl 25 (.tmp 13) rfl _ rfl _ _ _ B8 Tryz.underlying25 rfl qAA ?_)
                          | ((with_reducible refine qAT ?_); refine qAK (vals := [(0, .string nm), (1, .agg j.cells)]) (qBQ nm j) rfl _ rfl rfl ?_)
                          | ((with_reducible refine qAm ?_); refine qAU 1 [(0, .agg (qBB (nm, j)))] (qBB (nm, j)) ie _ (by rw [hie3]; exact qBl (nm, j)) rfl 23 52 _ rfl rfl Tryz.underlying23 hie1 hie2 (by rw [hie3]; decide) (by rw [hie3]; decide) ?_; intro w9 hw; have hb := qAD hw; have B9 := (qAC hw).1; clear hw; replace HL := HL.below hb; replace hj := qAi.below hb hj; replace HM := HM.trans (Mv.of hb); clear hb c0 c1 f1 c2 HR; have HR := HL.rd; have c0 := HR.c0; have c1 := HR.c1; have f1 := HR.f1; have c2 := HR.c2)
                          | (at_builtin; refine qA4 rfl (.tmp 106) (.tmp 110) 23 rfl w.heap.size 52 ie _ 7 104 Tryz.underlying23 hie1 hie2 hie3 hie4 rfl (by decide) (.slice A L.length cp) L.length (qCB L) rfl HL.own _ 1 (qBB (nm, j)) _ B9 (qC6 _) rfl (qAw _) (by unfold maxLen; omega) (by omega) HL.st.2 ?_; intro v9 w10 ho9 hb9 hat9; have HL2 := qDd (HL.more ho9 hb9 hat9 hj HJF.out); replace HM := HM.own9 hb9 HL.own (Nat.le_refl _); clear HR HL hb9 ho9 hat9 B9 c0 c1 f1 c2; have HL := HL2; clear HL2; have HR := HL.rd; have c0 := HR.c0; have c1 := HR.c1; have f1 := HR.f1; have c2 := HR.c2)
                          | (go_at_call 94; (with_reducible refine (qBp HR hk3 hs (by decide)).mono ?_); rw [HMO.out]; rintro e w11 ⟨hm, rfl, hr⟩; clear c0 c1 f1 c2; replace HL := HL.mv hm hr; replace HM := HM.trans hm; clear HR hr hm; have HR := HL.rd; have c0 := HR.c0; have c1 := HR.c1; have f1 := HR.f1; have c2 := HR.c2))
                        go_ret
                        exact qBL.ok HK.out HM (by
                          have hh := RoV.of HL (qD6 HNL2.out) (by unfold qAy; simp; omega); rw [List.map_append, List.map_append] at hh
                          rw [← HJE.out]; exact hh) HR
                      · have HK : Hid (qBU s 125 (qAg s (qAJ s d)) n2 k4 (L.map (·.1) ++ [nm], (L.map fun p => er p.2) ++ [t]) = qAx s 125 (qAg s (qAJ s d)) i ([], [])) := Lib.hid (by rw [hsm, hm]); clear ho hsm hm hg hgm
                        go_wp2_with (first
                          | (go_at_call 50; (with_reducible refine (qAa HR hk1s hs).mono ?_); rintro e w2 ⟨rfl, hr, hm⟩; rw [← HK1B.out] at hr; replace HL := HL.mv hm hr; replace HM := HM.trans hm; clear HR hr hm; have HR := HL.rd; clear c0 c1 f1 c2; have c0 := HR.c0; have c1 := HR.c1; have f1 := HR.f1; have c2 := HR.c2)
                          | (go_at_call 74; (refine (qBr HR hk1b2 hs).mono ?_); rw [HW.out]; rintro e w5 ⟨hm, rfl, hr⟩; replace HL := HL.mv hm hr; replace HM := HM.trans hm; clear HR hr hm; have HR := HL.rd; clear c0 c1 f1 c2; have c0 := HR.c0; have c1 := HR.c1; have f1 := HR.f1; have c2 := HR.c2)
                          | (go_at_call 50; (with_reducible refine (qAa HR hk2s hs).mono ?_); rintro e w2 ⟨rfl, hr, hm⟩; rw [← HK2B.out] at hr; replace HL := HL.mv hm hr; replace HM := HM.trans hm; clear HR hr hm; have HR := HL.rd; clear c0 c1 f1 c2; have c0 := HR.c0; have c1 := HR.c1; have f1 := HR.f1; have c2 := HR.c2)
                          | (go_at_call 51; (refine (hval.at HR hk2b2 hs).mono ?_); rw [HO.out]; rintro e w5 ⟨hm, ⟨j, rfl, hj, hje, hjo⟩, hr⟩; have HJE := Lib.hid hje; have hwz2 := HM.size; have hjf : Off (fun q => q < w.heap.size ∨ (Value.slice A L.length cp).ownBlock = some q) j := Off.mono (fun q e => e.elim (fun e => Nat.lt_of_lt_of_le e hwz2) (fun e => (qAh HL.own e).2)) hjo; have HJF := Lib.hid hjf; clear hje hjf hjo hwz2; replace HL := HL.mv hm hr; replace HM := HM.trans hm; clear HR hr hm; have HR := HL.rd; clear c0 c1 f1 c2; have c0 := HR.c0; have c1 := HR.c1; have f1 := HR.f1; have c2 := HR.c2)
                          | (refine qAO 13 rfl rfl 25 rfl rfl (.tmp 99) rfl _ qAY j.cells rfl rfl qAA rfl (qAP _) ?_; intro w7 hw; have hb := qAD hw; have B8 := (qAC hw).1; clear hw; replace HL := HL.below hb; replace hj := qAi.below hb hj; replace HM := HM.trans (Mv.of hb); clear hb c0 c1 f1 c2 HR; have HR := HL.rd; have c0 := HR.c0; have c1 := HR.c1; have f1 := HR.f1; have c2 := HR.c2)
                          | ((with_reducible refine qAR ?_); refine qAL rfl 25 (.tmp 13) rfl _ rfl _ _ _ B8 Tryz.underlying25 rfl qAA ?_)
                          | ((with_reducible refine qAT ?_); refine qAK (vals := [(0, .string nm), (1, .agg j.cells)]) (qBQ nm j) rfl _ rfl rfl ?_)
                          | ((with_reducible refine qAm ?_); refine qAU 1 [(0, .agg (qBB (nm, j)))] (qBB (nm, j)) ie _ (by rw [hie3]; exact qBl (nm, j)) rfl 23 52 _ rfl rfl Tryz.underlying23 hie1 hie2 (by rw [hie3]; decide) (by rw [hie3]; decide) ?_; intro w9 hw; have hb := qAD hw; have B9 := (qAC hw).1; clear hw; replace HL := HL.below hb; replace hj := qAi.below hb hj; replace HM := HM.trans (Mv.of hb); clear hb c0 c1 f1 c2 HR; have HR := HL.rd; have c0 := HR.c0; have c1 := HR.c1; have f1 := HR.f1; have c2 := HR.c2)
                          | (at_builtin; refine qA4 rfl (.tmp 106) (.tmp 110) 23 rfl w.heap.size 52 ie _ 7 104 Tryz.underlying23 hie1 hie2 hie3 hie4 rfl (by decide) (.slice A L.length cp) L.length (qCB L) rfl HL.own _ 1 (qBB (nm, j)) _ B9 (qC6 _) rfl (qAw _) (by unfold maxLen; omega) (by omega) HL.st.2 ?_; intro v9 w10 ho9 hb9 hat9; have HL2 := qDd (HL.more ho9 hb9 hat9 hj HJF.out); replace HM := HM.own9 hb9 HL.own (Nat.le_refl _); clear HR HL hb9 ho9 hat9 B9 c0 c1 f1 c2; have HL := HL2; clear HL2; have HR := HL.rd; have c0 := HR.c0; have c1 := HR.c1; have f1 := HR.f1; have c2 := HR.c2)
                          | (go_at_call 94; (with_reducible refine (qBp HR hk3 hs (by decide)).mono ?_); rw [HMO.out]; rintro e w11 ⟨hm, rfl, hr⟩; clear c0 c1 f1 c2; replace HL := HL.mv hm hr; replace HM := HM.trans hm; clear HR hr hm; have HR := HL.rd; have c0 := HR.c0; have c1 := HR.c1; have f1 := HR.f1; have c2 := HR.c2))
                        go_roundw
                        case rel => exact ⟨k4, n2, _, L ++ [(nm, j)], rfl, hk4s, HL, by rw [List.map_append, List.map_append]; show Hid (qBU _ _ _ _ _ (L.map (·.1) ++ [nm], (L.map fun p => er p.2) ++ [er j]) = _); rw [HJE.out]; exact HK, by omega, by simp; omega, Lib.hid (qD6 HNL2.out), HM⟩
                        case measure => rw [HR.at, hat]; omega
        · (have q34 : (bt s k == 34) = false := by simpa using h34); (have p34 : (bt s k != 34) = true := by simpa using h34); have HK := Lib.hid (hst.out _ _ (qMN (by rw [hpk]; exact h34))); have HC : Hid ((3 : Int) ≠ 0) := Lib.hid (by decide); clear hpk h34 hst hst2
          go_wp2_with (first
            | (go_at_call 72; (with_reducible refine (qAS HR hlt).mono ?_); rintro e w2 ⟨rfl, hr, hm⟩; replace HL := HL.mv hm hr; replace HM := HM.trans hm; clear HR hr hm; have HR := HL.rd; clear c0 c1 f1 c2; have c0 := HR.c0; have c1 := HR.c1; have f1 := HR.f1; have c2 := HR.c2)
            | (go_at_call 73; (with_reducible refine (qAj _ _ HR).mono ?_); rintro e w3 ⟨rfl, hr, hm⟩; clear c0 c1 f1 c2; replace HR := hr; replace HM := HM.trans hm; have c0 := HR.c0; have c1 := HR.c1; have f1 := HR.f1; have c2 := HR.c2))
          go_ret; exact qBL.bad HK.out HM SlN.nil HC.out HR
      · have HK := Lib.hid (hst.out _ _ (qMN (by rw [qBb (by omega)]; decide))); have HC : Hid ((3 : Int) ≠ 0) := Lib.hid (by decide); clear hst hst2
        go_wp2_with (first
          | (go_at_call 72; (with_reducible refine (qBT HR hlt).mono ?_); rintro e w2 ⟨rfl, hr, hm⟩; replace HL := HL.mv hm hr; replace HM := HM.trans hm; clear HR hr hm; have HR := HL.rd; clear c0 c1 f1 c2; have c0 := HR.c0; have c1 := HR.c1; have f1 := HR.f1; have c2 := HR.c2)
          | (go_at_call 73; (with_reducible refine (qAj _ _ HR).mono ?_); rintro e w3 ⟨rfl, hr, hm⟩; clear c0 c1 f1 c2; replace HR := hr; replace HM := HM.trans hm; have c0 := HR.c0; have c1 := HR.c1; have f1 := HR.f1; have c2 := HR.c2))
        go_ret; exact qBL.bad HK.out HM SlN.nil HC.out HR
end Go.Proofs.YtnjhmnolngdfaaaGreatDoor
