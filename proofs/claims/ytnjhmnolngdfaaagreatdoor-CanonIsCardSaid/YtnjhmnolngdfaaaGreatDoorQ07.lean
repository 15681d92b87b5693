/- Layer 2: strings.Builder at this translation: a rune is written. Layer 2: a text. Layer 2: what stands between two brackets, whatever reads one of them. Layer 2: a value under way: its box, the row -/
import Derived.Lib.Builder
import Derived.Lib.FrozenHead
import Derived.Lib.OthersKept
import Derived.Laws.Externs
import Derived.Test.YtnjhmnolngdfaaaGreatDoorQ06
import Derived.Test.YtnjhmnolngdfaaaGreatDoorQ01
import Derived.Test.YtnjhmnolngdfaaaGreatDoorQZip
set_option linter.unusedVariables false
set_option linter.unusedSimpArgs false
set_option maxHeartbeats 16000000
set_option maxRecDepth 100000
namespace Go.Proofs.YtnjhmnolngdfaaaGreatDoor
open Go.RowKit Go.PlainAid
theorem qEg : (Tryz.prog.info? 76).map (·.size) = some 2 := by kernel_rfl
theorem qHD : liesAt Tryz.prog Tryz.prog.depth 76 (2 / Tryz.prog.cellsOf 76) 0 76 1 = true := by kernel_rfl
theorem qFL {b : Nat} {w : World} (h0 : w.cell? ⟨b, 0, none⟩ = some (.pointer (some ⟨b, 0, none⟩))) :
    Calls Tryz.prog 87 #[At b] w fun e w' => e = .returned (.tuple #[]) ∧ w' = w := by
  obtain ⟨j, hj, _⟩ := Option.map_eq_some_iff.1 qEg; go_enter Tryz.func87, Tryz.ntmps87; go_wp2; rw [Lib.run_neq_ptr_same w _ Tryz.underlying74 hj]; go_wp2
  go_end0
  exact ⟨rfl, rfl⟩
theorem qEl {b : Nat} {w : World} (h0 : w.cell? ⟨b, 0, none⟩ = some (.pointer none)) (hsh : w.shape? b = some (76, 2)) (hf : w.frozen? ⟨b, 0, none⟩ = false) :
    Calls Tryz.prog 87 #[At b] w fun e w' => e = .returned (.tuple #[]) ∧ w' = w.setCell ⟨b, 0, none⟩ (.pointer (some ⟨b, 0, none⟩)) := by
  obtain ⟨j, hj, hjs⟩ := Option.map_eq_some_iff.1 qEg; go_enter Tryz.func87, Tryz.ntmps87; go_wp2; rw [Lib.run_to_unsafe w ⟨b, 0, none⟩ Tryz.underlying74 Tryz.underlying136 hj (by rw [hjs]; decide) hsh (Nat.zero_lt_succ 1)]; simp only [Result.andThen]; rw [Oper.upon_value]; go_wp2; rw [run_callFunc_extern Tryz.func106 (by kernel_rfl) (by kernel_rfl) (by kernel_rfl) (e := Extern.AbiNoEscape.same) (by kernel_rfl)]; rw [Lib.run_noEscape]; simp only [Result.andThen]; rw [Oper.upon_value]; go_wp2; rw [Lib.run_from_unsafe w ⟨b, 0, none⟩ Tryz.underlying136 Tryz.underlying74 hj hsh qHD]; simp only [Result.andThen]; rw [Oper.upon_value]; go_wp2
  go_end0
  exact ⟨rfl, rfl⟩
abbrev BAt (B b : Nat) (bs : List Value) (w : World) : Prop := Lib.BuilderAtF 76 5 B b (At b) bs w
abbrev IsB (B b : Nat) (bs : List Value) (w : World) : Prop := Lib.IsBuilderF 76 5 B b bs w
theorem qJn {B b : Nat} {bs : List Value} {w : World} (h : IsB B b bs w) : Calls Tryz.prog 87 #[At b] w fun e w' => e = .returned (.tuple #[]) ∧ BAt B b bs w' ∧ Below B w w' := by
  rcases h with h | h
  · refine (qEl h.cell0 h.shape h.frozen0).mono ?_; rintro e w' ⟨rfl, rfl⟩; exact ⟨rfl, h.used _, (Below.refl B w).setCell (p := ⟨b, 0, none⟩) h.1 _⟩
  · refine (qFL h.cell0).mono ?_; rintro e w' ⟨rfl, rfl⟩; exact ⟨rfl, h, Below.refl B _⟩
theorem qOI {w : World} {B : Nat} {e : TypeId} {size : Nat} {v : Value} {n : Nat} {xs : List Value} (h : w.ownsRowF B e size v n xs) {k : Nat} (hk : v.ownBlock = some k) : B ≤ k := by
  rcases h.2 with ⟨hv, _⟩ | ⟨g, cap, cur, fz, hv, hb, _⟩
  · subst hv; cases hk
  · subst hv; have : g = k := Option.some.inj hk; omega
theorem qFA {B b : Nat} {bs : List Value} {x : Int} {w : World} (h : IsB B b bs w) (hx0 : -2147483648 ≤ x) (hx1 : x ≤ 2147483647) (hlen : bs.length + 4 ≤ 140737488355328) (hB : B ≤ w.heap.size) :
    Calls Tryz.prog 81 #[At b, .int .i32 x] w fun e w' => (∃ n, e = .returned (.tuple #[.int .i64 n, .nilIface])) ∧ IsB B b (bs ++ Lib.runeCells x) w' ∧ Below B w w' := by
  have hk4 := Lib.runeCells_le x; go_enter Tryz.func81, Tryz.ntmps81
  go_wp2_with (go_at_call 87; (with_reducible refine (qJn h).mono ?_); rintro e w1 ⟨rfl, h1, hb1⟩; obtain ⟨hBb, v, hbk, hown, hne⟩ := h1; obtain ⟨ao, cap, rfl⟩ : ∃ ao cap, v = .slice ao bs.length cap := (by
    rcases hown.2 with ⟨hv, h0⟩ | ⟨g, cap, cur, fz, hv, _⟩
    · exact ⟨none, 0, by rw [hv, h0]⟩
    · exact ⟨_, _, hv⟩); have c0 : w1.cell? ⟨b, 0, none⟩ = some (At b) := (by rw [Lib.cell_of_heap hbk]; rfl); have c1 : w1.cell? ⟨b, 1, none⟩ = some (.slice ao bs.length cap) := (by rw [Lib.cell_of_heap hbk]; rfl))
  go_at_call 98
  refine (Tryz.utf8_AppendRune_row B _ bs.length bs x hx0 hx1 _ hown hlen (Nat.le_trans hB hb1.size)).mono ?_; rintro e w2 ⟨v', rfl, hown', o, hgrow⟩; have hlt : b < w1.heap.size := qAW.lt hbk
  have hb2 : w2.heap[b]? = some (.cells #[At b, .slice ao bs.length cap] 76 (0, 0)) := by
    rw [hgrow.block b (by simp; omega) (fun e => hne e.symm), Lib.alloc_old w1 _ b hlt]; exact hbk
  (have d0 : w2.cell? ⟨b, 0, none⟩ = some (At b) := by rw [Lib.cell_of_heap hb2]; rfl); (have d1 : w2.cell? ⟨b, 1, none⟩ = some (.slice ao bs.length cap) := by rw [Lib.cell_of_heap hb2]; rfl); have f1 : w2.frozen? ⟨b, 1, none⟩ = false := Lib.frozen_of_heap hb2 1
  obtain ⟨g, cap', rfl⟩ : ∃ g cap', v' = .slice (some ⟨g, 0, none⟩) (bs.length + (Lib.runeCells x).length) cap' := by
    rcases hown'.2 with ⟨_, h0⟩ | ⟨g, cap', cur, fz, hv, _⟩
    · omega
    · exact ⟨g, cap', hv⟩
  have hb12 : Below B w1 w2 := by
    have h0 := (Below.refl B w1).alloc (Nat.le_trans hB hb1.size) o; exact h0.grown hgrow (by have := hb1.size; simp; omega) (fun k hk => qOI hown hk)
  go_wp2; go_ret2; refine ⟨⟨_, rfl⟩, Or.inr ?_, (hb1.trans hb12).setCell (p := ⟨b, 1, none⟩) hBb _⟩; exact Lib.BuilderAtF.put (T := 76) (e := 5) hBb hb2 (bs' := bs ++ Lib.runeCells x) (by simpa using hown') (by decide)
end Go.Proofs.YtnjhmnolngdfaaaGreatDoor
namespace Go.Proofs.YtnjhmnolngdfaaaGreatDoor
open Go.RowKit Go.PlainAid
theorem Rd.low {w w' : World} {r B : Nat} {s : ByteArray} {i : Nat} (h : Rd w r s i) (hb : Below B w w') (hr : r < B) : Rd w' r s i := qAW.below h hb hr
theorem Mv.low {r B : Nat} {w a w' : World} (h : Mv r w a) (hb : Below B a w') (hB : w.heap.size ≤ B) : Mv r w w' :=
  ⟨hb.os.trans h.os, hb.tape.trans h.tape, hb.output.trans h.output, Nat.le_trans h.size hb.size, fun k hk hn => (hb.block k (Nat.lt_of_lt_of_le hk hB)).trans (h.block k hk hn)⟩
theorem IsB.mv {r B b : Nat} {bs : List Value} {w w' : World} (h : IsB B b bs w) (hm : Mv r w w') (hr : r < B) : IsB B b bs w' := by
  have key : ∀ p, Lib.BuilderAtF 76 5 B b p bs w → Lib.BuilderAtF 76 5 B b p bs w' := by
    rintro p ⟨hB, v, hbk, hown, hne⟩; have hbl := qAW.lt hbk; refine ⟨hB, v, (hm.block b hbl (by omega)).trans hbk, ⟨hown.1, ?_⟩, hne⟩; rcases hown.2 with h0 | ⟨g, cap, cur, fz, hv, hg, hh, rest⟩
    · exact .inl h0
    · have hgl : g < w.heap.size := (Array.getElem?_eq_some_iff.1 hh).1; exact .inr ⟨g, cap, cur, fz, hv, hg, (hm.block g hgl (by omega)).trans hh, rest⟩
  exact h.elim (fun x => .inl (key _ x)) (fun x => .inr (key _ x))
theorem qHO : (Tryz.prog.info? 76).map (fun i => (i.zero, i.size)) = some (some (.agg #[.pointer none, .slice none 0 0]), 2) := by kernel_rfl
theorem qNi (w : World) : (zeroValue 76).run Tryz.prog w = .ok (.agg #[.pointer none, .slice none 0 0]) w := (Go.zero_of_info qHO).1 w
theorem qHq {s : ByteArray} {i : Nat} {x : Int} {k : Nat} (h : qA0 s i = .ok x k) : 0 ≤ x ∧ x ≤ 1114111 := by
 unfold qA0 at h
 split at h
 ·rename_i h1; injection h with h2 _; (have h3 : qEu (pk s i) ≤ 92 := by unfold qEu; repeat' split; all_goals omega); omega
 ·split at h
  ·cases h
  ·split at h
   ·cases h
   ·rename_i n k1 hk; obtain ⟨_, hn0, hn1⟩ := qGY 4 _ 0 n k1 hk (by omega); have hn2 : n < 65536 := by simpa using hn1
    split at h
    ·injection h with h2 _; omega
    ·split at h
     ·split at h
      ·cases h
      ·split at h
       ·injection h with h2 _; omega
       ·cases h
     ·cases h
theorem qMl (s : ByteArray) (i : Nat) : (Utf8.decode s i).1 ≤ 1114111 := by
 unfold Utf8.decode; simp only
 split
 ·show _ ≤ 1114111; rename_i h; omega
 ·split
  ·split
   ·show _ ≤ 1114111; omega
   ·decide
  ·split
   ·split
    ·show _ ≤ 1114111; omega
    ·decide
   ·split
    ·split
     ·rename_i h; simp only [Bool.and_eq_true, Bool.or_eq_true, Utf8.valid, decide_eq_true_eq] at h; show _ ≤ 1114111; omega
     ·decide
    ·decide
theorem qKf {s : ByteArray} {n k : Nat} {acc : List UInt8} (h : pk s k < 32) : qBM s (n + 1) k acc = .bad 3 k := by unfold qBM; rw [if_pos h]
theorem qLu {s : ByteArray} {n k : Nat} {acc : List UInt8} (h : pk s k = 34) : qBM s (n + 1) k acc = .ok ⟨acc.toArray⟩ (k + 1) := by unfold qBM; rw [if_neg (by omega), if_pos h]
theorem qGa {s : ByteArray} {n k : Nat} {acc : List UInt8} {c : Int} {p : Nat} (h : pk s k = 92) (hc : qA0 s (k + 1) = .bad c p) : qBM s (n + 1) k acc = .bad c p := by
  unfold qBM; rw [if_neg (by omega), if_neg (by omega), if_pos h, hc]
theorem qKD {s : ByteArray} {n k : Nat} {acc : List UInt8} {x : Int} {q : Nat} (h : pk s k = 92) (hc : qA0 s (k + 1) = .ok x q) : qBM s (n + 1) k acc = qBM s n q (acc ++ Lib.encodeRune x) := by
  conv => lhs; unfold qBM
  rw [if_neg (by omega), if_neg (by omega), if_pos h, hc]
theorem qKo {s : ByteArray} {n k : Nat} {acc : List UInt8} (h1 : ¬ pk s k < 32) (h2 : ¬ pk s k = 34) (h3 : ¬ pk s k = 92) (h4 : (Utf8.decode s k).1 = 65533 ∧ (Utf8.decode s k).2 ≤ 1) : qBM s (n + 1) k acc = .bad 7 k := by
  unfold qBM; rw [if_neg h1, if_neg h2, if_neg h3, if_pos h4]
theorem qMJ {s : ByteArray} {n k : Nat} {acc : List UInt8} (h1 : ¬ pk s k < 32) (h2 : ¬ pk s k = 34) (h3 : ¬ pk s k = 92) (h4 : ¬ ((Utf8.decode s k).1 = 65533 ∧ (Utf8.decode s k).2 ≤ 1)) : qBM s (n + 1) k acc = qBM s n (k + (Utf8.decode s k).2) (acc ++ Lib.encodeRune ((Utf8.decode s k).1 : Nat)) := by
  conv => lhs; unfold qBM
  rw [if_neg h1, if_neg h2, if_neg h3, if_neg h4]
abbrev Txt (t : ByteArray) (e : Ending) (_ : World) : Prop := e = .returned (.string t)
theorem qDA {w : World} {r : Nat} {s : ByteArray} {i : Nat} (h : Rd w r s i) (hG : Gl w r) (hi : i < s.size) (hs : s.size ≤ 65536) :
    Calls Tryz.prog 58 #[At r] w (Got (qBK s i) r s w Txt) := by
  have HR := h; have HM := Mv.refl r w; have c0 := HR.c0; have c1 := HR.c1; have f1 := HR.f1; obtain ⟨j, hj⟩ : ∃ j, j = i + 1 := ⟨_, rfl⟩; have HJ := Lib.hid hj; (have hjs : j ≤ s.size := by omega); have HT : Hid (qBK s i = qBM s (s.size + 1) j []) := Lib.hid (by rw [hj]; rfl); clear hj; go_enter Tryz.func58, Tryz.ntmps58
  go_wp2_with (first
    | ((with_reducible refine qAF ?_); refine qCG rfl (.tmp 13) (.tmp 11) rfl rfl j (by rw [HJ.out]; rfl) HR ?_; intro w2 hr2 hm2; replace HR := hr2; (try replace HI := IsB.mv HI hm2 hrb); (try replace hbs := Nat.le_trans hbs hm2.size); replace HM := HM.trans hm2; clear hr2 hm2; replace c0 := HR.c0; replace c1 := HR.c1; replace f1 := HR.f1)
    | ((with_reducible refine qAG ?_); refine qAE rfl 76 rfl _ qNi ?_; intro w3 hw; have HI := Lib.IsBuilderF.of (Lib.fresh_isBuilder 76 5 w2); have hwo := hw.out; rw [← hwo] at HI; clear hwo; have hb := qAD hw; clear hw; have hrb := HR.lt; have hwb := HM.size; have hbs := hb.size; replace HR := HR.below hb; replace HM := HM.trans (Mv.of hb); clear hb; replace c0 := HR.c0; replace c1 := HR.c1; replace f1 := HR.f1))
  have HI0 : IsB _ _ (Lib.byteCells []) _ := HI; clear HI; simp only [Act.put, List.setIfInBounds_toArray, List.set_cons_zero, List.set_cons_succ]
  go_loopw [] (fun wr => ∃ (k n : Nat) (acc : List UInt8), k ≤ s.size ∧ Rd wr r s k ∧ Mv r w wr ∧ IsB w2.heap.size w2.heap.size (Lib.byteCells acc) wr ∧ w2.heap.size ≤ wr.heap.size ∧ s.size < k + n ∧ acc.length ≤ 4 * k ∧ Hid (qBM s n k acc = qBK s i)) (fun wr => s.size - qHW wr r)
  case atStart => exact ⟨j, s.size + 1, [], hjs, HR, HM, HI0, hbs, by omega, by simp, Lib.hid HT.out.symm⟩
  case round =>
    clear HI0 hbs c0 c1 f1 HR HM; obtain ⟨k, n, acc, hk, HR, HM, HI, hbs, hkn, hal, HS⟩ := hrel; have c0 := HR.c0; have c1 := HR.c1; have f1 := HR.f1; have hat := HR.at; (have hln : (Lib.byteCells acc).length + 4 ≤ 140737488355328 := by rw [Lib.byteCells_length]; omega); obtain ⟨n2, hn2⟩ : ∃ n2, n = n2 + 1 := ⟨n - 1, by omega⟩; subst hn2
    by_cases h32 : pk s k < 32
    · have HK := Lib.hid (HS.out.symm.trans (qKf (n := n2) (acc := acc) h32))
      go_wp2_with (first
        | (go_at_call 55; (with_reducible refine (qBC HR).mono ?_); rintro e w1 ⟨rfl, hb⟩; replace HR := HR.below hb; (try replace HI := IsB.mv HI (Mv.of (r := r) hb) hrb); (try replace hbs := Nat.le_trans hbs hb.size); replace HM := HM.trans (Mv.of hb); clear hb; replace c0 := HR.c0; replace c1 := HR.c1; replace f1 := HR.f1)
        | (go_at_call 39; (with_reducible refine (qAz _ _ _ _).mono ?_); rintro e w5 ⟨⟨g, rfl, hg⟩, hb⟩))
      exact ⟨rfl, Got.bad HK.out (HM.trans (Mv.of hb)) ⟨g, rfl, hg⟩⟩
    · have hks : k < s.size := qCn (by omega); obtain ⟨k2, hk2⟩ : ∃ k2, k2 = k + 1 := ⟨_, rfl⟩; have HK2 := Lib.hid hk2; (have hk2s : k2 ≤ s.size := by omega); (have hk2p : 1 ≤ k2 := by omega); have hk2k : k < k2 := by omega
      by_cases h34 : pk s k = 34
      · have HK : Hid (qBK s i = .ok ⟨acc.toArray⟩ k2) := Lib.hid (HS.out.symm.trans (by rw [hk2]; exact qLu h34)); clear hk2
        go_wp2_with (first
          | (go_at_call 55; (with_reducible refine (qBC HR).mono ?_); rintro e w1 ⟨rfl, hb⟩; replace HR := HR.below hb; (try replace HI := IsB.mv HI (Mv.of (r := r) hb) hrb); (try replace hbs := Nat.le_trans hbs hb.size); replace HM := HM.trans (Mv.of hb); clear hb; replace c0 := HR.c0; replace c1 := HR.c1; replace f1 := HR.f1)
          | ((with_reducible refine qAF ?_); refine qCG rfl (.tmp 69) (.tmp 67) rfl rfl k2 (by rw [HK2.out]; rfl) HR ?_; intro w2 hr2 hm2; replace HR := hr2; (try replace HI := IsB.mv HI hm2 hrb); (try replace hbs := Nat.le_trans hbs hm2.size); replace HM := HM.trans hm2; clear hr2 hm2; replace c0 := HR.c0; replace c1 := HR.c1; replace f1 := HR.f1)
          | (go_at_call 45; (with_reducible refine (Tryz.Builder_String_any_k _ _ acc _ HI hbs).mono ?_); rintro e w6 ⟨rfl, HI6, hb6, _⟩; replace HR := Rd.low HR hb6 hrb; replace HM := HM.low hb6 hwb; clear hb6 HI6))
        refine bodyPost_ret (results_tmp rfl _ _ _) rfl ?_; exact Got.ok HK.out HM rfl HR
      · by_cases h92 : pk s k = 92
        · cases ho : qA0 s k2 with
          | bad c p =>
            have HK : Hid (qBK s i = .bad c p) := Lib.hid (HS.out.symm.trans (qGa h92 (by rw [← hk2]; exact ho))); clear hk2
            go_wp2_with (first
              | (go_at_call 55; (with_reducible refine (qBC HR).mono ?_); rintro e w1 ⟨rfl, hb⟩; replace HR := HR.below hb; (try replace HI := IsB.mv HI (Mv.of (r := r) hb) hrb); (try replace hbs := Nat.le_trans hbs hb.size); replace HM := HM.trans (Mv.of hb); clear hb; replace c0 := HR.c0; replace c1 := HR.c1; replace f1 := HR.f1)
              | ((with_reducible refine qAF ?_); refine qCG rfl (.tmp 80) (.tmp 78) rfl rfl k2 (by rw [HK2.out]; rfl) HR ?_; intro w2 hr2 hm2; replace HR := hr2; (try replace HI := IsB.mv HI hm2 hrb); (try replace hbs := Nat.le_trans hbs hm2.size); replace HM := HM.trans hm2; clear hr2 hm2; replace c0 := HR.c0; replace c1 := HR.c1; replace f1 := HR.f1)
              | (go_at_call 82; have HG4 := hG.mv HM; (with_reducible refine (qI1 HR HG4 hk2s hk2p hs).mono ?_); rw [ho]; rintro e w4 ⟨hm, ⟨g, rfl, hg⟩⟩; replace HM := HM.trans hm))
            exact ⟨rfl, Got.bad HK.out HM ⟨g, rfl, hg⟩⟩
          | ok x k3 =>
            have hgo := qCT x k3 ho; have hxb := qHq ho; (have hx0 : -2147483648 ≤ x := by omega); (have hx1 : x ≤ 2147483647 := by omega); have HS2 : Hid (qBM s n2 k3 (acc ++ Lib.encodeRune x) = qBK s i) := Lib.hid (by rw [← HS.out]; exact (qKD h92 (by rw [← hk2]; exact ho)).symm); clear hk2
            go_wp2_with (first
              | (go_at_call 55; (with_reducible refine (qBC HR).mono ?_); rintro e w1 ⟨rfl, hb⟩; replace HR := HR.below hb; (try replace HI := IsB.mv HI (Mv.of (r := r) hb) hrb); (try replace hbs := Nat.le_trans hbs hb.size); replace HM := HM.trans (Mv.of hb); clear hb; replace c0 := HR.c0; replace c1 := HR.c1; replace f1 := HR.f1)
              | ((with_reducible refine qAF ?_); refine qCG rfl (.tmp 80) (.tmp 78) rfl rfl k2 (by rw [HK2.out]; rfl) HR ?_; intro w2 hr2 hm2; replace HR := hr2; (try replace HI := IsB.mv HI hm2 hrb); (try replace hbs := Nat.le_trans hbs hm2.size); replace HM := HM.trans hm2; clear hr2 hm2; replace c0 := HR.c0; replace c1 := HR.c1; replace f1 := HR.f1)
              | (go_at_call 82; have HG4 := hG.mv HM; (with_reducible refine (qI1 HR HG4 hk2s hk2p hs).mono ?_); rw [ho]; rintro e w4 ⟨hm, rfl, hr4⟩; replace HR := hr4; replace HI := IsB.mv HI hm hrb; replace hbs := Nat.le_trans hbs hm.size; replace HM := HM.trans hm; clear hr4 hm; replace c0 := HR.c0; replace c1 := HR.c1; replace f1 := HR.f1)
              | (go_at_call 81; (with_reducible refine (qFA HI hx0 hx1 hln hbs).mono ?_); rintro e w6 ⟨⟨nn, rfl⟩, HI6, hb6⟩; replace HI := HI6; clear HI6; replace HR := Rd.low HR hb6 hrb; replace HM := HM.low hb6 hwb; replace hbs := Nat.le_trans hbs hb6.size; clear hb6; replace c0 := HR.c0; replace c1 := HR.c1; replace f1 := HR.f1))
            have hl4 := Lib.runeCells_le x; rw [Lib.runeCells_length] at hl4; exact ⟨⟨k3, n2, acc ++ Lib.encodeRune x, hgo.2, HR, HM, by rw [Lib.byteCells_append, Lib.byteCells_encodeRune]; exact HI, hbs, by omega, by simp; omega, HS2⟩, by rw [HR.at, hat]; omega⟩
        · have hdb := qB8 s k hks; have hdr := qMl s k; (have hA : 0 ≤ (k : Int) ∧ (k : Int) ≤ (s.size : Int) := by omega); have hA1 : (k : Int) ≤ (s.size : Int) := hA.2; (have ht1 : ((k : Int)).toNat = k := by omega); (have HKB : Hid ((Utf8.decode s k).1 = 65533 ∧ (Utf8.decode s k).2 ≤ 1 → qBK s i = .bad 7 k) := Lib.hid fun hh => HS.out.symm.trans (qKo h32 h34 h92 hh)); (have HKG : Hid (¬ ((Utf8.decode s k).1 = 65533 ∧ (Utf8.decode s k).2 ≤ 1) → qBM s n2 (k + (Utf8.decode s k).2) (acc ++ Lib.encodeRune ((Utf8.decode s k).1 : Nat)) = qBK s i) := Lib.hid fun hh => by rw [← HS.out]; exact (qMJ h32 h34 h92 hh).symm); have hgd := qFk s k hks; generalize hD1 : (Utf8.decode s k).1 = D1 at *; generalize hD2 : (Utf8.decode s k).2 = D2 at *; have HD1 := Lib.hid hD1; have HD2 := Lib.hid hD2; have HGD := Lib.hid hgd; have hd0 := hdb.1; have hdl := hdb.2; obtain ⟨k3, hk3⟩ : ∃ k3, k3 = k + D2 := ⟨_, rfl⟩; have HK3 := Lib.hid hk3; (have hk3s : k3 ≤ s.size := by omega); (have hk3k : k < k3 := by omega); (have hI1 : 0 ≤ (k : Int) + (D2 : Int) := by omega); (have hI2 : (k : Int) + (D2 : Int) ≤ 65536 := by omega); (have hx0 : -2147483648 ≤ (D1 : Int) := by omega); (have hx1 : (D1 : Int) ≤ 2147483647 := by omega); clear hD1 hD2 hgd hdb hk3 hk2
          go_wp2_with (go_at_call 55; (with_reducible refine (qBC HR).mono ?_); rintro e w1 ⟨rfl, hb⟩; replace HR := HR.below hb; (try replace HI := IsB.mv HI (Mv.of (r := r) hb) hrb); (try replace hbs := Nat.le_trans hbs hb.size); replace HM := HM.trans (Mv.of hb); clear hb; replace c0 := HR.c0; replace c1 := HR.c1; replace f1 := HR.f1)
          have HG4 := hG.mv HM; refine qAc (by kernel_rfl) (fun w8 hHeld => ?_); refine TKC 0 17 rfl ?_; (try simp only [Act.put, zA, zB, zC]); refine TKC 1 18 rfl ?_; (try simp only [Act.put, zA, zB, zC]); refine TKC 2 19 rfl ?_; (try simp only [Act.put, zA, zB, zC]); refine TKB 3 20 ?_ rfl ?_ ?_; rotate_left
          · (intro w hSw; (try dsimp only at hSw); have := qAB hSw c0; go_simp; try with_reducible rfl)
          (try simp only [Act.put, zA, zB, zC]); refine TKC 4 21 rfl ?_; (try simp only [Act.put, zA, zB, zC]); refine TKC 5 22 rfl ?_; (try simp only [Act.put, zA, zB, zC]); refine TKC 6 23 rfl ?_; (try simp only [Act.put, zA, zB, zC]); refine TKB 7 24 ?_ rfl ?_ ?_; rotate_left
          · (intro w hSw; (try dsimp only at hSw); have := qAB hSw c1; go_simp; try with_reducible rfl)
          (try simp only [Act.put, zA, zB, zC]); refine TKB 8 25 (.string (s.extract k s.size)) rfl ?_ ?_
          · (intro w hSw; (try dsimp only at hSw); go_simp; try simp only [if_pos hA, ht1]; try simp [hA1])
          (try simp only [Act.put, zA, zB, zC]); have HS8 := (HG4.below hHeld).tabs; refine wpAnyH_ready (rs := [9]) (by kernel_rfl) (by simp) ?_; refine AllReadyH.cons (o := ⟨some 26, _, _, _, _, _⟩) rfl (fun K hK => ?_) AllReadyH.nil; go_simp
          (go_at_call 83; (with_reducible refine (Tryz.utf8_DecodeRuneInString _ _ HS8).mono ?_); rw [HGD.out, HD1.out, HD2.out]; rintro e w9 ⟨rfl, hb3⟩)
          refine hK.out _ _ (zT hHeld hb3) (fun hHeld2 => ?_); clear hK K hHeld hb3; have hHeld := hHeld2; clear hHeld2; (try simp only [Act.put, zA, zB, zC]); refine TKC 10 16 rfl ?_; (try simp only [Act.put, zA, zB, zC]); refine TKC 11 27 rfl ?_; (try simp only [Act.put, zA, zB, zC]); refine TKC 12 28 rfl ?_; (try simp only [Act.put, zA, zB, zC]); refine TKC 13 5 rfl ?_; (try simp only [Act.put, zA, zB, zC]); refine TKC 14 6 rfl ?_; (try simp only [Act.put, zA, zB, zC]); refine wpAnyH_done (by kernel_rfl) ?_ _; have hb8 := hHeld; clear hHeld HS8; replace HR := HR.below hb8; replace HI := IsB.mv HI (Mv.of (r := r) hb8) hrb; replace hbs := Nat.le_trans hbs hb8.size; replace HM := HM.trans (Mv.of hb8); replace c0 := HR.c0; replace c1 := HR.c1; have f1 := HR.f1; clear hb8
          by_cases e1 : D1 = 65533
          · have e1' : (D1 : Int) = 65533 := by omega
            by_cases e2 : D2 ≤ 1
            · (have e2' : (D2 : Int) ≤ 1 := by omega); have HK := Lib.hid (HKB.out ⟨e1, e2⟩)
              go_wp2_with (go_at_call 39; (with_reducible refine (qAz _ _ _ _).mono ?_); rintro e w5 ⟨⟨g, rfl, hg⟩, hb⟩)
              exact ⟨rfl, Got.bad HK.out (HM.trans (Mv.of hb)) ⟨g, rfl, hg⟩⟩
            · (have e2' : ¬ (D2 : Int) ≤ 1 := by omega); have HS2 : Hid (qBM s n2 (k + D2) (acc ++ Lib.encodeRune 65533) = qBK s i) := Lib.hid (by have := HKG.out (fun h => e2 h.2); rw [e1] at this; exact this); (have hy0 : -2147483648 ≤ (65533 : Int) := by omega); have hy1 : (65533 : Int) ≤ 2147483647 := by omega
              go_wp2_with (first
                | (go_at_call 81; (with_reducible refine (qFA HI hy0 hy1 hln hbs).mono ?_); rintro e w6 ⟨⟨nn, rfl⟩, HI6, hb6⟩; replace HI := HI6; clear HI6; replace HR := Rd.low HR hb6 hrb; replace HM := HM.low hb6 hwb; replace hbs := Nat.le_trans hbs hb6.size; clear hb6; replace c0 := HR.c0; replace c1 := HR.c1; replace f1 := HR.f1)
                | ((with_reducible refine qAF ?_); refine qCG rfl (.tmp 50) (.tmp 48) rfl rfl k3 (by rw [HK3.out]; rfl) HR ?_; intro w2 hr2 hm2; replace HR := hr2; (try replace HI := IsB.mv HI hm2 hrb); (try replace hbs := Nat.le_trans hbs hm2.size); replace HM := HM.trans hm2; clear hr2 hm2; replace c0 := HR.c0; replace c1 := HR.c1; replace f1 := HR.f1))
              have hl4 := Lib.runeCells_le (65533 : Int); rw [Lib.runeCells_length] at hl4; simp only [Act.put, List.setIfInBounds_toArray, List.set_cons_zero, List.set_cons_succ]; go_roundw
              case rel => exact ⟨k3, n2, acc ++ Lib.encodeRune 65533, hk3s, HR, HM, by rw [Lib.byteCells_append, Lib.byteCells_encodeRune]; exact HI, hbs, by omega, by simp; omega, HK3.out ▸ HS2⟩
              case measure => rw [HR.at, hat]; omega
          · (have e1' : ¬ (D1 : Int) = 65533 := by omega); have HS2 := Lib.hid (HKG.out (fun h => e1 h.1))
            go_wp2_with (first
              | (go_at_call 81; (with_reducible refine (qFA HI hx0 hx1 hln hbs).mono ?_); rintro e w6 ⟨⟨nn, rfl⟩, HI6, hb6⟩; replace HI := HI6; clear HI6; replace HR := Rd.low HR hb6 hrb; replace HM := HM.low hb6 hwb; replace hbs := Nat.le_trans hbs hb6.size; clear hb6; replace c0 := HR.c0; replace c1 := HR.c1; replace f1 := HR.f1)
              | ((with_reducible refine qAF ?_); refine qCG rfl (.tmp 50) (.tmp 48) rfl rfl k3 (by rw [HK3.out]; rfl) HR ?_; intro w2 hr2 hm2; replace HR := hr2; (try replace HI := IsB.mv HI hm2 hrb); (try replace hbs := Nat.le_trans hbs hm2.size); replace HM := HM.trans hm2; clear hr2 hm2; replace c0 := HR.c0; replace c1 := HR.c1; replace f1 := HR.f1))
            have hl4 := Lib.runeCells_le (D1 : Int); rw [Lib.runeCells_length] at hl4; simp only [Act.put, List.setIfInBounds_toArray, List.set_cons_zero, List.set_cons_succ]; go_roundw
            case rel => exact ⟨k3, n2, acc ++ Lib.encodeRune (D1 : Nat), hk3s, HR, HM, by rw [Lib.byteCells_append, Lib.byteCells_encodeRune]; exact HI, hbs, by omega, by simp; omega, HK3.out ▸ HS2⟩
            case measure => rw [HR.at, hat]; omega
end Go.Proofs.YtnjhmnolngdfaaaGreatDoor
namespace Go.Proofs.YtnjhmnolngdfaaaGreatDoor
open Go.RowKit Go.PlainAid
abbrev Fr (base r : Nat) (w w' : World) : Prop := Bes (fun k => k = r ∨ base ≤ k) w w'
theorem Fr.refl (base r : Nat) (w : World) : Fr base r w w := Bes.of_below (Below.refl _ _)
theorem Fr.trans {base r : Nat} {a b c : World} (h : Fr base r a b) (k : Fr base r b c) : Fr base r a c := Bes.trans h k (fun _ x => x) (fun _ _ x => x)
theorem Fr.mv {base r : Nat} {w w' : World} (h : Mv r w w') : Fr base r w w' := ⟨h.os, h.tape, h.output, h.size, fun k hk hn => h.block k hk (fun e => hn (.inl e))⟩
def qCN {σ : Type} (St : Nat → σ → World → Prop) (base r : Nat) (o : Out σ) (w : World) (e : Ending) (w' : World) : Prop :=
  Fr base r w w' ∧ (match o with
    | .ok y k => e = .returned (.tuple #[]) ∧ St k y w'
    | .bad c p => Pan e w' c p)
theorem qCN.ok {σ : Type} {St : Nat → σ → World → Prop} {base r : Nat} {o : Out σ} {w w' : World} {e : Ending} {y : σ} {k : Nat} (ho : o = .ok y k) (hm : Fr base r w w') (he : e = .returned (.tuple #[])) (hr : St k y w') : qCN St base r o w e w' := by subst ho; exact ⟨hm, he, hr⟩
theorem qCN.bad {σ : Type} {St : Nat → σ → World → Prop} {base r : Nat} {o : Out σ} {w w' : World} {e : Ending} {c : Int} {p : Nat} (ho : o = .bad c p) (hm : Fr base r w w') (hp : Pan e w' c p) : qCN St base r o w e w' := by subst ho; exact ⟨hm, hp⟩
theorem qKT {σ : Type} {s : ByteArray} {endc : Int} {step : Nat → σ → Out σ} {n i : Nat} {x : σ} {c : Int} {p : Nat} (h : step i x = .bad c p) : qBU s endc step (n + 1) i x = .bad c p := by unfold qBU; rw [h]
theorem qLC {σ : Type} {s : ByteArray} {endc : Int} {step : Nat → σ → Out σ} {n i : Nat} {x y : σ} {k : Nat} (h : step i x = .ok y k) (h2 : pk s (qAd s k) = endc) : qBU s endc step (n + 1) i x = .ok y (qAd s k + 1) := by
  unfold qBU; rw [h]; show (if pk s (qAd s k) = endc then _ else _) = _; rw [if_pos h2]
theorem qJg {σ : Type} {s : ByteArray} {endc : Int} {step : Nat → σ → Out σ} {n i : Nat} {x y : σ} {k : Nat} (h : step i x = .ok y k) (h2 : ¬ pk s (qAd s k) = endc) (h3 : pk s (qAd s k) = 44) : qBU s endc step (n + 1) i x = qBU s endc step n (qAd s (qAd s k + 1)) y := by
  conv => lhs; unfold qBU
  rw [h]; show (if pk s (qAd s k) = endc then _ else if pk s (qAd s k) = 44 then _ else _) = _; rw [if_neg h2, if_pos h3]
theorem qJz {σ : Type} {s : ByteArray} {endc : Int} {step : Nat → σ → Out σ} {n i : Nat} {x y : σ} {k : Nat} (h : step i x = .ok y k) (h2 : ¬ pk s (qAd s k) = endc) (h3 : ¬ pk s (qAd s k) = 44) : qBU s endc step (n + 1) i x = .bad 3 (qAd s k) := by
  unfold qBU; rw [h]; show (if pk s (qAd s k) = endc then _ else if pk s (qAd s k) = 44 then _ else _) = _; rw [if_neg h2, if_neg h3]
theorem qE7 {σ : Type} (K : Nat) (caps : Array Value) (endc : Int) (he0 : 0 ≤ endc) (he1 : endc ≤ 255) (step : Nat → σ → Out σ) (St : Nat → σ → World → Prop) (base r : Nat) {s : ByteArray} (hs : s.size ≤ 65536)
    (hK : ∀ args w, (callFunc K args).run Tryz.prog w = .ok (.enter K args) w)
    (hrd : ∀ i x w, St i x w → Rd w r s i) (hmv : ∀ i k x w w', i ≤ k → St i x w → Mv r w w' → Rd w' r s k → St k x w')
    (hgo : ∀ i x, qB0 s i (step i x))
    (hone : ∀ i x w, St i x w → i ≤ s.size → Calls Tryz.prog K caps w (qCN St base r (step i x) w))
    {i : Nat} {x : σ} {w : World} (h : St i x w) (hi : i < s.size) :
    Calls Tryz.prog 59 #[At r, .int .u8 endc, .func (.func K) #[] caps] w (qCN St base r (qAx s endc step i x) w) := by
  have HR := hrd _ _ _ h; have HF := Fr.refl base r w; have HX := h; have c0 := HR.c0; have c1 := HR.c1; have f1 := HR.f1; obtain ⟨j, hj⟩ : ∃ j, j = i + 1 := ⟨_, rfl⟩; have HJ := Lib.hid hj; (have hjs : j ≤ s.size := by omega); obtain ⟨k0, hk0⟩ : ∃ k0, k0 = qAd s j := ⟨_, rfl⟩; have HK0 := Lib.hid hk0; (have hk0s : k0 ≤ s.size := by rw [hk0]; exact qBg hjs); have hmv2 := Lib.hid hmv; have hone2 := Lib.hid hone; have hrd2 := Lib.hid hrd; have hgo2 := Lib.hid hgo
  by_cases hend : pk s k0 = endc
  · have hk0l : k0 < s.size := qC1 hend he0; obtain ⟨k2, hk2⟩ : ∃ k2, k2 = k0 + 1 := ⟨_, rfl⟩; have HK2 := Lib.hid hk2; have HK : Hid (qAx s endc step i x = .ok x k2) := Lib.hid (by unfold qAx; rw [← hj, ← hk0, if_pos hend, hk2]); clear hj hk0 hk2; go_enter Tryz.func59, Tryz.ntmps59
    go_wp2_with (first
      | ((with_reducible refine qAF ?_); refine qCG rfl (.tmp 12) (.tmp 10) rfl rfl j (by rw [HJ.out]; rfl) HR ?_; intro w2 hr2 hm2; (try replace HX := hmv _ _ _ _ _ (by rw [HJ.out]; omega) HX hm2 hr2); replace HR := hr2; replace HF := HF.trans (Fr.mv hm2); clear hr2 hm2; replace c0 := HR.c0; replace c1 := HR.c1; replace f1 := HR.f1)
      | (go_at_call 37; (with_reducible refine (qBI HR hjs hs).mono ?_); rintro e w1 ⟨rfl, hr4, hm⟩; rw [← HK0.out] at hr4; (try replace HX := hmv _ _ _ _ _ (by rw [HK0.out]; exact qBJ) HX hm hr4); replace HR := hr4; replace HF := HF.trans (Fr.mv hm); clear hr4 hm; replace c0 := HR.c0; replace c1 := HR.c1; replace f1 := HR.f1)
      | (go_at_call 55; (with_reducible refine (qBC HR).mono ?_); rintro e w1 ⟨rfl, hb⟩; (try replace HX := hmv _ _ _ _ _ (Nat.le_refl _) HX (Mv.of hb) (HR.below hb)); replace HR := HR.below hb; replace HF := HF.trans (Fr.mv (Mv.of hb)); clear hb; replace c0 := HR.c0; replace c1 := HR.c1; replace f1 := HR.f1)
      | ((with_reducible refine qAF ?_); refine qCG rfl (.tmp 26) (.tmp 24) rfl rfl k2 (by rw [HK2.out]; rfl) HR ?_; intro w2 hr2 hm2; (try replace HX := hmv _ _ _ _ _ (by rw [HK2.out]; omega) HX hm2 hr2); replace HR := hr2; replace HF := HF.trans (Fr.mv hm2); clear hr2 hm2; replace c0 := HR.c0; replace c1 := HR.c1; replace f1 := HR.f1))
    refine bodyPost_ret (results_none rfl _ _ _) rfl ?_; exact qCN.ok HK.out HF rfl HX
  · have HKE : Hid (qAx s endc step i x = qBU s endc step (s.size + 1) k0 x) := Lib.hid (by unfold qAx; rw [← hj, ← hk0, if_neg hend]); clear hj hk0; go_enter Tryz.func59, Tryz.ntmps59
    go_wp2_with (first
      | ((with_reducible refine qAF ?_); refine qCG rfl (.tmp 12) (.tmp 10) rfl rfl j (by rw [HJ.out]; rfl) HR ?_; intro w2 hr2 hm2; (try replace HX := hmv _ _ _ _ _ (by rw [HJ.out]; omega) HX hm2 hr2); replace HR := hr2; replace HF := HF.trans (Fr.mv hm2); clear hr2 hm2; replace c0 := HR.c0; replace c1 := HR.c1; replace f1 := HR.f1)
      | (go_at_call 37; (with_reducible refine (qBI HR hjs hs).mono ?_); rintro e w1 ⟨rfl, hr4, hm⟩; rw [← HK0.out] at hr4; (try replace HX := hmv _ _ _ _ _ (by rw [HK0.out]; exact qBJ) HX hm hr4); replace HR := hr4; replace HF := HF.trans (Fr.mv hm); clear hr4 hm; replace c0 := HR.c0; replace c1 := HR.c1; replace f1 := HR.f1)
      | (go_at_call 55; (with_reducible refine (qBC HR).mono ?_); rintro e w1 ⟨rfl, hb⟩; (try replace HX := hmv _ _ _ _ _ (Nat.le_refl _) HX (Mv.of hb) (HR.below hb)); replace HR := HR.below hb; replace HF := HF.trans (Fr.mv (Mv.of hb)); clear hb; replace c0 := HR.c0; replace c1 := HR.c1; replace f1 := HR.f1))
    (have hE0 : (pk s k0 == endc) = false := by simpa using hend); simp only [hE0]
    go_loopw [] (fun wr => ∃ (k n : Nat) (y : σ), k ≤ s.size ∧ St k y wr ∧ Fr base r w wr ∧ s.size < k + n ∧ Hid (qBU s endc step n k y = qAx s endc step i x)) (fun wr => s.size - qHW wr r)
    case atStart => exact ⟨k0, s.size + 1, x, hk0s, HX, HF, by omega, Lib.hid HKE.out.symm⟩
    case round =>
      clear HX HR HF c0 c1 f1; obtain ⟨k, n, y, hk, HX, HF, hkn, HS⟩ := hrel; have HR := hrd2.out _ _ _ HX; have c0 := HR.c0; have c1 := HR.c1; have f1 := HR.f1; have hat := HR.at; obtain ⟨n2, hn2⟩ : ∃ n2, n = n2 + 1 := ⟨n - 1, by omega⟩; subst hn2; have hg := hgo2.out k y
      cases ho : step k y with
      | bad c p =>
        have HK : Hid (qAx s endc step i x = .bad c p) := Lib.hid (HS.out.symm.trans (qKT ho))
        go_wp2_with (go_at_fn K; (with_reducible refine (hone2.out _ _ _ HX hk).mono ?_); rw [ho]; rintro e w1 ⟨hm, ⟨g, rfl, hg⟩⟩)
        exact ⟨rfl, qCN.bad HK.out (HF.trans hm) ⟨g, rfl, hg⟩⟩
      | ok y2 k2 =>
        obtain ⟨hk2, hk2s⟩ := hg y2 k2 ho; obtain ⟨k3, hk3⟩ : ∃ k3, k3 = qAd s k2 := ⟨_, rfl⟩; have HK3 := Lib.hid hk3; (have hk3s : k3 ≤ s.size := by rw [hk3]; exact qBg hk2s); (have hk3k : k2 ≤ k3 := by rw [hk3]; exact qBJ); have HO := Lib.hid ho; clear hk3 hg ho; have p0 := qKR s k3; have p1 := qLg s k3
        by_cases hend2 : pk s k3 = endc
        · have hk3l : k3 < s.size := qC1 hend2 he0; obtain ⟨k4, hk4⟩ : ∃ k4, k4 = k3 + 1 := ⟨_, rfl⟩; have HK4 := Lib.hid hk4; have HK : Hid (qAx s endc step i x = .ok y2 k4) := Lib.hid (by rw [hk4, HK3.out]; exact HS.out.symm.trans (qLC HO.out (HK3.out ▸ hend2))); clear hk4
          go_wp2_with (first
            | (go_at_fn K; (with_reducible refine (hone2.out _ _ _ HX hk).mono ?_); rw [HO.out]; rintro e w1 ⟨hm, rfl, hx4⟩; replace HX := hx4; have HR := hrd2.out _ _ _ hx4; clear hx4; replace HF := HF.trans hm; clear hm; replace c0 := HR.c0; replace c1 := HR.c1; replace f1 := HR.f1)
            | (go_at_call 37; (with_reducible refine (qBI HR hk2s hs).mono ?_); rintro e w1 ⟨rfl, hr4, hm⟩; rw [← HK3.out] at hr4; (try replace HX := hmv _ _ _ _ _ (by rw [HK3.out]; exact qBJ) HX hm hr4); replace HR := hr4; replace HF := HF.trans (Fr.mv hm); clear hr4 hm; replace c0 := HR.c0; replace c1 := HR.c1; replace f1 := HR.f1)
            | (go_at_call 55; (with_reducible refine (qBC HR).mono ?_); rintro e w1 ⟨rfl, hb⟩; (try replace HX := hmv _ _ _ _ _ (Nat.le_refl _) HX (Mv.of hb) (HR.below hb)); replace HR := HR.below hb; replace HF := HF.trans (Fr.mv (Mv.of hb)); clear hb; replace c0 := HR.c0; replace c1 := HR.c1; replace f1 := HR.f1)
            | ((with_reducible refine qAF ?_); refine qCG rfl (.tmp 49) (.tmp 47) rfl rfl k4 (by rw [HK4.out]; rfl) HR ?_; intro w2 hr2 hm2; (try replace HX := hmv _ _ _ _ _ (by rw [HK4.out]; omega) HX hm2 hr2); replace HR := hr2; replace HF := HF.trans (Fr.mv hm2); clear hr2 hm2; replace c0 := HR.c0; replace c1 := HR.c1; replace f1 := HR.f1))
          refine bodyPost_ret (results_none rfl _ _ _) rfl ?_; exact qCN.ok HK.out HF rfl HX
        · by_cases hcm : pk s k3 = 44
          · have hk3l : k3 < s.size := qC1 hcm (by omega); obtain ⟨k4, hk4⟩ : ∃ k4, k4 = k3 + 1 := ⟨_, rfl⟩; have HK4 := Lib.hid hk4; (have hk4s : k4 ≤ s.size := by omega); (have hk4k : k < k4 := by omega); obtain ⟨k5, hk5⟩ : ∃ k5, k5 = qAd s k4 := ⟨_, rfl⟩; have HK5 := Lib.hid hk5; (have hk5s : k5 ≤ s.size := by rw [hk5]; exact qBg hk4s); (have hk5k : k4 ≤ k5 := by rw [hk5]; exact qBJ); have HS2 : Hid (qBU s endc step n2 k5 y2 = qAx s endc step i x) := Lib.hid (by rw [hk5, hk4, HK3.out, ← HS.out]; exact (qJg HO.out (HK3.out ▸ hend2) (HK3.out ▸ hcm)).symm); clear hk4 hk5; have hend3 : ¬ (44 : Int) = endc := fun h => hend2 (hcm.trans h)
            go_wp2_with (first
              | (go_at_fn K; (with_reducible refine (hone2.out _ _ _ HX hk).mono ?_); rw [HO.out]; rintro e w1 ⟨hm, rfl, hx4⟩; replace HX := hx4; have HR := hrd2.out _ _ _ hx4; clear hx4; replace HF := HF.trans hm; clear hm; replace c0 := HR.c0; replace c1 := HR.c1; replace f1 := HR.f1)
              | (go_at_call 37; (with_reducible refine (qBI HR hk2s hs).mono ?_); rintro e w1 ⟨rfl, hr4, hm⟩; rw [← HK3.out] at hr4; (try replace HX := hmv _ _ _ _ _ (by rw [HK3.out]; exact qBJ) HX hm hr4); replace HR := hr4; replace HF := HF.trans (Fr.mv hm); clear hr4 hm; replace c0 := HR.c0; replace c1 := HR.c1; replace f1 := HR.f1)
              | (go_at_call 55; (with_reducible refine (qBC HR).mono ?_); rintro e w1 ⟨rfl, hb⟩; (try replace HX := hmv _ _ _ _ _ (Nat.le_refl _) HX (Mv.of hb) (HR.below hb)); replace HR := HR.below hb; replace HF := HF.trans (Fr.mv (Mv.of hb)); clear hb; replace c0 := HR.c0; replace c1 := HR.c1; replace f1 := HR.f1)
              | ((with_reducible refine qAF ?_); refine qCG rfl (.tmp 58) (.tmp 56) rfl rfl k4 (by rw [HK4.out]; rfl) HR ?_; intro w2 hr2 hm2; (try replace HX := hmv _ _ _ _ _ (by rw [HK4.out]; omega) HX hm2 hr2); replace HR := hr2; replace HF := HF.trans (Fr.mv hm2); clear hr2 hm2; replace c0 := HR.c0; replace c1 := HR.c1; replace f1 := HR.f1)
              | (go_at_call 37; (with_reducible refine (qBI HR hk4s hs).mono ?_); rintro e w1 ⟨rfl, hr4, hm⟩; rw [← HK5.out] at hr4; (try replace HX := hmv _ _ _ _ _ (by rw [HK5.out]; exact qBJ) HX hm hr4); replace HR := hr4; replace HF := HF.trans (Fr.mv hm); clear hr4 hm; replace c0 := HR.c0; replace c1 := HR.c1; replace f1 := HR.f1))
            go_roundw
            case rel => exact ⟨k5, n2, y2, hk5s, HX, HF, by omega, HS2⟩
            case measure => rw [HR.at, hat]; omega
          · have HK : Hid (qAx s endc step i x = .bad 3 k3) := Lib.hid (by rw [HK3.out]; exact HS.out.symm.trans (qJz HO.out (HK3.out ▸ hend2) (HK3.out ▸ hcm)))
            go_wp2_with (first
              | (go_at_fn K; (with_reducible refine (hone2.out _ _ _ HX hk).mono ?_); rw [HO.out]; rintro e w1 ⟨hm, rfl, hx4⟩; replace HX := hx4; have HR := hrd2.out _ _ _ hx4; clear hx4; replace HF := HF.trans hm; clear hm; replace c0 := HR.c0; replace c1 := HR.c1; replace f1 := HR.f1)
              | (go_at_call 37; (with_reducible refine (qBI HR hk2s hs).mono ?_); rintro e w1 ⟨rfl, hr4, hm⟩; rw [← HK3.out] at hr4; (try replace HX := hmv _ _ _ _ _ (by rw [HK3.out]; exact qBJ) HX hm hr4); replace HR := hr4; replace HF := HF.trans (Fr.mv hm); clear hr4 hm; replace c0 := HR.c0; replace c1 := HR.c1; replace f1 := HR.f1)
              | (go_at_call 55; (with_reducible refine (qBC HR).mono ?_); rintro e w1 ⟨rfl, hb⟩; (try replace HX := hmv _ _ _ _ _ (Nat.le_refl _) HX (Mv.of hb) (HR.below hb)); replace HR := HR.below hb; replace HF := HF.trans (Fr.mv (Mv.of hb)); clear hb; replace c0 := HR.c0; replace c1 := HR.c1; replace f1 := HR.f1)
              | (go_at_call 39; (with_reducible refine (qAz _ _ _ _).mono ?_); rintro e w5 ⟨⟨g, rfl, hg⟩, hb⟩; replace HF := HF.trans (Fr.mv (Mv.of hb))))
            exact ⟨rfl, qCN.bad HK.out HF ⟨g, rfl, hg⟩⟩
end Go.Proofs.YtnjhmnolngdfaaaGreatDoor
namespace Go.Proofs.YtnjhmnolngdfaaaGreatDoor
open Go.RowKit Go.PlainAid
theorem qAW.mv {r : Nat} {w w' : World} {g : Nat} {t : TypeId} {arr : Array Value} (h : qAW w g t arr) (hm : Mv r w w') (hg : g ≠ r) : qAW w' g t arr := (hm.block g h.lt hg).trans h
structure LK (r : Nat) (s : ByteArray) (b0 b1 gv gr gd : Nat) (dep : Int) (E : TypeId) (size : Nat) (k : Nat) (arr : Array Value) (v : Value) (n : Nat) (xs : List Value) (acc : List JV) (w : World) : Prop where
  rd : Rd w r s k
  gl : Gl w r
  box : qAW w gv 25 arr
  rb : qAW w gr 68 #[At r]
  db : qAW w gd 3 #[.int .i64 dep]
  own : w.ownsRow b1 E size v n xs
  els : ∀ y ∈ acc, qAi w y ∧ Off (fun q => q < b1 ∨ v.ownBlock = some q) y
  st : r < b0 ∧ b0 ≤ gv ∧ gv < b1 ∧ gr < b1 ∧ gd < b1 ∧ gv ≠ gr ∧ gv ≠ gd ∧ gr ≠ r ∧ gd ≠ r ∧ b1 ≤ w.heap.size
section
variable {r : Nat} {s : ByteArray} {b0 b1 gv gr gd : Nat} {dep : Int} {E : TypeId} {size k : Nat} {arr : Array Value} {v : Value} {n : Nat} {xs : List Value} {acc : List JV} {w w' : World}
theorem LK.mv (h : LK r s b0 b1 gv gr gd dep E size k arr v n xs acc w) (hm : Mv r w w') {k' : Nat} (hr : Rd w' r s k') : LK r s b0 b1 gv gr gd dep E size k' arr v n xs acc w' := by
  obtain ⟨h1, h2, h3, h4, h5, h6, h7, h8, h9, h10⟩ := h.st; refine ⟨hr, h.gl.mv hm, h.box.mv hm (by omega), h.rb.mv hm (by omega), h.db.mv hm (by omega), hm.own h.own (fun q e he => ?_), fun y hy => ?_, ⟨h1, h2, h3, h4, h5, h6, h7, h8, h9, Nat.le_trans h10 hm.size⟩⟩
  · have := (qAh h.own e).1; have he2 : q = r := he; omega
  · obtain ⟨a, b⟩ := h.els y hy; exact ⟨qAi.bes hm a (Off.mono (fun q e => Or.inl (by have e2 : q = r := e; omega)) b), b⟩
theorem LK.below (h : LK r s b0 b1 gv gr gd dep E size k arr v n xs acc w) (hb : Below w.heap.size w w') : LK r s b0 b1 gv gr gd dep E size k arr v n xs acc w' := h.mv (Mv.of hb) (h.rd.below hb)
theorem LK.add (h : LK r s b0 b1 gv gr gd dep E size k arr v n xs acc w) {j : JV} (hj : qAi w j) {m : Nat} (hm : b1 ≤ m) (hv : ∀ q, v.ownBlock = some q → q < m) (ho : Off (fun q => q < m) j) : LK r s b0 b1 gv gr gd dep E size k arr v n xs (acc ++ [j]) w :=
  ⟨h.rd, h.gl, h.box, h.rb, h.db, h.own, fun y hy => by
    rcases List.mem_append.1 hy with hy | hy
    · exact h.els y hy
    · obtain rfl : y = j := by simpa using hy
      exact ⟨hj, Off.mono (fun q e => e.elim (fun e => Nat.lt_of_lt_of_le e hm) (fun e => hv q e)) ho⟩, h.st⟩
theorem LK.append (h : LK r s b0 b1 gv gr gd dep E size k arr v n xs acc w) {g n' cap : Nat} {xs' : List Value} (ho : w'.ownsRow b1 E size (.slice (some ⟨g, 0, none⟩) n' cap) n' xs') (hg : w.grownBy w' v.ownBlock) (hat : v.ownBlock = some g ∨ g = w.heap.size) :
    LK r s b0 b1 gv gr gd dep E size k arr (.slice (some ⟨g, 0, none⟩) n' cap) n' xs' acc w' ∧ Bes (fun q => v.ownBlock = some q) w w' := by
  obtain ⟨h1, h2, h3, h4, h5, h6, h7, h8, h9, h10⟩ := h.st; have hb := Bes.grown (X := fun q => v.ownBlock = some q) hg (fun _ e => e); (have lo : ∀ q, v.ownBlock = some q → b1 ≤ q := fun q e => (qAh h.own e).1); have hr : r < w.heap.size := h.rd.lt; (have hm : ∀ b, b < b1 → ¬ v.ownBlock = some b := fun b hb e => by have := lo b e; omega); refine ⟨⟨hb.box h.rd (hm r (by omega)), ?_, hb.box h.box (hm gv h3), hb.box h.rb (hm gr h4), hb.box h.db (hm gd h5), ho, fun y hy => ?_, ⟨h1, h2, h3, h4, h5, h6, h7, h8, h9, Nat.le_trans h10 hb.size⟩⟩, hb⟩
  · exact h.gl.bes hb (fun q hq => hm q (by omega))
  · obtain ⟨a, b⟩ := h.els y hy; refine ⟨qAi.bes hb a (Off.mono (fun q e => Or.inr e) b), ?_⟩; refine Off.mono (fun q e => ?_) (Off.or b (qCD a)); rcases e with e | e
    · exact .inl (.inl e)
    · have e2 : g = q := Option.some.inj e; subst e2; rcases hat with h | h
      · exact .inl (.inr h)
      · exact .inr (by show w.heap.size ≤ g; omega)
theorem LK.stored (h : LK r s b0 b1 gv gr gd dep E size k arr v n xs acc w) {g : Nat} {xs' : List Value} (hv : v.ownBlock = some g) (ho : w'.ownsRow b1 E size v n xs') (hb : Bes (· = g) w w') : LK r s b0 b1 gv gr gd dep E size k arr v n xs' acc w' := by
  obtain ⟨h1, h2, h3, h4, h5, h6, h7, h8, h9, h10⟩ := h.st; have lo : b1 ≤ g := (qAh h.own hv).1; (have hm : ∀ b, b < b1 → ¬ b = g := fun b hb => by omega); refine ⟨hb.box h.rd (hm r (by omega)), h.gl.bes hb (fun q hq => hm q (by omega)), hb.box h.box (hm gv h3), hb.box h.rb (hm gr h4), hb.box h.db (hm gd h5), ho, fun y hy => ?_, ⟨h1, h2, h3, h4, h5, h6, h7, h8, h9, Nat.le_trans h10 hb.size⟩⟩; obtain ⟨a, b⟩ := h.els y hy; exact ⟨qAi.bes hb a (Off.mono (fun q e => Or.inr (by have e2 : q = g := e; rw [e2]; exact hv)) b), b⟩
theorem LK.put (h : LK r s b0 b1 gv gr gd dep E size k arr v n xs acc w) {arr' : Array Value} (hw : Hid (w' = w.setRow gv arr')) : LK r s b0 b1 gv gr gd dep E size k arr' v n xs acc w' ∧ Bes (· = gv) w w' := by
  obtain ⟨h1, h2, h3, h4, h5, h6, h7, h8, h9, h10⟩ := h.st; have hb := Bes.row (X := fun q => q = gv) hw rfl; refine ⟨⟨hb.box h.rd (by omega), h.gl.bes hb (fun q hq e => by have e2 : q = gv := e; omega), qAQ hw h.box, hb.box h.rb (fun e => h6 e.symm), hb.box h.db (fun e => h7 e.symm), hb.own h.own (fun q e he => ?_), fun y hy => ?_, ⟨h1, h2, h3, h4, h5, h6, h7, h8, h9, Nat.le_trans h10 hb.size⟩⟩, hb⟩
  · have := (qAh h.own e).1; have he2 : q = gv := he; omega
  · obtain ⟨a, b⟩ := h.els y hy; exact ⟨qAi.bes hb a (Off.mono (fun q e => Or.inl (by have e2 : q = gv := e; omega)) b), b⟩
theorem LK.frOwn (h : LK r s b0 b1 gv gr gd dep E size k arr v n xs acc w) {a : World} (hf : Fr b0 r a w) (hb : Bes (fun q => v.ownBlock = some q) w w') : Fr b0 r a w' :=
  hf.trans (Bes.trans hb (Bes.of_below (X := fun _ => False) (Below.refl _ _)) (fun q e => Or.inr (by have := (qAh h.own e).1; have := h.st.2.1; have := h.st.2.2.1; omega)) (fun _ _ e => e.elim))
theorem LK.frG (h : LK r s b0 b1 gv gr gd dep E size k arr v n xs acc w) {a : World} (hf : Fr b0 r a w) {g : Nat} (hg : b0 ≤ g) (hb : Bes (· = g) w w') : Fr b0 r a w' :=
  hf.trans (Bes.trans hb (Bes.of_below (X := fun _ => False) (Below.refl _ _)) (fun q e => Or.inr (by have e2 : q = g := e; omega)) (fun _ _ e => e.elim))
end
def KC (t : Int) (u f : Value) : Array Value := #[.int .i64 t, .bool false, .int .i64 0, .string ⟨#[]⟩, u, f]
theorem qCL (t : Int) (u f x : Value) : (KC t u f).setIfInBounds 4 x = KC t x f := rfl
theorem qCK (t : Int) (u f x : Value) : (KC t u f).setIfInBounds 5 x = KC t u x := rfl
theorem qB6 : (Tryz.prog.info? 22).map (·.size) = some 1 := by kernel_rfl
theorem qB3 : (Tryz.prog.info? 23).map (·.size) = some 1 := by kernel_rfl
theorem qHo : (Tryz.prog.info? 25).map (fun i => (i.zero, i.size, i.bytes)) = some (some (.agg JV.zero.cells), 6, 88) := by kernel_rfl
theorem qGJ : ∃ ie z, Tryz.prog.info? 25 = some ie ∧ ie.zero = some z ∧ ie.size = 6 ∧ ie.bytes = 88 ∧ z = .agg JV.zero.cells := by
  have h := qHo
  cases hq : Tryz.prog.info? 25 with
  | none => rw [hq] at h; cases h
  | some ie =>
    rw [hq] at h; simp only [Option.map_some, Option.some.injEq, Prod.mk.injEq] at h; exact ⟨ie, _, rfl, h.1, h.2.1, h.2.2, rfl⟩
theorem qC4 : Instr.fill (fun i => some (i * 6, 6)) ((Array.range (1 * 6)).map ((Value.agg JV.zero.cells).cells[· % (Value.agg JV.zero.cells).cells.size]!)) [(0, .agg JV.zero.cells)] = some JV.zero.cells := by kernel_rfl
end Go.Proofs.YtnjhmnolngdfaaaGreatDoor
