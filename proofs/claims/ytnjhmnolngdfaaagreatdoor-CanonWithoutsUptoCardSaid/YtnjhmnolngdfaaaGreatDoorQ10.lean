/- Layer 2: strings.Builder at this translation: a rune is written. Layer 2: a text. -/
import Derived.Lib.Builder
import Derived.Lib.FrozenHead
import Derived.Lib.OthersKept
import Derived.Laws.Externs
import Derived.Test.YtnjhmnolngdfaaaGreatDoorQ09
import Derived.Test.YtnjhmnolngdfaaaGreatDoorQZip
namespace Go.Proofs.YtnjhmnolngdfaaaGreatDoor
open Go.RowKit Go.PlainAid
set_option linter.unusedVariables false
set_option linter.unusedSimpArgs false

theorem info_builder : (Tryz.prog.info? 76).map (·.size) = some 2 := by kernel_rfl
theorem lies_builder : liesAt Tryz.prog Tryz.prog.depth 76 (2 / Tryz.prog.cellsOf 76) 0 76 1 = true := by kernel_rfl
set_option maxRecDepth 100000 in
theorem bcheck_used {b : Nat} {w : World} (h0 : w.cell? ⟨b, 0, none⟩ = some (.pointer (some ⟨b, 0, none⟩))) :
    Calls Tryz.prog 87 #[At b] w fun e w' => e = .returned (.tuple #[]) ∧ w' = w := by
  obtain ⟨j, hj, _⟩ := Option.map_eq_some_iff.1 info_builder
  go_enter Tryz.func87, Tryz.ntmps87
  go_wp2
  rw [Lib.run_neq_ptr_same w _ Tryz.underlying74 hj]
  go_wp2
  go_end0
  exact ⟨rfl, rfl⟩
set_option maxRecDepth 100000 in
theorem bcheck_fresh {b : Nat} {w : World} (h0 : w.cell? ⟨b, 0, none⟩ = some (.pointer none)) (hsh : w.shape? b = some (76, 2)) (hf : w.frozen? ⟨b, 0, none⟩ = false) :
    Calls Tryz.prog 87 #[At b] w fun e w' => e = .returned (.tuple #[]) ∧ w' = w.setCell ⟨b, 0, none⟩ (.pointer (some ⟨b, 0, none⟩)) := by
  obtain ⟨j, hj, hjs⟩ := Option.map_eq_some_iff.1 info_builder
  go_enter Tryz.func87, Tryz.ntmps87
  go_wp2
  rw [Lib.run_to_unsafe w ⟨b, 0, none⟩ Tryz.underlying74 Tryz.underlying136 hj (by rw [hjs]; decide) hsh (Nat.zero_lt_succ 1)]
  simp only [Result.andThen]
  rw [Oper.upon_value]
  go_wp2
  rw [run_callFunc_extern Tryz.func106 (by kernel_rfl) (by kernel_rfl) (by kernel_rfl) (e := Extern.AbiNoEscape.same) (by kernel_rfl)]
  rw [Lib.run_noEscape]
  simp only [Result.andThen]
  rw [Oper.upon_value]
  go_wp2
  rw [Lib.run_from_unsafe w ⟨b, 0, none⟩ Tryz.underlying136 Tryz.underlying74 hj hsh lies_builder]
  simp only [Result.andThen]
  rw [Oper.upon_value]
  go_wp2
  go_end0
  exact ⟨rfl, rfl⟩
abbrev BAt (B b : Nat) (bs : List Value) (w : World) : Prop := Lib.BuilderAtF 76 5 B b (At b) bs w
abbrev IsB (B b : Nat) (bs : List Value) (w : World) : Prop := Lib.IsBuilderF 76 5 B b bs w
theorem bcheck_any {B b : Nat} {bs : List Value} {w : World} (h : IsB B b bs w) : Calls Tryz.prog 87 #[At b] w fun e w' => e = .returned (.tuple #[]) ∧ BAt B b bs w' ∧ Below B w w' := by
  rcases h with h | h
  · refine (bcheck_fresh h.cell0 h.shape h.frozen0).mono ?_
    rintro e w' ⟨rfl, rfl⟩
    exact ⟨rfl, h.used _, (Below.refl B w).setCell (p := ⟨b, 0, none⟩) h.1 _⟩
  · refine (bcheck_used h.cell0).mono ?_
    rintro e w' ⟨rfl, rfl⟩
    exact ⟨rfl, h, Below.refl B _⟩
theorem ownF_lo {w : World} {B : Nat} {e : TypeId} {size : Nat} {v : Value} {n : Nat} {xs : List Value} (h : w.ownsRowF B e size v n xs) {k : Nat} (hk : v.ownBlock = some k) : B ≤ k := by
  rcases h.2 with ⟨hv, _⟩ | ⟨g, cap, cur, fz, hv, hb, _⟩
  · subst hv; cases hk
  · subst hv
    have : g = k := Option.some.inj hk
    omega
set_option maxRecDepth 100000 in
set_option maxHeartbeats 2000000 in
theorem wrune_any {B b : Nat} {bs : List Value} {x : Int} {w : World} (h : IsB B b bs w) (hx0 : -2147483648 ≤ x) (hx1 : x ≤ 2147483647) (hlen : bs.length + 4 ≤ 140737488355328) (hB : B ≤ w.heap.size) :
    Calls Tryz.prog 81 #[At b, .int .i32 x] w fun e w' => (∃ n, e = .returned (.tuple #[.int .i64 n, .nilIface])) ∧ IsB B b (bs ++ Lib.runeCells x) w' ∧ Below B w w' := by
  have hk4 := Lib.runeCells_le x
  go_enter Tryz.func81, Tryz.ntmps81
  go_wp2_with (go_at_call 87; (with_reducible refine (bcheck_any h).mono ?_); rintro e w1 ⟨rfl, h1, hb1⟩; obtain ⟨hBb, v, hbk, hown, hne⟩ := h1; obtain ⟨ao, cap, rfl⟩ : ∃ ao cap, v = .slice ao bs.length cap := (by
    rcases hown.2 with ⟨hv, h0⟩ | ⟨g, cap, cur, fz, hv, _⟩
    · exact ⟨none, 0, by rw [hv, h0]⟩
    · exact ⟨_, _, hv⟩); have c0 : w1.cell? ⟨b, 0, none⟩ = some (At b) := (by rw [Lib.cell_of_heap hbk]; rfl); have c1 : w1.cell? ⟨b, 1, none⟩ = some (.slice ao bs.length cap) := (by rw [Lib.cell_of_heap hbk]; rfl))
  go_at_call 98
  refine (Tryz.utf8_AppendRune_row B _ bs.length bs x hx0 hx1 _ hown hlen (Nat.le_trans hB hb1.size)).mono ?_
  rintro e w2 ⟨v', rfl, hown', o, hgrow⟩
  have hlt : b < w1.heap.size := IBox.lt hbk
  have hb2 : w2.heap[b]? = some (.cells #[At b, .slice ao bs.length cap] 76 (0, 0)) := by
    rw [hgrow.block b (by simp; omega) (fun e => hne e.symm), Lib.alloc_old w1 _ b hlt]
    exact hbk
  have d0 : w2.cell? ⟨b, 0, none⟩ = some (At b) := by rw [Lib.cell_of_heap hb2]; rfl
  have d1 : w2.cell? ⟨b, 1, none⟩ = some (.slice ao bs.length cap) := by rw [Lib.cell_of_heap hb2]; rfl
  have f1 : w2.frozen? ⟨b, 1, none⟩ = false := Lib.frozen_of_heap hb2 1
  obtain ⟨g, cap', rfl⟩ : ∃ g cap', v' = .slice (some ⟨g, 0, none⟩) (bs.length + (Lib.runeCells x).length) cap' := by
    rcases hown'.2 with ⟨_, h0⟩ | ⟨g, cap', cur, fz, hv, _⟩
    · omega
    · exact ⟨g, cap', hv⟩
  have hb12 : Below B w1 w2 := by
    have h0 := (Below.refl B w1).alloc (Nat.le_trans hB hb1.size) o
    exact h0.grown hgrow (by have := hb1.size; simp; omega) (fun k hk => ownF_lo hown hk)
  go_wp2
  go_ret2
  refine ⟨⟨_, rfl⟩, Or.inr ?_, (hb1.trans hb12).setCell (p := ⟨b, 1, none⟩) hBb _⟩
  exact Lib.BuilderAtF.put (T := 76) (e := 5) hBb hb2 (bs' := bs ++ Lib.runeCells x) (by simpa using hown') (by decide)
end Go.Proofs.YtnjhmnolngdfaaaGreatDoor
namespace Go.Proofs.YtnjhmnolngdfaaaGreatDoor
open Go.RowKit Go.PlainAid
set_option linter.unusedVariables false
set_option linter.unusedSimpArgs false

theorem Rd.low {w w' : World} {r B : Nat} {s : ByteArray} {i : Nat} (h : Rd w r s i) (hb : Below B w w') (hr : r < B) : Rd w' r s i := IBox.below h hb hr
theorem Mv.low {r B : Nat} {w a w' : World} (h : Mv r w a) (hb : Below B a w') (hB : w.heap.size ≤ B) : Mv r w w' :=
  ⟨hb.os.trans h.os, hb.tape.trans h.tape, hb.output.trans h.output, Nat.le_trans h.size hb.size, fun k hk hn => (hb.block k (Nat.lt_of_lt_of_le hk hB)).trans (h.block k hk hn)⟩
theorem IsB.mv {r B b : Nat} {bs : List Value} {w w' : World} (h : IsB B b bs w) (hm : Mv r w w') (hr : r < B) : IsB B b bs w' := by
  have key : ∀ p, Lib.BuilderAtF 76 5 B b p bs w → Lib.BuilderAtF 76 5 B b p bs w' := by
    rintro p ⟨hB, v, hbk, hown, hne⟩
    have hbl := IBox.lt hbk
    refine ⟨hB, v, (hm.block b hbl (by omega)).trans hbk, ⟨hown.1, ?_⟩, hne⟩
    rcases hown.2 with h0 | ⟨g, cap, cur, fz, hv, hg, hh, rest⟩
    · exact .inl h0
    · have hgl : g < w.heap.size := (Array.getElem?_eq_some_iff.1 hh).1
      exact .inr ⟨g, cap, cur, fz, hv, hg, (hm.block g hgl (by omega)).trans hh, rest⟩
  exact h.elim (fun x => .inl (key _ x)) (fun x => .inr (key _ x))
theorem zero_builder : (Tryz.prog.info? 76).map (fun i => (i.zero, i.size)) = some (some (.agg #[.pointer none, .slice none 0 0]), 2) := by kernel_rfl
theorem zeroB (w : World) : (zeroValue 76).run Tryz.prog w = .ok (.agg #[.pointer none, .slice none 0 0]) w := (Go.zero_of_info zero_builder).1 w
theorem char_bounds {s : ByteArray} {i : Nat} {x : Int} {k : Nat} (h : charTo s i = .ok x k) : 0 ≤ x ∧ x ≤ 1114111 := by
  unfold charTo at h
  split at h
  · rename_i h1
    injection h with h2 _
    have h3 : escI (pk s i) ≤ 92 := by unfold escI; repeat' split; all_goals omega
    omega
  · split at h
    · cases h
    · split at h
      · cases h
      · rename_i n k1 hk
        obtain ⟨_, hn0, hn1⟩ := hex_val 4 _ 0 n k1 hk (by omega)
        have hn2 : n < 65536 := by simpa using hn1
        split at h
        · injection h with h2 _; omega
        · split at h
          · split at h
            · cases h
            · split at h
              · injection h with h2 _; omega
              · cases h
          · cases h
theorem dec_rune (s : ByteArray) (i : Nat) : (Utf8.decode s i).1 ≤ 1114111 := by
  unfold Utf8.decode
  simp only
  split
  · show _ ≤ 1114111; rename_i h; omega
  · split
    · split
      · show _ ≤ 1114111; omega
      · decide
    · split
      · split
        · show _ ≤ 1114111; omega
        · decide
      · split
        · split
          · rename_i h
            simp only [Bool.and_eq_true, Bool.or_eq_true, Utf8.valid, decide_eq_true_eq] at h
            show _ ≤ 1114111
            omega
          · decide
        · decide
theorem textL_ctl {s : ByteArray} {n k : Nat} {acc : List UInt8} (h : pk s k < 32) : textL s (n + 1) k acc = .bad 3 k := by unfold textL; rw [if_pos h]
theorem textL_end {s : ByteArray} {n k : Nat} {acc : List UInt8} (h : pk s k = 34) : textL s (n + 1) k acc = .ok ⟨acc.toArray⟩ (k + 1) := by unfold textL; rw [if_neg (by omega), if_pos h]
theorem textL_esc_bad {s : ByteArray} {n k : Nat} {acc : List UInt8} {c : Int} {p : Nat} (h : pk s k = 92) (hc : charTo s (k + 1) = .bad c p) : textL s (n + 1) k acc = .bad c p := by
  unfold textL; rw [if_neg (by omega), if_neg (by omega), if_pos h, hc]
theorem textL_esc {s : ByteArray} {n k : Nat} {acc : List UInt8} {x : Int} {q : Nat} (h : pk s k = 92) (hc : charTo s (k + 1) = .ok x q) : textL s (n + 1) k acc = textL s n q (acc ++ Lib.encodeRune x) := by
  conv => lhs; unfold textL
  rw [if_neg (by omega), if_neg (by omega), if_pos h, hc]
theorem textL_utf {s : ByteArray} {n k : Nat} {acc : List UInt8} (h1 : ¬ pk s k < 32) (h2 : ¬ pk s k = 34) (h3 : ¬ pk s k = 92) (h4 : (Utf8.decode s k).1 = 65533 ∧ (Utf8.decode s k).2 ≤ 1) : textL s (n + 1) k acc = .bad 7 k := by
  unfold textL; rw [if_neg h1, if_neg h2, if_neg h3, if_pos h4]
theorem textL_go {s : ByteArray} {n k : Nat} {acc : List UInt8} (h1 : ¬ pk s k < 32) (h2 : ¬ pk s k = 34) (h3 : ¬ pk s k = 92) (h4 : ¬ ((Utf8.decode s k).1 = 65533 ∧ (Utf8.decode s k).2 ≤ 1)) : textL s (n + 1) k acc = textL s n (k + (Utf8.decode s k).2) (acc ++ Lib.encodeRune ((Utf8.decode s k).1 : Nat)) := by
  conv => lhs; unfold textL
  rw [if_neg h1, if_neg h2, if_neg h3, if_neg h4]
abbrev Txt (t : ByteArray) (e : Ending) (_ : World) : Prop := e = .returned (.string t)
set_option maxRecDepth 10000 in
set_option maxHeartbeats 4000000 in
theorem text_any {w : World} {r : Nat} {s : ByteArray} {i : Nat} (h : Rd w r s i) (hG : Gl w r) (hi : i < s.size) (hs : s.size ≤ 65536) :
    Calls Tryz.prog 58 #[At r] w (Got (textTo s i) r s w Txt) := by
  have HR := h
  have HM := Mv.refl r w
  have c0 := HR.c0
  have c1 := HR.c1
  have f1 := HR.f1
  obtain ⟨j, hj⟩ : ∃ j, j = i + 1 := ⟨_, rfl⟩
  have HJ := Lib.hid hj
  have hjs : j ≤ s.size := by omega
  have HT : Hid (textTo s i = textL s (s.size + 1) j []) := Lib.hid (by rw [hj]; rfl)
  clear hj
  go_enter Tryz.func58, Tryz.ntmps58
  go_wp2_with (first
    | ((with_reducible refine is_store ?_); refine wpl_at rfl (.tmp 13) (.tmp 11) rfl rfl j (by rw [HJ.out]; rfl) HR ?_; intro w2 hr2 hm2; replace HR := hr2; (try replace HI := IsB.mv HI hm2 hrb); (try replace hbs := Nat.le_trans hbs hm2.size); replace HM := HM.trans hm2; clear hr2 hm2; replace c0 := HR.c0; replace c1 := HR.c1; replace f1 := HR.f1)
    | ((with_reducible refine is_alloc ?_); refine wpl_alloc_at rfl 76 rfl _ zeroB ?_; intro w3 hw; have HI := Lib.IsBuilderF.of (Lib.fresh_isBuilder 76 5 w2); have hwo := hw.out; rw [← hwo] at HI; clear hwo; have hb := hid_grow hw; clear hw; have hrb := HR.lt; have hwb := HM.size; have hbs := hb.size; replace HR := HR.below hb; replace HM := HM.trans (Mv.of hb); clear hb; replace c0 := HR.c0; replace c1 := HR.c1; replace f1 := HR.f1))
  have HI0 : IsB _ _ (Lib.byteCells []) _ := HI
  clear HI
  simp only [Act.put, List.setIfInBounds_toArray, List.set_cons_zero, List.set_cons_succ]
  go_loopw [] (fun wr => ∃ (k n : Nat) (acc : List UInt8), k ≤ s.size ∧ Rd wr r s k ∧ Mv r w wr ∧ IsB w2.heap.size w2.heap.size (Lib.byteCells acc) wr ∧ w2.heap.size ≤ wr.heap.size ∧ s.size < k + n ∧ acc.length ≤ 4 * k ∧ Hid (textL s n k acc = textTo s i)) (fun wr => s.size - atOf wr r)
  case atStart => exact ⟨j, s.size + 1, [], hjs, HR, HM, HI0, hbs, by omega, by simp, Lib.hid HT.out.symm⟩
  case round =>
    clear HI0 hbs c0 c1 f1 HR HM
    obtain ⟨k, n, acc, hk, HR, HM, HI, hbs, hkn, hal, HS⟩ := hrel
    have c0 := HR.c0
    have c1 := HR.c1
    have f1 := HR.f1
    have hat := HR.at
    have hln : (Lib.byteCells acc).length + 4 ≤ 140737488355328 := by rw [Lib.byteCells_length]; omega
    obtain ⟨n2, hn2⟩ : ∃ n2, n = n2 + 1 := ⟨n - 1, by omega⟩
    subst hn2
    by_cases h32 : pk s k < 32
    · have HK := Lib.hid (HS.out.symm.trans (textL_ctl (n := n2) (acc := acc) h32))
      go_wp2_with (first
        | (go_at_call 55; (with_reducible refine (peek_b HR).mono ?_); rintro e w1 ⟨rfl, hb⟩; replace HR := HR.below hb; (try replace HI := IsB.mv HI (Mv.of (r := r) hb) hrb); (try replace hbs := Nat.le_trans hbs hb.size); replace HM := HM.trans (Mv.of hb); clear hb; replace c0 := HR.c0; replace c1 := HR.c1; replace f1 := HR.f1)
        | (go_at_call 39; (with_reducible refine (fail_any _ _ _ _).mono ?_); rintro e w5 ⟨⟨g, rfl, hg⟩, hb⟩))
      exact ⟨rfl, Got.bad HK.out (HM.trans (Mv.of hb)) ⟨g, rfl, hg⟩⟩
    · have hks : k < s.size := pk_nonneg (by omega)
      obtain ⟨k2, hk2⟩ : ∃ k2, k2 = k + 1 := ⟨_, rfl⟩
      have HK2 := Lib.hid hk2
      have hk2s : k2 ≤ s.size := by omega
      have hk2p : 1 ≤ k2 := by omega
      have hk2k : k < k2 := by omega
      by_cases h34 : pk s k = 34
      · have HK : Hid (textTo s i = .ok ⟨acc.toArray⟩ k2) := Lib.hid (HS.out.symm.trans (by rw [hk2]; exact textL_end h34))
        clear hk2
        go_wp2_with (first
          | (go_at_call 55; (with_reducible refine (peek_b HR).mono ?_); rintro e w1 ⟨rfl, hb⟩; replace HR := HR.below hb; (try replace HI := IsB.mv HI (Mv.of (r := r) hb) hrb); (try replace hbs := Nat.le_trans hbs hb.size); replace HM := HM.trans (Mv.of hb); clear hb; replace c0 := HR.c0; replace c1 := HR.c1; replace f1 := HR.f1)
          | ((with_reducible refine is_store ?_); refine wpl_at rfl (.tmp 69) (.tmp 67) rfl rfl k2 (by rw [HK2.out]; rfl) HR ?_; intro w2 hr2 hm2; replace HR := hr2; (try replace HI := IsB.mv HI hm2 hrb); (try replace hbs := Nat.le_trans hbs hm2.size); replace HM := HM.trans hm2; clear hr2 hm2; replace c0 := HR.c0; replace c1 := HR.c1; replace f1 := HR.f1)
          | (go_at_call 45; (with_reducible refine (Tryz.Builder_String_any_k _ _ acc _ HI hbs).mono ?_); rintro e w6 ⟨rfl, HI6, hb6, _⟩; replace HR := Rd.low HR hb6 hrb; replace HM := HM.low hb6 hwb; clear hb6 HI6))
        refine bodyPost_ret (results_tmp rfl _ _ _) rfl ?_
        exact Got.ok HK.out HM rfl HR
      · by_cases h92 : pk s k = 92
        · cases ho : charTo s k2 with
          | bad c p =>
            have HK : Hid (textTo s i = .bad c p) := Lib.hid (HS.out.symm.trans (textL_esc_bad h92 (by rw [← hk2]; exact ho)))
            clear hk2
            go_wp2_with (first
              | (go_at_call 55; (with_reducible refine (peek_b HR).mono ?_); rintro e w1 ⟨rfl, hb⟩; replace HR := HR.below hb; (try replace HI := IsB.mv HI (Mv.of (r := r) hb) hrb); (try replace hbs := Nat.le_trans hbs hb.size); replace HM := HM.trans (Mv.of hb); clear hb; replace c0 := HR.c0; replace c1 := HR.c1; replace f1 := HR.f1)
              | ((with_reducible refine is_store ?_); refine wpl_at rfl (.tmp 80) (.tmp 78) rfl rfl k2 (by rw [HK2.out]; rfl) HR ?_; intro w2 hr2 hm2; replace HR := hr2; (try replace HI := IsB.mv HI hm2 hrb); (try replace hbs := Nat.le_trans hbs hm2.size); replace HM := HM.trans hm2; clear hr2 hm2; replace c0 := HR.c0; replace c1 := HR.c1; replace f1 := HR.f1)
              | (go_at_call 82; have HG4 := hG.mv HM; (with_reducible refine (char_any HR HG4 hk2s hk2p hs).mono ?_); rw [ho]; rintro e w4 ⟨hm, ⟨g, rfl, hg⟩⟩; replace HM := HM.trans hm))
            exact ⟨rfl, Got.bad HK.out HM ⟨g, rfl, hg⟩⟩
          | ok x k3 =>
            have hgo := char_goes x k3 ho
            have hxb := char_bounds ho
            have hx0 : -2147483648 ≤ x := by omega
            have hx1 : x ≤ 2147483647 := by omega
            have HS2 : Hid (textL s n2 k3 (acc ++ Lib.encodeRune x) = textTo s i) := Lib.hid (by rw [← HS.out]; exact (textL_esc h92 (by rw [← hk2]; exact ho)).symm)
            clear hk2
            go_wp2_with (first
              | (go_at_call 55; (with_reducible refine (peek_b HR).mono ?_); rintro e w1 ⟨rfl, hb⟩; replace HR := HR.below hb; (try replace HI := IsB.mv HI (Mv.of (r := r) hb) hrb); (try replace hbs := Nat.le_trans hbs hb.size); replace HM := HM.trans (Mv.of hb); clear hb; replace c0 := HR.c0; replace c1 := HR.c1; replace f1 := HR.f1)
              | ((with_reducible refine is_store ?_); refine wpl_at rfl (.tmp 80) (.tmp 78) rfl rfl k2 (by rw [HK2.out]; rfl) HR ?_; intro w2 hr2 hm2; replace HR := hr2; (try replace HI := IsB.mv HI hm2 hrb); (try replace hbs := Nat.le_trans hbs hm2.size); replace HM := HM.trans hm2; clear hr2 hm2; replace c0 := HR.c0; replace c1 := HR.c1; replace f1 := HR.f1)
              | (go_at_call 82; have HG4 := hG.mv HM; (with_reducible refine (char_any HR HG4 hk2s hk2p hs).mono ?_); rw [ho]; rintro e w4 ⟨hm, rfl, hr4⟩; replace HR := hr4; replace HI := IsB.mv HI hm hrb; replace hbs := Nat.le_trans hbs hm.size; replace HM := HM.trans hm; clear hr4 hm; replace c0 := HR.c0; replace c1 := HR.c1; replace f1 := HR.f1)
              | (go_at_call 81; (with_reducible refine (wrune_any HI hx0 hx1 hln hbs).mono ?_); rintro e w6 ⟨⟨nn, rfl⟩, HI6, hb6⟩; replace HI := HI6; clear HI6; replace HR := Rd.low HR hb6 hrb; replace HM := HM.low hb6 hwb; replace hbs := Nat.le_trans hbs hb6.size; clear hb6; replace c0 := HR.c0; replace c1 := HR.c1; replace f1 := HR.f1))
            have hl4 := Lib.runeCells_le x
            rw [Lib.runeCells_length] at hl4
            exact ⟨⟨k3, n2, acc ++ Lib.encodeRune x, hgo.2, HR, HM, by rw [Lib.byteCells_append, Lib.byteCells_encodeRune]; exact HI, hbs, by omega, by simp; omega, HS2⟩, by rw [HR.at, hat]; omega⟩
        · have hdb := dec_bounds s k hks
          have hdr := dec_rune s k
          have hA : 0 ≤ (k : Int) ∧ (k : Int) ≤ (s.size : Int) := by omega
          have hA1 : (k : Int) ≤ (s.size : Int) := hA.2
          have ht1 : ((k : Int)).toNat = k := by omega
          have HKB : Hid ((Utf8.decode s k).1 = 65533 ∧ (Utf8.decode s k).2 ≤ 1 → textTo s i = .bad 7 k) := Lib.hid fun hh => HS.out.symm.trans (textL_utf h32 h34 h92 hh)
          have HKG : Hid (¬ ((Utf8.decode s k).1 = 65533 ∧ (Utf8.decode s k).2 ≤ 1) → textL s n2 (k + (Utf8.decode s k).2) (acc ++ Lib.encodeRune ((Utf8.decode s k).1 : Nat)) = textTo s i) := Lib.hid fun hh => by rw [← HS.out]; exact (textL_go h32 h34 h92 hh).symm
          have hgd := decodeGo_at s k hks
          generalize hD1 : (Utf8.decode s k).1 = D1 at *
          generalize hD2 : (Utf8.decode s k).2 = D2 at *
          have HD1 := Lib.hid hD1
          have HD2 := Lib.hid hD2
          have HGD := Lib.hid hgd
          have hd0 := hdb.1
          have hdl := hdb.2
          obtain ⟨k3, hk3⟩ : ∃ k3, k3 = k + D2 := ⟨_, rfl⟩
          have HK3 := Lib.hid hk3
          have hk3s : k3 ≤ s.size := by omega
          have hk3k : k < k3 := by omega
          have hI1 : 0 ≤ (k : Int) + (D2 : Int) := by omega
          have hI2 : (k : Int) + (D2 : Int) ≤ 65536 := by omega
          have hx0 : -2147483648 ≤ (D1 : Int) := by omega
          have hx1 : (D1 : Int) ≤ 2147483647 := by omega
          clear hD1 hD2 hgd hdb hk3 hk2
          go_wp2_with (go_at_call 55; (with_reducible refine (peek_b HR).mono ?_); rintro e w1 ⟨rfl, hb⟩; replace HR := HR.below hb; (try replace HI := IsB.mv HI (Mv.of (r := r) hb) hrb); (try replace hbs := Nat.le_trans hbs hb.size); replace HM := HM.trans (Mv.of hb); clear hb; replace c0 := HR.c0; replace c1 := HR.c1; replace f1 := HR.f1)
          have HG4 := hG.mv HM
          refine wp_region_below (by kernel_rfl) (fun w8 hHeld => ?_)
          refine TKC 0 17 rfl ?_
          try simp only [Act.put, zA, zB, zC]
          refine TKC 1 18 rfl ?_
          try simp only [Act.put, zA, zB, zC]
          refine TKC 2 19 rfl ?_
          try simp only [Act.put, zA, zB, zC]
          refine TKB 3 20 ?_ rfl ?_ ?_
          rotate_left
          · (intro w hSw; (try dsimp only at hSw); have := cell_below hSw c0; go_simp; try with_reducible rfl)
          try simp only [Act.put, zA, zB, zC]
          refine TKC 4 21 rfl ?_
          try simp only [Act.put, zA, zB, zC]
          refine TKC 5 22 rfl ?_
          try simp only [Act.put, zA, zB, zC]
          refine TKC 6 23 rfl ?_
          try simp only [Act.put, zA, zB, zC]
          refine TKB 7 24 ?_ rfl ?_ ?_
          rotate_left
          · (intro w hSw; (try dsimp only at hSw); have := cell_below hSw c1; go_simp; try with_reducible rfl)
          try simp only [Act.put, zA, zB, zC]
          refine TKB 8 25 (.string (s.extract k s.size)) rfl ?_ ?_
          · (intro w hSw; (try dsimp only at hSw); go_simp; try simp only [if_pos hA, ht1]; try simp [hA1])
          try simp only [Act.put, zA, zB, zC]
          have HS8 := (HG4.below hHeld).tabs
          refine wpAnyH_ready (rs := [9]) (by kernel_rfl) (by simp) ?_
          refine AllReadyH.cons (o := ⟨some 26, _, _, _, _, _⟩) rfl (fun K hK => ?_) AllReadyH.nil
          go_simp
          (go_at_call 83; (with_reducible refine (Tryz.utf8_DecodeRuneInString _ _ HS8).mono ?_); rw [HGD.out, HD1.out, HD2.out]; rintro e w9 ⟨rfl, hb3⟩)
          refine hK.out _ _ (zT hHeld hb3) (fun hHeld2 => ?_)
          clear hK K hHeld hb3
          have hHeld := hHeld2
          clear hHeld2
          try simp only [Act.put, zA, zB, zC]
          refine TKC 10 16 rfl ?_
          try simp only [Act.put, zA, zB, zC]
          refine TKC 11 27 rfl ?_
          try simp only [Act.put, zA, zB, zC]
          refine TKC 12 28 rfl ?_
          try simp only [Act.put, zA, zB, zC]
          refine TKC 13 5 rfl ?_
          try simp only [Act.put, zA, zB, zC]
          refine TKC 14 6 rfl ?_
          try simp only [Act.put, zA, zB, zC]
          refine wpAnyH_done (by kernel_rfl) ?_ _
          have hb8 := hHeld
          clear hHeld HS8
          replace HR := HR.below hb8
          replace HI := IsB.mv HI (Mv.of (r := r) hb8) hrb
          replace hbs := Nat.le_trans hbs hb8.size
          replace HM := HM.trans (Mv.of hb8)
          replace c0 := HR.c0
          replace c1 := HR.c1
          have f1 := HR.f1
          clear hb8
          by_cases e1 : D1 = 65533
          · have e1' : (D1 : Int) = 65533 := by omega
            by_cases e2 : D2 ≤ 1
            · have e2' : (D2 : Int) ≤ 1 := by omega
              have HK := Lib.hid (HKB.out ⟨e1, e2⟩)
              go_wp2_with (go_at_call 39; (with_reducible refine (fail_any _ _ _ _).mono ?_); rintro e w5 ⟨⟨g, rfl, hg⟩, hb⟩)
              exact ⟨rfl, Got.bad HK.out (HM.trans (Mv.of hb)) ⟨g, rfl, hg⟩⟩
            · have e2' : ¬ (D2 : Int) ≤ 1 := by omega
              have HS2 : Hid (textL s n2 (k + D2) (acc ++ Lib.encodeRune 65533) = textTo s i) := Lib.hid (by have := HKG.out (fun h => e2 h.2); rw [e1] at this; exact this)
              have hy0 : -2147483648 ≤ (65533 : Int) := by omega
              have hy1 : (65533 : Int) ≤ 2147483647 := by omega
              go_wp2_with (first
                | (go_at_call 81; (with_reducible refine (wrune_any HI hy0 hy1 hln hbs).mono ?_); rintro e w6 ⟨⟨nn, rfl⟩, HI6, hb6⟩; replace HI := HI6; clear HI6; replace HR := Rd.low HR hb6 hrb; replace HM := HM.low hb6 hwb; replace hbs := Nat.le_trans hbs hb6.size; clear hb6; replace c0 := HR.c0; replace c1 := HR.c1; replace f1 := HR.f1)
                | ((with_reducible refine is_store ?_); refine wpl_at rfl (.tmp 50) (.tmp 48) rfl rfl k3 (by rw [HK3.out]; rfl) HR ?_; intro w2 hr2 hm2; replace HR := hr2; (try replace HI := IsB.mv HI hm2 hrb); (try replace hbs := Nat.le_trans hbs hm2.size); replace HM := HM.trans hm2; clear hr2 hm2; replace c0 := HR.c0; replace c1 := HR.c1; replace f1 := HR.f1))
              have hl4 := Lib.runeCells_le (65533 : Int)
              rw [Lib.runeCells_length] at hl4
              simp only [Act.put, List.setIfInBounds_toArray, List.set_cons_zero, List.set_cons_succ]
              go_roundw
              case rel => exact ⟨k3, n2, acc ++ Lib.encodeRune 65533, hk3s, HR, HM, by rw [Lib.byteCells_append, Lib.byteCells_encodeRune]; exact HI, hbs, by omega, by simp; omega, HK3.out ▸ HS2⟩
              case measure => rw [HR.at, hat]; omega
          · have e1' : ¬ (D1 : Int) = 65533 := by omega
            have HS2 := Lib.hid (HKG.out (fun h => e1 h.1))
            go_wp2_with (first
              | (go_at_call 81; (with_reducible refine (wrune_any HI hx0 hx1 hln hbs).mono ?_); rintro e w6 ⟨⟨nn, rfl⟩, HI6, hb6⟩; replace HI := HI6; clear HI6; replace HR := Rd.low HR hb6 hrb; replace HM := HM.low hb6 hwb; replace hbs := Nat.le_trans hbs hb6.size; clear hb6; replace c0 := HR.c0; replace c1 := HR.c1; replace f1 := HR.f1)
              | ((with_reducible refine is_store ?_); refine wpl_at rfl (.tmp 50) (.tmp 48) rfl rfl k3 (by rw [HK3.out]; rfl) HR ?_; intro w2 hr2 hm2; replace HR := hr2; (try replace HI := IsB.mv HI hm2 hrb); (try replace hbs := Nat.le_trans hbs hm2.size); replace HM := HM.trans hm2; clear hr2 hm2; replace c0 := HR.c0; replace c1 := HR.c1; replace f1 := HR.f1))
            have hl4 := Lib.runeCells_le (D1 : Int)
            rw [Lib.runeCells_length] at hl4
            simp only [Act.put, List.setIfInBounds_toArray, List.set_cons_zero, List.set_cons_succ]
            go_roundw
            case rel => exact ⟨k3, n2, acc ++ Lib.encodeRune (D1 : Nat), hk3s, HR, HM, by rw [Lib.byteCells_append, Lib.byteCells_encodeRune]; exact HI, hbs, by omega, by simp; omega, HK3.out ▸ HS2⟩
            case measure => rw [HR.at, hat]; omega
end Go.Proofs.YtnjhmnolngdfaaaGreatDoor
