/- Layer 9: the law HttpFeeds, walked. -/
import Derived.Test.YtbehakabglegjaaGreatDoorQ41
import Derived.Test.YtbehakabglegjaaGreatDoorQ40
import Derived.Test.YtbehakabglegjaaGreatDoorQ43
import Derived.Test.YtbehakabglegjaaGreatDoorQ30
import Derived.Test.YtbehakabglegjaaGreatDoorQ25
import Derived.Test.YtbehakabglegjaaGreatDoorQZip
namespace Go.Proofs.YtbehakabglegjaaGreatDoor
open Go.RowKit Go.PlainAid
set_option linter.unusedVariables false
set_option linter.unusedSimpArgs false
theorem bes_none {w w' : World} (h : Bes (fun q => (Value.slice none 0 0).ownBlock = some q) w w') : Below w.heap.size w w' := ⟨h.os, h.tape, h.output, h.size, fun k hk => h.block k hk (fun e => by cases e)⟩
theorem bt_kept2 {w w' : World} {v : Value} {l : List UInt8} (h : BtAt w v l) (hk : ∀ q, v.ownBlock = some q → w'.heap[q]? = w.heap[q]?) : BtAt w' v l := by
  obtain ⟨A, c, hv, hc⟩ := h
  refine ⟨A, c, hv, fun i u hu => ?_⟩
  obtain ⟨b, off, hA, h1⟩ := hc i u hu
  exact ⟨b, off, hA, (World.cell?_of_block (hk b (by rw [hv, hA]; rfl))).trans h1⟩
theorem one_u8 : (Tryz.prog.info? 5).map (·.size) = some 1 := by kernel_rfl
theorem FI.drop2 {f : Fs} (h : FI f) : FI { f with whole := [] } := ⟨h.shut, h.head, h.tok, h.heads, h.body, h.next, h.ver, h.sta, h.val, h.wide, h.size, h.dig, h.early, h.state, h.some_, h.none_⟩
/-- The two feeds go on together, or are both shut. -/
def FsR (ans : Bool) (G : Fs) (nx : Value) (o : List UInt8) (ah : Nat) (sh : Bool) (k : Nat) : Prop := (sh = false ∧ nx = stepV G.next ∧ FI G ∧ HZ G ∧ runS (newA ans ah) o = .inl { G with whole := [] } ∧ ah + o.length = k ∧ G.pos = k) ∨ (sh = true ∧ G.shut = true)
theorem feed_rel {ans : Bool} {G : Fs} {ah : Nat} {o p : List UInt8} (h : runS (newA ans ah) o = .inl { G with whole := [] }) : runS (newA ans ah) (o ++ p) = feedS G p := by
  rw [run_app, h]
  rfl
theorem rows_small (Ls : List (List UInt8)) : Ls.length + (Ls.map List.length).sum = (Ls.map fun r => r.length + 1).sum := by
  induction Ls with
  | nil => rfl
  | cons a l ih => simp only [List.length_cons, List.map_cons, List.sum_cons]; omega
theorem sum_next {Ls : List (List UInt8)} {i : Nat} {r : List UInt8} (h : Ls[i]? = some r) : ((Ls.take (i + 1)).map List.length).sum = ((Ls.take i).map List.length).sum + r.length := by
  rw [List.take_add_one, h]
  simp
theorem sum_le {Ls : List (List UInt8)} (i : Nat) : ((Ls.take i).map List.length).sum ≤ (Ls.map List.length).sum := by
  have h : Ls = Ls.take i ++ Ls.drop i := (List.take_append_drop i Ls).symm
  conv => rhs; rw [h]
  rw [List.map_append, List.sum_append]
  omega
theorem own_shut {b0 n1 n2 g1 d oc : Nat} {ans : Bool} {G : Fs} {nx tk hs bd wh : Value} {Lf : List Mm} {o : List UInt8} {ov : Value} {ah : Nat} {sh : Bool} {tv wv : Value} {M N : List Mm} {w4 w5 : World} {oA : Option Addr} {r : List UInt8} (ho : OwnO w5 w4.heap.size (.slice oA r.length oc) r) (h : FsP b0 n1 n2 g1 d ans G nx tk hs bd wh Lf o ov ah sh tv wv M N w4) :
    ∀ ob oo, oA = some ⟨ob, oo, none⟩ → w4.heap.size ≤ ob ∧ ¬ Live g1 tk hs bd wh ob ∧ (∀ x ∈ Lf, MOff (fun q => q = ob) x) ∧ (0 < r.length → ∃ cur, IBox w5 ob 5 cur ∧ oo + r.length ≤ cur.size) := by
  rintro ob oo rfl
  have h1 := (ho.lt ob rfl).1
  refine ⟨h1, fun y => by have := h.lt.2.2 ob y; omega, fun x hx => ⟨fun q e y => ?_, fun q e y => ?_⟩, fun hr => ?_⟩
  · have y2 : q = ob := y
    have := (h.f.2.ms x hx).1.2.2.1 q (.inl e)
    omega
  · have y2 : q = ob := y
    have := (h.f.2.ms x hx).1.2.2.1 q (.inr e)
    omega
  · rcases ho with ⟨e, _⟩ | ⟨g, off, cap, cur, hv, hb, hI, hn, hcm, hof, _⟩
    · cases e
    · injection hv with e1 e2 e3
      injection e1 with e1
      injection e1 with e1 e4
      subst e1 e4
      exact ⟨cur, hI, by omega⟩
theorem open_eq {ans : Bool} {G : Fs} {ah : Nat} {o : List UInt8} (hs : G.shut = false) (h : runS (newA ans ah) o = .inl { G with whole := [] }) : openB G = (!false && decide (0 < o.length)) := by
  have h1 := run_open h rfl
  unfold openB
  rw [hs]
  show (true && decide (G.head ≠ 0)) = (true && _)
  rw [Bool.true_and, Bool.true_and]
  have h2 : (G.head ≠ 0) ↔ 0 < o.length := by rw [List.length_pos_iff]; exact h1
  exact decide_eq_decide.2 h2
theorem feed_B {n : Nat} {P av : Nat → Prop} {g : Nat} {F : Fs} {nx tk hs bd wh v : Value} {L : List Mm} {w : World} {l : List UInt8} (h : FdM ⟨n, P⟩ g F nx tk hs bd wh L w) (hav : ∀ q, av q → q < w.heap.size ∧ ¬ Live g tk hs bd wh q) (hnx : nx = stepV F.next) (hi : FI F) (hz : HZ F) (hw : Wh w n) (hl : l.length < 1099511627776) (hp : F.pos + l.length ≤ 4611686018427387904) (hv : ∀ w', Bl ⟨n, av⟩ w w' → BtAt w' v l) :
    Calls Tryz.prog 14 #[.pointer (some ⟨g, 0, none⟩), v] w (FedB n av g F l w) := by
  refine (feed_anyA h hav hnx hi hz hw hl hp hv).mono fun e w' hq => ?_
  unfold FeV at hq
  obtain ⟨hb, hq⟩ := hq
  have hno : ∀ L : List Mm, ∀ x ∈ L, MOff (fun _ => False) x := fun _ _ _ => ⟨fun _ _ z => z, fun _ _ z => z⟩
  cases hf : feedS F l with
  | inl G =>
    rw [hf] at hq
    obtain ⟨nx, tk, hs, bd, wh, L, rfl, hm, h1, h2, h3⟩ := hq
    exact ⟨G, nx, tk, hs, bd, wh, L, _, rfl, hm.lets (fun q h => h.elim) (hno L), hm.2.off, hm.2.ma, hb, .inl ⟨hf, rfl, h1, h2, h3⟩⟩
  | inr r =>
    obtain ⟨k, p, M⟩ := r
    rw [hf] at hq
    obtain ⟨G, nx, tk, hs, bd, wh, L, ev, rfl, hm, h1, h2, N, h3, h4⟩ := hq
    exact ⟨G, nx, tk, hs, bd, wh, L, ev, rfl, hm.lets (fun q h => h.elim) (hno L), hm.2.off, hm.2.ma, hb, .inr ⟨k, p, N, by rw [hf, h2], h3, h4, h1⟩⟩
set_option maxRecDepth 100000 in
set_option maxHeartbeats 32000000 in
theorem feeds_any {lv : Value} {Ls : List (List UInt8)} {ans : Bool} {w : World} (hL : RwAt w lv Ls) (hn : Ls.length ≤ 1048576) (hs : (Ls.map List.length).sum ≤ 1048576) (hw : Wh w w.heap.size) (hE : ErrTy w) (hE0 : 0 < w.heap.size) :
    Calls Tryz.prog 7 #[lv, .bool ans] w fun e w' => e = .returned (.bool true) ∧ Below w.heap.size w w' := by
  obtain ⟨lA, lc, rfl, hcells⟩ := id hL
  have HRW := Lib.hid hL
  have HN := Lib.hid hn
  have HS := Lib.hid hs
  have HW := Lib.hid hw
  have HE : Hid (∀ w', Below w.heap.size w w' → ErrTy w' ∧ 0 < w'.heap.size) := Lib.hid fun w' hb => ⟨hE.bes (Bes.of_below (X := fun _ => False) hb) (fun x => x), Nat.lt_of_lt_of_le hE0 hb.size⟩
  have HCL := Lib.hid hcells
  clear hL hn hs hw hE hE0 hcells
  go_enter Tryz.func7, Tryz.ntmps7
  go_wp2_with (first
    | (go_at_call 9; (refine (shown_any HW.out).mono ?_); rintro e w1 ⟨rfl, hb⟩; have HB1 := hb; clear hb)
    | (go_at_call 13; (with_reducible refine (new_any ans w1).mono ?_); rintro e w2 ⟨rfl, hM, hb⟩; have HM0 := Lib.hid hM; have HB2 := zT HB1 hb; clear hM hb)
    | (go_at_call 25; (with_reducible refine (rnew_any ans w2).mono ?_); rintro e w3 ⟨rfl, hR, hb⟩; have HLT : Hid (w1.heap.size < w2.heap.size) := Lib.hid (HM0.out.2.gl.2); have HM1 := Lib.hid (HM0.out.bes (X := fun _ => False) (Bes.of_heap hb) (fun _ x => x.elim) (fun x hx => by cases hx)); have HM2 := Lib.hid hR; have HB := zT HB2 hb; clear hR hb HM0))
  have HFS : Hid (FsP w3.heap.size w1.heap.size w2.heap.size w1.heap.size w2.heap.size ans (newS ans) (stepV (newS ans).next) (.slice none 0 0) (.slice none 0 0) (.slice none 0 0) (.slice none 0 0) [] [] (.slice none 0 0) 0 false (.slice none 0 0) (.slice none 0 0) [] [] w3) := Lib.hid ⟨HM1.out, HM2.out, (fun q y e => by
    have h1 := HM1.out.live2
    rcases y with y | y | y | y | y
    · rcases e with e | e
      · have := HLT.out; omega
      · cases e
    · cases y
    · cases y
    · cases y
    · cases y), ⟨rfl, .inl ⟨rfl, rfl⟩⟩, ⟨rfl, .inl ⟨rfl, rfl⟩⟩, (fun q e => by cases e), (fun q e => by cases e), (fun q e => by cases e), (fun x hx => by cases hx), (fun x hx => by cases hx)⟩
  have HN1 : Hid (w.heap.size ≤ w1.heap.size) := Lib.hid HB1.size
  have HN2 : Hid (w.heap.size ≤ w2.heap.size) := Lib.hid HB2.size
  have HN3 : Hid (w.heap.size ≤ w3.heap.size) := Lib.hid HB.size
  clear HM1 HM2 HB1 HB2 HLT
  generalize hb0 : w3.heap.size = b0 at *
  have HB03 := Lib.hid (Nat.le_of_eq hb0.symm)
  clear hb0
  generalize w2.heap.size = n2 at *
  generalize w1.heap.size = n1 at *
  go_loopw [8, 9, 10] (fun tv0 wv0 iv wr => ∃ (i : Nat) (tv wv : Value) (G : Fs) (nx tk hs bd wh : Value) (Lf : List Mm) (o : List UInt8) (ov : Value) (ah : Nat) (sh : Bool) (M N : List Mm), tv = tv0 ∧ wv = wv0 ∧ iv = .int .i64 (i : Int) ∧ i ≤ Ls.length ∧ Below w.heap.size w wr ∧ b0 ≤ wr.heap.size ∧ Hid (FsP b0 n1 n2 n1 n2 ans G nx tk hs bd wh Lf o ov ah sh tv wv M N wr) ∧ Hid (M.map (·.m) = N.map (·.m) ∧ M.length ≤ ((Ls.take i).map List.length).sum ∧ FsR ans G nx o ah sh ((Ls.take i).map List.length).sum)) (fun _ _ iv _ => match iv with | .int _ i => Ls.length - i.toNat | _ => 0)
  case atStart => exact ⟨0, _, _, newS ans, _, _, _, _, _, [], [], _, 0, false, [], [], rfl, rfl, rfl, Nat.zero_le _, HB, HB03.out, HFS, Lib.hid ⟨rfl, Nat.zero_le _, .inl ⟨rfl, rfl, FI.new ans, newS_HZ ans, (by cases ans <;> rfl), rfl, (by cases ans <;> rfl)⟩⟩⟩
  case round =>
    clear HB HFS
    obtain ⟨i, tv, wv, G, nx, tk, hs, bd, wh, Lf, o, ov, ah, sh, M, N, rfl, rfl, rfl, hi, HB, hb0, HFS, HRL⟩ := hrel
    obtain ⟨w4, rfl⟩ : ∃ w4, w4 = wr := ⟨_, rfl⟩
    have hln := HN.out
    have HB0 := Lib.hid hb0
    have HWR : Hid (w.heap.size ≤ w4.heap.size) := Lib.hid HB.size
    clear hb0
    by_cases hlt : i < Ls.length
    · obtain ⟨r, hr⟩ : ∃ r, Ls[i]? = some r := ⟨_, List.getElem?_eq_getElem hlt⟩
      obtain ⟨bq, oq, u, hA, hcu, hbt, hcp⟩ := HCL.out i r hr
      subst hA
      obtain ⟨uA, uc, rfl, _⟩ := id hbt
      have HCU := Lib.hid hcu
      have HBT := Lib.hid hbt
      have HSN := Lib.hid (sum_next hr)
      have HTL : Hid (((Ls.take i).map List.length).sum + r.length ≤ 1048576) := Lib.hid (by have h1 := sum_le (Ls := Ls) (i + 1); rw [sum_next hr] at h1; have := HS.out; omega)
      have hrl : (r.length : Int) ≤ 1048576 := by have := HTL.out; omega
      have cu := cell_later HB hcu
      clear hcu hbt hcp hr
      rcases HRL.out.2.2 with ⟨rfl, rfl, hfi, hhz, hrel, hk1, hk2⟩ | ⟨rfl, hshut⟩
      · have HFI := Lib.hid hfi
        have HHZ := Lib.hid hhz
        have HREL : Hid (runS (newA ans ah) (o ++ r) = feedS G r) := Lib.hid (feed_rel hrel)
        have HK1 := Lib.hid hk1
        have HK2 := Lib.hid hk2
        have hrc := run_count r { G with whole := [] } (HFI.out.drop2) hhz
        have HRC := Lib.hid hrc
        clear hfi hhz hrel hk1 hk2 hrc
        cases hfs : feedS G r with
        | inl G9 =>
          have HFSR := Lib.hid hfs
          clear hfs
          go_wp2_with (first
            | ((with_reducible refine is_app (.tmp 34) (.tmp 38) ?_); go_loud (refine wpl_app_off rfl (.tmp 34) (.tmp 38) 23 rfl Tryz.underlying23 rfl (OwnO.nil w4 w4.heap.size) rfl (HBT.out.bes (X := fun _ => False) (Bes.of_below HB) (fun _ _ x => x)) (by have := HTL.out; simp only [List.length_nil]; omega) (Nat.le_refl _) ?_; intro v5 w5 ho5 hb5 hat5; rw [List.nil_append] at ho5; have hbl := bes_none hb5; replace HB := zT HB hbl; have HFS5 := Lib.hid (HFS.out.below hbl); have HO5 := Lib.hid ho5; obtain ⟨oA, oc, rfl, hoc, hrow5, _⟩ := ho5.row; have HROW5 := Lib.hid hrow5; have HSZ5 := Lib.hid hbl.size; clear ho5 hb5 hat5 hbl cu hoc hrow5))
            | (go_at_call 14; go_loud (refine (feed_B (l := r) (av := (fun q => q < w5.heap.size ∧ ¬ Live n1 tk hs bd wh q)) HFS5.out.f (fun q h => h) rfl HFI.out HHZ.out (fun W hW => (HW.out.below HB) W (hW.mono HN1.out)) (by have := HTL.out; omega) (by have := HTL.out; have := HK2.out; omega) (fun w' hbl => bt_kept2 (HROW5.out.bt oc) (fun q e => hbl.k q ⟨(HO5.out.lt q e).2, fun y => by have h1 := (HO5.out.lt q e).1; have h2 := HFS.out.lt.2.2 q y; omega⟩))).mono ?_); rintro e w6 hq; obtain ⟨G2, nx2, tk2, hs2, bd2, wh2, L2, ev, rfl, hfs6, hlv, hma, hbs, hbn, hd⟩ := HFS5.out.fed (P := (fun q => q < w5.heap.size ∧ ¬ Live n1 tk hs bd wh q)) (fun q => Iff.rfl) hq; obtain ⟨hg2, rfl, rfl, hfi2, hhz2⟩ := hd.resolve_right (fun ⟨c, p, N, h1, _⟩ => by rw [HFSR.out] at h1; cases h1); have HG2 : Hid (feedS G r = .inl G2) := Lib.hid hg2; have HFI2 := Lib.hid hfi2; have HHZ2 := Lib.hid hhz2; clear hg2 hfi2 hhz2; replace HB := HB.trans (hbn.mono HN1.out); have HFS6 := Lib.hid hfs6; have HOW : Hid (∀ ob oo, oA = some ⟨ob, oo, none⟩ → w4.heap.size ≤ ob ∧ ¬ Live n1 tk2 hs2 bd2 wh2 ob ∧ (∀ x ∈ L2, MOff (fun q => q = ob) x) ∧ (0 < r.length → ∃ cur, IBox w6 ob 5 cur ∧ oo + r.length ≤ cur.size)) := Lib.hid (own_keep HO5.out HFS.out.lt.2.2 hlv hma hbs); have HLD := Lib.hid (ld_off HFS5.out hma); have SZ6 : w4.heap.size ≤ w6.heap.size := Nat.le_trans HSZ5.out hbs.size; have cu := cell_later HB HCU.out; clear hq hfs6 hlv hma hbs hbn hd HFS5))
          go_loopw [14] (fun kv wx => ∃ k : Nat, kv = .int .i64 (k : Int) ∧ k ≤ r.length ∧ Below w.heap.size w wx ∧ w4.heap.size ≤ wx.heap.size ∧ Hid (FsP b0 n1 n2 n1 n2 ans G2 (stepV G2.next) tk2 hs2 bd2 wh2 L2 o ov ah false tv wv M N wx) ∧ Hid ((∀ ob oo, oA = some ⟨ob, oo, none⟩ → 0 < r.length → ∃ cur, IBox wx ob 5 cur ∧ oo + r.length ≤ cur.size))) (fun kv _ => match kv with | .int _ k => r.length - k.toNat | _ => 0)
          case atStart => exact ⟨0, rfl, Nat.zero_le _, HB, SZ6, HFS6, Lib.hid (fun ob oo e hr => (HOW.out ob oo e).2.2.2 hr)⟩
          case round =>
            clear HB HFS6 cu
            obtain ⟨k, rfl, hk, HB, hsz7, HFS7, HOX⟩ := hrel
            have hrl2 : (r.length : Int) ≤ 1048576 := by have := HTL.out; omega
            have HSZ7 := Lib.hid hsz7
            clear hsz7
            by_cases hkr : k < r.length
            · obtain ⟨ob, oo, hoA, _⟩ := HROW5.out k _ (List.getElem?_eq_getElem hkr)
              subst hoA
              obtain ⟨cur, hIB, hcz⟩ := HOX.out ob oo rfl (by omega)
              obtain ⟨q1, q2, q3, q4⟩ := HOW.out ob oo rfl
              have hlt8 : oo + k < cur.size := by omega
              have HQ := Lib.hid (show w4.heap.size ≤ ob ∧ ¬ Live n1 tk2 hs2 bd2 wh2 ob ∧ ∀ x ∈ L2, MOff (fun q => q = ob) x from ⟨q1, q2, q3⟩)
              have HCZ := Lib.hid hcz
              have HKR := Lib.hid hkr
              clear q1 q2 q3 q4 hcz
              go_wp2_with (first
                | ((with_reducible refine is_store ?_); go_loud (refine wpl_store_cell rfl 5 (.tmp 54) _ rfl ob (oo + k) rfl (.int .u8 120) rfl _ _ hIB hlt8 one_u8 rfl ?_; intro w7 hw; have hbr : Bes (fun q => q = ob) wr w7 := Bes.row hw rfl; have hIB7 := hid_row hw hIB; replace HFS7 := Lib.hid (HFS7.out.fresh HFS.out.lt.1 (fun x hx => HFS.out.lt.2.1 x hx) HQ.out.1 HQ.out.2.1 HQ.out.2.2 hbr); replace HB := HB.trans (hbr.below (fun q e => by rw [show q = ob from e]; exact Nat.le_trans HWR.out HQ.out.1) HB.size); replace HSZ7 : Hid (w4.heap.size ≤ w7.heap.size) := Lib.hid (Nat.le_trans HSZ7.out hbr.size); clear hw hIB)))
              go_roundw
              case rel => exact ⟨k + 1, rfl, HKR.out, HB, HSZ7.out, HFS7, Lib.hid (fun ob2 oo2 e2 hr2 => by injection e2 with e2; injection e2 with e3 e4; subst e3 e4; exact ⟨_, hIB7, by rw [Array.size_setIfInBounds]; exact HCZ.out⟩)⟩
              case measure => (simp only; have := HKR.out; omega)
            · obtain rfl : k = r.length := by omega
              have cu := cell_later HB HCU.out
              clear hkr
              go_wp2_with (first
                | (go_at_call 26; go_loud (refine (rfeed_any HFS7.out.r (HBT.out.bes (X := fun _ => False) (Bes.of_below HB) (fun _ _ x => x)) (by have := HTL.out; have := HK1.out; omega) (by have := HTL.out; have := HK1.out; omega)).mono ?_); rintro e w8 hq; obtain ⟨o2, ov2, outv, ah2, sh2, Ld, x, pos, rfl, hfs8, hout, hLd, hL2, hon, hlen, hbn, hsz8, hbs8, hd⟩ := HFS7.out.rfed HLD.out hq; obtain ⟨rfl, rfl, rfl, F9, hf1, hf2, hf3, hf4⟩ := hd.resolve_right (fun h => by have h5 := h.2.2; rw [HREL.out, HG2.out] at h5; cases h5); have hFG : F9 = G2 := (by rw [HREL.out, HG2.out] at hf1; exact (Sum.inl.inj hf1).symm); rw [hFG] at hf2 hf3; clear hFG hf1; have HRUN := Lib.hid hf3; have HAH2 := Lib.hid hf4; have HEQ : Hid (L2.map (·.m) = Ld.map (·.m)) := Lib.hid (hfs8.f.2.wl.trans hf2); have HKR9 : Hid (L2.length ≤ r.length) := Lib.hid (by have h1 := (HRC.out.1 G2 HG2.out).2.2.1; have h2 := congrArg List.length hfs8.f.2.wl; rw [List.length_map] at h2; simp only [List.length_nil, Nat.zero_add] at h1; omega); replace HB := HB.trans ((hbn (Nat.le_of_lt (Nat.lt_of_le_of_lt HFS7.out.r.gn HFS7.out.r.lt))).mono HN2.out); have HSZ8 : Hid (w4.heap.size ≤ w8.heap.size) := Lib.hid (Nat.le_trans HSZ7.out hsz8); have HQ : Hid (FsQ b0 n1 n2 n1 n2 ans G2 (stepV G2.next) tk2 hs2 bd2 wh2 L2 o2 ov2 ah2 false tv wv M N n1 _ wh2 L2 outv Ld w8) := Lib.hid ⟨hfs8, hfs8.f.2.rw_, hL2, hout, hLd, hon⟩; have HU : Hid (MmsAt w8 wh2 L2) := Lib.hid hfs8.f.mms; have HV : Hid (MmsAt w8 outv Ld) := Lib.hid (mms_row hout (fun x hx => mm_b (hLd x hx).1)); have HLM : Hid (M.length + L2.length ≤ 1099511627776) := Lib.hid (by have h1 := HRL.out.2.1; have h2 := HKR9.out; have h3 := HTL.out; omega); have HLN : Hid (N.length + Ld.length ≤ 1099511627776) := Lib.hid (by have h0 := congrArg List.length HRL.out.1; have h4 := congrArg List.length HEQ.out; simp only [List.length_map] at h0 h4; have h1 := HRL.out.2.1; have h2 := HKR9.out; have h3 := HTL.out; omega); have HML : Hid (L2.length ≤ 140737488355328) := Lib.hid (by have h2 := HKR9.out; have h3 := HTL.out; omega); have hopn := open_eq HFI2.out.shut hf3; obtain ⟨ob9, hob9⟩ : ∃ b9, openB G2 = b9 := ⟨_, rfl⟩; have HOP1 := Lib.hid hob9; have HOP2 : Hid ((!false && decide (0 < o2.length)) = ob9) := Lib.hid (by rw [← hob9]; exact hopn.symm); clear hopn hob9; clear hf2 hf3 hf4; clear hq hfs8 hout hLd hL2 hon hlen hbn hsz8 hbs8 hd HFS7 cu)
                | (go_at_call 15; go_loud ((refine (alike_yes HU.out HV.out HEQ.out HML.out).mono ?_); rintro e w9 ⟨rfl, hb⟩; replace HQ := Lib.hid (HQ.out.below hb); replace HSZ8 : Hid (w4.heap.size ≤ w9.heap.size) := Lib.hid (Nat.le_trans HSZ8.out hb.size); replace HB := zT HB hb; clear hb))
                | (go_at_call 27; (refine (refused_none _).mono ?_); rintro e w10 ⟨rfl, hb⟩; replace HQ := Lib.hid (HQ.out.below hb); replace HSZ8 : Hid (w4.heap.size ≤ w10.heap.size) := Lib.hid (Nat.le_trans HSZ8.out hb.size); replace HB := zT HB hb; clear hb)
                | (go_at_call 16; (with_reducible refine (open_any HQ.out.p.f).mono ?_); rintro e wo1 ⟨rfl, rfl⟩; rw [HOP1.out])
                | (go_at_call 28; (with_reducible refine (ropen_any HQ.out.p.r).mono ?_); rintro e wo2 ⟨rfl, rfl⟩; rw [HOP2.out])
                | ((with_reducible refine is_app (.tmp 96) (.tmp 97) ?_); refine wpl_app_mms rfl (.tmp 96) (.tmp 97) 39 rfl Tryz.underlying39 rfl HQ.out.p.t rfl HQ.out.mr (mm_sl (fun x hx => (HQ.out.kk x hx).1)) HLM.out (Nat.le_trans HB0.out HSZ8.out) ?_; intro v11 w11 k1 k2 k3; obtain ⟨hp11, ho11, hl11⟩ := HQ.out.told k1 k2 k3; have HP11 := Lib.hid hp11; have HO11 := Lib.hid ho11; have HL11 := Lib.hid hl11; replace HB := HB.trans (k2.below (fun q e => Nat.le_trans HN3.out (own_in HQ.out.p.t e).1) HB.size); replace HSZ8 : Hid (w4.heap.size ≤ w11.heap.size) := Lib.hid (Nat.le_trans HSZ8.out k2.size); clear k1 k2 k3 hp11 ho11 hl11 HQ)
                | ((with_reducible refine is_app (.tmp 99) (.tmp 100) ?_); refine wpl_app_mms rfl (.tmp 99) (.tmp 100) 39 rfl Tryz.underlying39 rfl HP11.out.u rfl HO11.out (mm_sl (fun x hx => (HL11.out x hx).1)) HLN.out (Nat.le_trans HB0.out HSZ8.out) ?_; intro v12 w12 k1 k2 k3; have HP12 := Lib.hid (HP11.out.want HL11.out k1 k2 k3); replace HB := HB.trans (k2.below (fun q e => Nat.le_trans HN3.out (own_in HP11.out.u e).1) HB.size); replace HSZ8 : Hid (w4.heap.size ≤ w12.heap.size) := Lib.hid (Nat.le_trans HSZ8.out k2.size); clear k1 k2 k3 HP11 HO11 HL11))
              go_roundw
              case rel => (first | exact ⟨i + 1, v11, v12, G2, _, tk2, hs2, bd2, wh2, L2, o2, ov2, ah2, false, M ++ L2, N ++ Ld, rfl, rfl, rfl, (by omega), HB, Nat.le_trans HB0.out HSZ8.out, HP12, Lib.hid ⟨by rw [List.map_append, List.map_append, HRL.out.1, HEQ.out], by rw [List.length_append, HSN.out]; have h1 := HRL.out.2.1; have h2 := HKR9.out; omega, .inl ⟨rfl, rfl, HFI2.out, HHZ2.out, HRUN.out, (by have h1 := HAH2.out; have h2 := HK1.out; have h3 := HSN.out; omega), (by have h1 := (HRC.out.1 G2 HG2.out).2.2.2.2; have h2 := HK2.out; have h3 := HSN.out; have h5 : ({ G with whole := [] } : Fs).pos = G.pos := rfl; omega)⟩⟩⟩ | ((repeat apply Exists.intro); exact ⟨⟨i + 1, v11, v12, G2, _, tk2, hs2, bd2, wh2, L2, o2, ov2, ah2, false, M ++ L2, N ++ Ld, rfl, rfl, rfl, (by omega), HB, Nat.le_trans HB0.out HSZ8.out, HP12, Lib.hid ⟨by rw [List.map_append, List.map_append, HRL.out.1, HEQ.out], by rw [List.length_append, HSN.out]; have h1 := HRL.out.2.1; have h2 := HKR9.out; omega, .inl ⟨rfl, rfl, HFI2.out, HHZ2.out, HRUN.out, (by have h1 := HAH2.out; have h2 := HK1.out; have h3 := HSN.out; omega), (by have h1 := (HRC.out.1 G2 HG2.out).2.2.2.2; have h2 := HK2.out; have h3 := HSN.out; have h5 : ({ G with whole := [] } : Fs).pos = G.pos := rfl; omega)⟩⟩⟩, rfl⟩))
              case measure => (simp only; omega)
        | inr t9 =>
          obtain ⟨c9, p9, W9⟩ := t9
          have HFSR := Lib.hid hfs
          have hc9 := (HRC.out.2 c9 p9 W9 hfs).1
          clear hfs
          have hc0 : c9 ≠ 0 := by omega
          have hcq : (c9 == 0) = false := by rw [beq_eq_false_iff_ne]; exact hc0
          have hcn : ¬ c9 = 0 := hc0
          have HC0 := Lib.hid hc0
          clear hc9 hc0
          go_wp2_with (first
            | ((with_reducible refine is_app (.tmp 34) (.tmp 38) ?_); go_loud (refine wpl_app_off rfl (.tmp 34) (.tmp 38) 23 rfl Tryz.underlying23 rfl (OwnO.nil w4 w4.heap.size) rfl (HBT.out.bes (X := fun _ => False) (Bes.of_below HB) (fun _ _ x => x)) (by have := HTL.out; simp only [List.length_nil]; omega) (Nat.le_refl _) ?_; intro v5 w5 ho5 hb5 hat5; rw [List.nil_append] at ho5; have hbl := bes_none hb5; replace HB := zT HB hbl; have HFS5 := Lib.hid (HFS.out.below hbl); have HO5 := Lib.hid ho5; obtain ⟨oA, oc, rfl, hoc, hrow5, _⟩ := ho5.row; have HROW5 := Lib.hid hrow5; have HSZ5 := Lib.hid hbl.size; clear ho5 hb5 hat5 hbl cu hoc hrow5))
            | (go_at_call 14; go_loud (refine (feed_B (l := r) (av := (fun q => q < w5.heap.size ∧ ¬ Live n1 tk hs bd wh q)) HFS5.out.f (fun q h => h) rfl HFI.out HHZ.out (fun W hW => (HW.out.below HB) W (hW.mono HN1.out)) (by have := HTL.out; omega) (by have := HTL.out; have := HK2.out; omega) (fun w' hbl => bt_kept2 (HROW5.out.bt oc) (fun q e => hbl.k q ⟨(HO5.out.lt q e).2, fun y => by have h1 := (HO5.out.lt q e).1; have h2 := HFS.out.lt.2.2 q y; omega⟩))).mono ?_); rintro e w6 hq; obtain ⟨G2, nx2, tk2, hs2, bd2, wh2, L2, ev, rfl, hfs6, hlv, hma, hbs, hbn, hd⟩ := HFS5.out.fed (P := (fun q => q < w5.heap.size ∧ ¬ Live n1 tk hs bd wh q)) (fun q => Iff.rfl) hq; obtain ⟨c8, p8, NF, hg2, rfl, hbf, hsh2⟩ := hd.resolve_left (fun h => by rw [HFSR.out] at h; cases h.1); have HG2 : Hid (c9 = c8 ∧ p9 = p8 ∧ G2.whole = W9) := Lib.hid (by rw [HFSR.out] at hg2; injection hg2 with e1; injection e1 with e1 e2; injection e2 with e2 e3; exact ⟨e1, e2, e3.symm⟩); have HBF := Lib.hid hbf; have HSH2 := Lib.hid hsh2; clear hg2 hbf hsh2; obtain ⟨rfl, rfl, _⟩ := id HG2.out; replace HB := HB.trans (hbn.mono HN1.out); have HFS6 := Lib.hid hfs6; have HOW : Hid (∀ ob oo, oA = some ⟨ob, oo, none⟩ → w4.heap.size ≤ ob ∧ ¬ Live n1 tk2 hs2 bd2 wh2 ob ∧ (∀ x ∈ L2, MOff (fun q => q = ob) x) ∧ (0 < r.length → ∃ cur, IBox w6 ob 5 cur ∧ oo + r.length ≤ cur.size)) := Lib.hid (own_keep HO5.out HFS.out.lt.2.2 hlv hma hbs); have HLD := Lib.hid (ld_off HFS5.out hma); have SZ6 : w4.heap.size ≤ w6.heap.size := Nat.le_trans HSZ5.out hbs.size; have cu := cell_later HB HCU.out; clear hq hfs6 hlv hma hbs hbn hd HFS5))
          go_loopw [14] (fun kv wx => ∃ k : Nat, kv = .int .i64 (k : Int) ∧ k ≤ r.length ∧ Below w.heap.size w wx ∧ w4.heap.size ≤ wx.heap.size ∧ Hid (FsP b0 n1 n2 n1 n2 ans G2 nx2 tk2 hs2 bd2 wh2 L2 o ov ah false tv wv M N wx) ∧ Hid ((∀ ob oo, oA = some ⟨ob, oo, none⟩ → 0 < r.length → ∃ cur, IBox wx ob 5 cur ∧ oo + r.length ≤ cur.size) ∧ IBox wx NF 85 (FaultA p9 c9))) (fun kv _ => match kv with | .int _ k => r.length - k.toNat | _ => 0)
          case atStart => exact ⟨0, rfl, Nat.zero_le _, HB, SZ6, HFS6, Lib.hid ⟨fun ob oo e hr => (HOW.out ob oo e).2.2.2 hr, HBF.out⟩⟩
          case round =>
            clear HB HFS6 cu HBF
            obtain ⟨k, rfl, hk, HB, hsz7, HFS7, HOX⟩ := hrel
            have hrl2 : (r.length : Int) ≤ 1048576 := by have := HTL.out; omega
            have HSZ7 := Lib.hid hsz7
            clear hsz7
            by_cases hkr : k < r.length
            · obtain ⟨ob, oo, hoA, _⟩ := HROW5.out k _ (List.getElem?_eq_getElem hkr)
              subst hoA
              obtain ⟨cur, hIB, hcz⟩ := HOX.out.1 ob oo rfl (by omega)
              obtain ⟨q1, q2, q3, q4⟩ := HOW.out ob oo rfl
              have hlt8 : oo + k < cur.size := by omega
              have HQ := Lib.hid (show w4.heap.size ≤ ob ∧ ¬ Live n1 tk2 hs2 bd2 wh2 ob ∧ ∀ x ∈ L2, MOff (fun q => q = ob) x from ⟨q1, q2, q3⟩)
              have HCZ := Lib.hid hcz
              have HKR := Lib.hid hkr
              clear q1 q2 q3 q4 hcz
              go_wp2_with (first
                | ((with_reducible refine is_store ?_); go_loud (refine wpl_store_cell rfl 5 (.tmp 54) _ rfl ob (oo + k) rfl (.int .u8 120) rfl _ _ hIB hlt8 one_u8 rfl ?_; intro w7 hw; have hbr : Bes (fun q => q = ob) wr w7 := Bes.row hw rfl; have hIB7 := hid_row hw hIB; replace HFS7 := Lib.hid (HFS7.out.fresh HFS.out.lt.1 (fun x hx => HFS.out.lt.2.1 x hx) HQ.out.1 HQ.out.2.1 HQ.out.2.2 hbr); replace HB := HB.trans (hbr.below (fun q e => by rw [show q = ob from e]; exact Nat.le_trans HWR.out HQ.out.1) HB.size); replace HSZ7 : Hid (w4.heap.size ≤ w7.heap.size) := Lib.hid (Nat.le_trans HSZ7.out hbr.size); have HBF7 := Lib.hid (flt_row HOX.out.2 hIB hbr); clear hw hIB)))
              go_roundw
              case rel => exact ⟨k + 1, rfl, HKR.out, HB, HSZ7.out, HFS7, Lib.hid ⟨fun ob2 oo2 e2 hr2 => by injection e2 with e2; injection e2 with e3 e4; subst e3 e4; exact ⟨_, hIB7, by rw [Array.size_setIfInBounds]; exact HCZ.out⟩, HBF7.out⟩⟩
              case measure => (simp only; have := HKR.out; omega)
            · obtain rfl : k = r.length := by omega
              have cu := cell_later HB HCU.out
              clear hkr
              go_wp2_with (first
                | (go_at_call 26; go_loud (refine (rfeed_any HFS7.out.r (HBT.out.bes (X := fun _ => False) (Bes.of_below HB) (fun _ _ x => x)) (by have := HTL.out; have := HK1.out; omega) (by have := HTL.out; have := HK1.out; omega)).mono ?_); rintro e w8 hq; obtain ⟨o2, ov2, outv, ah2, sh2, Ld, x, pos, rfl, hfs8, hout, hLd, hL2, hon, hlen, hbn, hsz8, hbs8, hd⟩ := HFS7.out.rfed HLD.out hq; obtain ⟨hx0, rfl, hf1⟩ := hd.resolve_left (fun h => by obtain ⟨_, _, _, F9, h5, _⟩ := h; rw [HREL.out, HFSR.out] at h5; cases h5); rw [HREL.out, HFSR.out] at hf1; injection hf1 with hf1; injection hf1 with e1 hf1; injection hf1 with e2 e3; subst e1; subst e2; have HEQ : Hid (L2.map (·.m) = Ld.map (·.m)) := Lib.hid (hfs8.f.2.wl.trans (HG2.out.2.2.trans e3)); have HKR9 : Hid (L2.length ≤ r.length) := Lib.hid (by have h1 := (HRC.out.2 c9 p9 W9 HFSR.out).2.1; have h2 := congrArg List.length (hfs8.f.2.wl.trans HG2.out.2.2); rw [List.length_map] at h2; simp only [List.length_nil, Nat.zero_add] at h1; omega); have HBF8 := Lib.hid (flt_keep HFS7.out HOX.out.2 hbs8); have HOP1 : Hid (openB G2 = false) := Lib.hid (by unfold openB; rw [HSH2.out]; rfl); have HOP2 : Hid ((!true && decide (0 < o2.length)) = false) := Lib.hid rfl; clear e3 hx0; replace HB := HB.trans ((hbn (Nat.le_of_lt (Nat.lt_of_le_of_lt HFS7.out.r.gn HFS7.out.r.lt))).mono HN2.out); have HSZ8 : Hid (w4.heap.size ≤ w8.heap.size) := Lib.hid (Nat.le_trans HSZ7.out hsz8); have HQ : Hid (FsQ b0 n1 n2 n1 n2 ans G2 nx2 tk2 hs2 bd2 wh2 L2 o2 ov2 ah2 true tv wv M N n1 _ wh2 L2 outv Ld w8) := Lib.hid ⟨hfs8, hfs8.f.2.rw_, hL2, hout, hLd, hon⟩; have HU : Hid (MmsAt w8 wh2 L2) := Lib.hid hfs8.f.mms; have HV : Hid (MmsAt w8 outv Ld) := Lib.hid (mms_row hout (fun x hx => mm_b (hLd x hx).1)); have HLM : Hid (M.length + L2.length ≤ 1099511627776) := Lib.hid (by have h1 := HRL.out.2.1; have h2 := HKR9.out; have h3 := HTL.out; omega); have HLN : Hid (N.length + Ld.length ≤ 1099511627776) := Lib.hid (by have h0 := congrArg List.length HRL.out.1; have h4 := congrArg List.length HEQ.out; simp only [List.length_map] at h0 h4; have h1 := HRL.out.2.1; have h2 := HKR9.out; have h3 := HTL.out; omega); have HML : Hid (L2.length ≤ 140737488355328) := Lib.hid (by have h2 := HKR9.out; have h3 := HTL.out; omega); clear hq hfs8 hout hLd hL2 hon hlen hbn hsz8 hbs8 hd HFS7 cu)
                | (go_at_call 15; go_loud ((refine (alike_yes HU.out HV.out HEQ.out HML.out).mono ?_); rintro e w9 ⟨rfl, hb⟩; replace HQ := Lib.hid (HQ.out.below hb); replace HBF8 := Lib.hid (IBox.below HBF8.out hb (IBox.lt HBF8.out)); replace HSZ8 : Hid (w4.heap.size ≤ w9.heap.size) := Lib.hid (Nat.le_trans HSZ8.out hb.size); replace HB := zT HB hb; clear hb))
                | (go_at_call 27; (refine (refused_fault HC0.out (HE.out _ HB).1 (HE.out _ HB).2 HBF8.out).mono ?_); rintro e w10 ⟨rfl, hb⟩; replace HQ := Lib.hid (HQ.out.below hb); replace HSZ8 : Hid (w4.heap.size ≤ w10.heap.size) := Lib.hid (Nat.le_trans HSZ8.out hb.size); replace HB := zT HB hb; clear hb)
                | (go_at_call 16; (with_reducible refine (open_any HQ.out.p.f).mono ?_); rintro e wo1 ⟨rfl, rfl⟩; rw [HOP1.out])
                | (go_at_call 28; (with_reducible refine (ropen_any HQ.out.p.r).mono ?_); rintro e wo2 ⟨rfl, rfl⟩; rw [HOP2.out])
                | ((with_reducible refine is_app (.tmp 96) (.tmp 97) ?_); refine wpl_app_mms rfl (.tmp 96) (.tmp 97) 39 rfl Tryz.underlying39 rfl HQ.out.p.t rfl HQ.out.mr (mm_sl (fun x hx => (HQ.out.kk x hx).1)) HLM.out (Nat.le_trans HB0.out HSZ8.out) ?_; intro v11 w11 k1 k2 k3; obtain ⟨hp11, ho11, hl11⟩ := HQ.out.told k1 k2 k3; have HP11 := Lib.hid hp11; have HO11 := Lib.hid ho11; have HL11 := Lib.hid hl11; replace HB := HB.trans (k2.below (fun q e => Nat.le_trans HN3.out (own_in HQ.out.p.t e).1) HB.size); replace HSZ8 : Hid (w4.heap.size ≤ w11.heap.size) := Lib.hid (Nat.le_trans HSZ8.out k2.size); clear k1 k2 k3 hp11 ho11 hl11 HQ)
                | ((with_reducible refine is_app (.tmp 99) (.tmp 100) ?_); refine wpl_app_mms rfl (.tmp 99) (.tmp 100) 39 rfl Tryz.underlying39 rfl HP11.out.u rfl HO11.out (mm_sl (fun x hx => (HL11.out x hx).1)) HLN.out (Nat.le_trans HB0.out HSZ8.out) ?_; intro v12 w12 k1 k2 k3; have HP12 := Lib.hid (HP11.out.want HL11.out k1 k2 k3); replace HB := HB.trans (k2.below (fun q e => Nat.le_trans HN3.out (own_in HP11.out.u e).1) HB.size); replace HSZ8 : Hid (w4.heap.size ≤ w12.heap.size) := Lib.hid (Nat.le_trans HSZ8.out k2.size); clear k1 k2 k3 HP11 HO11 HL11))
              go_roundw
              case rel => (first | exact ⟨i + 1, v11, v12, G2, nx2, tk2, hs2, bd2, wh2, L2, o2, ov2, ah2, true, M ++ L2, N ++ Ld, rfl, rfl, rfl, (by omega), HB, Nat.le_trans HB0.out HSZ8.out, HP12, Lib.hid ⟨by rw [List.map_append, List.map_append, HRL.out.1, HEQ.out], by rw [List.length_append, HSN.out]; have h1 := HRL.out.2.1; have h2 := HKR9.out; omega, .inr ⟨rfl, HSH2.out⟩⟩⟩ | ((repeat apply Exists.intro); exact ⟨⟨i + 1, v11, v12, G2, nx2, tk2, hs2, bd2, wh2, L2, o2, ov2, ah2, true, M ++ L2, N ++ Ld, rfl, rfl, rfl, (by omega), HB, Nat.le_trans HB0.out HSZ8.out, HP12, Lib.hid ⟨by rw [List.map_append, List.map_append, HRL.out.1, HEQ.out], by rw [List.length_append, HSN.out]; have h1 := HRL.out.2.1; have h2 := HKR9.out; omega, .inr ⟨rfl, HSH2.out⟩⟩⟩, rfl⟩))
              case measure => (simp only; omega)
      · have HSH := Lib.hid hshut
        clear hshut
        go_wp2_with (first
          | ((with_reducible refine is_app (.tmp 34) (.tmp 38) ?_); go_loud (refine wpl_app_off rfl (.tmp 34) (.tmp 38) 23 rfl Tryz.underlying23 rfl (OwnO.nil w4 w4.heap.size) rfl (HBT.out.bes (X := fun _ => False) (Bes.of_below HB) (fun _ _ x => x)) (by have := HTL.out; simp only [List.length_nil]; omega) (Nat.le_refl _) ?_; intro v5 w5 ho5 hb5 hat5; rw [List.nil_append] at ho5; have hbl := bes_none hb5; replace HB := zT HB hbl; have HFS5 := Lib.hid (HFS.out.below hbl); have HO5 := Lib.hid ho5; obtain ⟨oA, oc, rfl, hoc, hrow5, _⟩ := ho5.row; have HROW5 := Lib.hid hrow5; have HSZ5 := Lib.hid hbl.size; clear ho5 hb5 hat5 hbl cu hoc hrow5))
          | (go_at_call 14; go_loud ((refine (feed_shut HFS5.out.f HSH.out).mono ?_); rintro e w6 ⟨rfl, hw6⟩; have hw6 := hw6.symm; subst hw6; have HFS6 := HFS5; have HOW : Hid (∀ ob oo, oA = some ⟨ob, oo, none⟩ → w4.heap.size ≤ ob ∧ ¬ Live n1 tk hs bd wh ob ∧ (∀ x ∈ Lf, MOff (fun q => q = ob) x) ∧ (0 < r.length → ∃ cur, IBox w5 ob 5 cur ∧ oo + r.length ≤ cur.size)) := Lib.hid (own_shut HO5.out HFS.out); have SZ6 : w4.heap.size ≤ w5.heap.size := HSZ5.out; have cu := cell_later HB HCU.out; clear HFS5)))
        go_loopw [14] (fun kv wx => ∃ k : Nat, kv = .int .i64 (k : Int) ∧ k ≤ r.length ∧ Below w.heap.size w wx ∧ w4.heap.size ≤ wx.heap.size ∧ Hid (FsP b0 n1 n2 n1 n2 ans G nx tk hs bd wh Lf o ov ah true tv wv M N wx) ∧ Hid ((∀ ob oo, oA = some ⟨ob, oo, none⟩ → 0 < r.length → ∃ cur, IBox wx ob 5 cur ∧ oo + r.length ≤ cur.size))) (fun kv _ => match kv with | .int _ k => r.length - k.toNat | _ => 0)
        case atStart => exact ⟨0, rfl, Nat.zero_le _, HB, SZ6, HFS6, Lib.hid (fun ob oo e hr => (HOW.out ob oo e).2.2.2 hr)⟩
        case round =>
          clear HB HFS6 cu
          obtain ⟨k, rfl, hk, HB, hsz7, HFS7, HOX⟩ := hrel
          have hrl2 : (r.length : Int) ≤ 1048576 := by have := HTL.out; omega
          have HSZ7 := Lib.hid hsz7
          clear hsz7
          by_cases hkr : k < r.length
          · obtain ⟨ob, oo, hoA, _⟩ := HROW5.out k _ (List.getElem?_eq_getElem hkr)
            subst hoA
            obtain ⟨cur, hIB, hcz⟩ := HOX.out ob oo rfl (by omega)
            obtain ⟨q1, q2, q3, q4⟩ := HOW.out ob oo rfl
            have hlt8 : oo + k < cur.size := by omega
            have HQ := Lib.hid (show w4.heap.size ≤ ob ∧ ¬ Live n1 tk hs bd wh ob ∧ ∀ x ∈ Lf, MOff (fun q => q = ob) x from ⟨q1, q2, q3⟩)
            have HCZ := Lib.hid hcz
            have HKR := Lib.hid hkr
            clear q1 q2 q3 q4 hcz
            go_wp2_with (first
              | ((with_reducible refine is_store ?_); go_loud (refine wpl_store_cell rfl 5 (.tmp 54) _ rfl ob (oo + k) rfl (.int .u8 120) rfl _ _ hIB hlt8 one_u8 rfl ?_; intro w7 hw; have hbr : Bes (fun q => q = ob) wr w7 := Bes.row hw rfl; have hIB7 := hid_row hw hIB; replace HFS7 := Lib.hid (HFS7.out.fresh HFS.out.lt.1 (fun x hx => HFS.out.lt.2.1 x hx) HQ.out.1 HQ.out.2.1 HQ.out.2.2 hbr); replace HB := HB.trans (hbr.below (fun q e => by rw [show q = ob from e]; exact Nat.le_trans HWR.out HQ.out.1) HB.size); replace HSZ7 : Hid (w4.heap.size ≤ w7.heap.size) := Lib.hid (Nat.le_trans HSZ7.out hbr.size); clear hw hIB)))
            go_roundw
            case rel => exact ⟨k + 1, rfl, HKR.out, HB, HSZ7.out, HFS7, Lib.hid (fun ob2 oo2 e2 hr2 => by injection e2 with e2; injection e2 with e3 e4; subst e3 e4; exact ⟨_, hIB7, by rw [Array.size_setIfInBounds]; exact HCZ.out⟩)⟩
            case measure => (simp only; have := HKR.out; omega)
          · obtain rfl : k = r.length := by omega
            have cu := cell_later HB HCU.out
            clear hkr
            go_wp2_with (first
              | (go_at_call 26; go_loud ((refine (rfeed_shut HFS7.out.r _).mono ?_); rintro e w8 ⟨rfl, hw8⟩; have hw8 := hw8.symm; subst hw8; have HSZ8 := HSZ7; have HQ : Hid (FsQ b0 n1 n2 n1 n2 ans G nx tk hs bd wh Lf o ov ah true tv wv M N 0 0 (.slice none 0 0) [] (.slice none 0 0) [] wr) := Lib.hid ⟨HFS7.out, ⟨rfl, .inl ⟨rfl, rfl⟩⟩, (fun x hx => by cases hx), ⟨rfl, .inl ⟨rfl, rfl⟩⟩, (fun x hx => by cases hx), (fun q e => by cases e)⟩; have HU : Hid (MmsAt wr (.slice none 0 0) []) := Lib.hid ⟨none, 0, rfl, fun i x h => by simp at h⟩; have HV := HU; have HEQ : Hid (([] : List Mm).map (·.m) = ([] : List Mm).map (·.m)) := Lib.hid rfl; have HML : Hid (([] : List Mm).length ≤ 140737488355328) := Lib.hid (Nat.zero_le _); have HKR9 : Hid (([] : List Mm).length ≤ r.length) := Lib.hid (Nat.zero_le _); have HLM : Hid (M.length + ([] : List Mm).length ≤ 1099511627776) := Lib.hid (by have h1 := HRL.out.2.1; have h3 := HTL.out; show M.length + 0 ≤ _; omega); have HLN : Hid (N.length + ([] : List Mm).length ≤ 1099511627776) := Lib.hid (by have h0 := congrArg List.length HRL.out.1; simp only [List.length_map] at h0; have h1 := HRL.out.2.1; have h3 := HTL.out; show N.length + 0 ≤ _; omega); have HOP1 : Hid (openB G = false) := Lib.hid (by unfold openB; rw [HSH.out]; rfl); have HOP2 : Hid ((!true && decide (0 < o.length)) = false) := Lib.hid rfl; clear HFS7 cu))
              | (go_at_call 15; go_loud ((refine (alike_yes HU.out HV.out rfl (Nat.zero_le _)).mono ?_); rintro e w9 ⟨rfl, hb⟩; replace HQ := Lib.hid (HQ.out.below hb); replace HSZ8 : Hid (w4.heap.size ≤ w9.heap.size) := Lib.hid (Nat.le_trans HSZ8.out hb.size); replace HB := zT HB hb; clear hb))
              | (go_at_call 27; (refine (refused_shut _).mono ?_); rintro e w10 ⟨rfl, hb⟩; replace HQ := Lib.hid (HQ.out.below hb); replace HSZ8 : Hid (w4.heap.size ≤ w10.heap.size) := Lib.hid (Nat.le_trans HSZ8.out hb.size); replace HB := zT HB hb; clear hb)
              | (go_at_call 16; (with_reducible refine (open_any HQ.out.p.f).mono ?_); rintro e wo1 ⟨rfl, rfl⟩; rw [HOP1.out])
              | (go_at_call 28; (with_reducible refine (ropen_any HQ.out.p.r).mono ?_); rintro e wo2 ⟨rfl, rfl⟩; rw [HOP2.out])
              | ((with_reducible refine is_app (.tmp 96) (.tmp 97) ?_); refine wpl_app_mms rfl (.tmp 96) (.tmp 97) 39 rfl Tryz.underlying39 rfl HQ.out.p.t rfl HQ.out.mr (mm_sl (fun x hx => (HQ.out.kk x hx).1)) HLM.out (Nat.le_trans HB0.out HSZ8.out) ?_; intro v11 w11 k1 k2 k3; obtain ⟨hp11, ho11, hl11⟩ := HQ.out.told k1 k2 k3; have HP11 := Lib.hid hp11; have HO11 := Lib.hid ho11; have HL11 := Lib.hid hl11; replace HB := HB.trans (k2.below (fun q e => Nat.le_trans HN3.out (own_in HQ.out.p.t e).1) HB.size); replace HSZ8 : Hid (w4.heap.size ≤ w11.heap.size) := Lib.hid (Nat.le_trans HSZ8.out k2.size); clear k1 k2 k3 hp11 ho11 hl11 HQ)
              | ((with_reducible refine is_app (.tmp 99) (.tmp 100) ?_); refine wpl_app_mms rfl (.tmp 99) (.tmp 100) 39 rfl Tryz.underlying39 rfl HP11.out.u rfl HO11.out (mm_sl (fun x hx => (HL11.out x hx).1)) HLN.out (Nat.le_trans HB0.out HSZ8.out) ?_; intro v12 w12 k1 k2 k3; have HP12 := Lib.hid (HP11.out.want HL11.out k1 k2 k3); replace HB := HB.trans (k2.below (fun q e => Nat.le_trans HN3.out (own_in HP11.out.u e).1) HB.size); replace HSZ8 : Hid (w4.heap.size ≤ w12.heap.size) := Lib.hid (Nat.le_trans HSZ8.out k2.size); clear k1 k2 k3 HP11 HO11 HL11))
            go_roundw
            case rel => (first | exact ⟨i + 1, v11, v12, G, nx, tk, hs, bd, wh, Lf, o, ov, ah, true, M ++ [], N ++ [], rfl, rfl, rfl, (by omega), HB, Nat.le_trans HB0.out HSZ8.out, HP12, Lib.hid ⟨by rw [List.map_append, List.map_append, HRL.out.1], by rw [List.length_append, HSN.out]; have h1 := HRL.out.2.1; have h2 := HKR9.out; omega, .inr ⟨rfl, HSH.out⟩⟩⟩ | ((repeat apply Exists.intro); exact ⟨⟨i + 1, v11, v12, G, nx, tk, hs, bd, wh, Lf, o, ov, ah, true, M ++ [], N ++ [], rfl, rfl, rfl, (by omega), HB, Nat.le_trans HB0.out HSZ8.out, HP12, Lib.hid ⟨by rw [List.map_append, List.map_append, HRL.out.1], by rw [List.length_append, HSN.out]; have h1 := HRL.out.2.1; have h2 := HKR9.out; omega, .inr ⟨rfl, HSH.out⟩⟩⟩, rfl⟩))
            case measure => (simp only; omega)
    · obtain rfl : i = Ls.length := by omega
      obtain ⟨he, hml, _⟩ := HRL.out
      have HU : Hid (MmsAt w4 tv M) := Lib.hid (mms_row HFS.out.t (fun x hx => mm_b (HFS.out.m x hx).1))
      have HV : Hid (MmsAt w4 wv N) := Lib.hid (mms_row HFS.out.u (fun x hx => mm_b (HFS.out.k x hx).1))
      have HEQ := Lib.hid he
      have HML : Hid (M.length ≤ 140737488355328) := Lib.hid (by have h1 := sum_le (Ls := Ls) Ls.length; have := HS.out; omega)
      clear he hml
      go_wp2_with (first
        | (go_at_call 15; (refine (alike_yes HU.out HV.out HEQ.out HML.out).mono ?_); rintro e w9 ⟨rfl, hb⟩; replace HB := zT HB hb; clear hb))
      go_ret
      exact ⟨by simp, HB⟩
end Go.Proofs.YtbehakabglegjaaGreatDoor
