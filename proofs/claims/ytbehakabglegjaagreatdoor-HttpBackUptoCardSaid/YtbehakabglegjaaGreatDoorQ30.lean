/- Layer 9: bytes in any pieces: what holds in each round of the law HttpPieces. Layer 9: the document's decimal: a number's text. -/
import Derived.Test.YtbehakabglegjaaGreatDoorQ29
import Derived.Test.YtbehakabglegjaaGreatDoorQ24
import Derived.Test.YtbehakabglegjaaGreatDoorQ26
namespace Go.Proofs.YtbehakabglegjaaGreatDoor
open Go.RowKit
set_option linter.unusedVariables false
set_option linter.unusedSimpArgs false
/-- What Feed gives, told at once. -/
def FedV (base : Bs) (g : Nat) (F : Fs) (l : List UInt8) (w : World) (e : Ending) (w' : World) : Prop := ∃ G nx tk hs bd wh L ev, e = .returned (.tuple #[wh, ev]) ∧ Bl base w w' ∧ FdM base g G nx tk hs bd wh L w' ∧
  ((feedS F l = .inl G ∧ ev = .nilIface ∧ nx = stepV G.next ∧ FI G ∧ HZ G) ∨ ∃ (c : Int) (p N : Nat), feedS F l = .inr (c, p, G.whole) ∧ ev = .iface 83 (.pointer (some ⟨N, 0, none⟩)) ∧ IBox w' N 85 (FaultA p c) ∧ G.shut = true)
theorem fed_of {base : Bs} {g : Nat} {F : Fs} {l : List UInt8} {w w' : World} {e : Ending} (h : FeV base g F l w e w') : FedV base g F l w e w' := by
  unfold FeV at h
  obtain ⟨hb, h⟩ := h
  cases hf : feedS F l with
  | inl G =>
    rw [hf] at h
    obtain ⟨nx, tk, hs, bd, wh, L, rfl, hm, h1, h2, h3⟩ := h
    exact ⟨G, nx, tk, hs, bd, wh, L, _, rfl, hb, hm, .inl ⟨hf, rfl, h1, h2, h3⟩⟩
  | inr r =>
    obtain ⟨k, p, M⟩ := r
    rw [hf] at h
    obtain ⟨G, nx, tk, hs, bd, wh, L, ev, rfl, hm, h1, h2, N, h3, h4⟩ := h
    exact ⟨G, nx, tk, hs, bd, wh, L, ev, rfl, hb, hm, .inr ⟨k, p, N, by rw [hf, h2], h3, h4, h1⟩⟩
theorem FI.drop {f : Fs} (h : FI f) : FI { f with whole := [] } := ⟨h.shut, h.head, h.tok, h.heads, h.body, h.next, h.ver, h.sta, h.val, h.wide, h.size, h.dig, h.early, h.state, h.some_, h.none_⟩
theorem FdM.later {base : Bs} {g : Nat} {F : Fs} {nx tk hs bd wh : Value} {L : List Mm} {w w' : World} (h : FdM base g F nx tk hs bd wh L w) (hb : Below w.heap.size w w') : FdM base g F nx tk hs bd wh L w' := ⟨IBox.below h.1 hb (IBox.lt h.1), h.2.below hb⟩
/-- What holds at the head of a round: k bytes have been fed. -/
def PcI (ans : Bool) (l : List UInt8) (g2 : Nat) (w4 : World) (mv hv : Value) (k : Nat) (w : World) : Prop := ∃ (M : List Mm) (G : Fs) (nx tk hs bd wh : Value) (L : List Mm),
  Bes (· = g2) w4 w ∧ FdM ⟨g2, fun _ => False⟩ g2 G nx tk hs bd wh L w ∧ (∀ q, Live g2 tk hs bd wh q → q = g2 ∨ w4.heap.size ≤ q) ∧
  w.ownsRow w4.heap.size 25 6 mv M.length (mmsL M) ∧ VOff (Live g2 tk hs bd wh) mv ∧ (∀ x ∈ M, IsMm w x ∧ MOff (Live g2 tk hs bd wh) x) ∧ M.length ≤ k ∧
  ((hv = .nilIface ∧ runS (newS ans) (l.take k) = .inl (G.wh (M.map (·.m))) ∧ nx = stepV G.next ∧ FI G ∧ HZ G) ∨
    ∃ (c : Int) (p N : Nat), hv = .iface 83 (.pointer (some ⟨N, 0, none⟩)) ∧ IBox w N 85 (FaultA p c) ∧ G.shut = true ∧ runS (newS ans) l = .inr (c, p, M.map (·.m)))
/-- Behind Feed, ahead of the append. -/
def PcJ (ans : Bool) (l : List UInt8) (g2 : Nat) (w4 : World) (mv u hv : Value) (k : Nat) (w : World) : Prop := ∃ (M : List Mm) (G : Fs) (nx tk hs bd : Value) (L : List Mm),
  Bes (· = g2) w4 w ∧ FdM ⟨g2, fun _ => False⟩ g2 G nx tk hs bd u L w ∧ (∀ q, Live g2 tk hs bd u q → q = g2 ∨ w4.heap.size ≤ q) ∧
  w.ownsRow w4.heap.size 25 6 mv M.length (mmsL M) ∧ VOff (Live g2 tk hs bd u) mv ∧ (∀ x ∈ M, IsMm w x ∧ MOff (Live g2 tk hs bd u) x) ∧ M.length + L.length ≤ k ∧
  ((hv = .nilIface ∧ runS (newS ans) (l.take k) = .inl (G.wh ((M ++ L).map (·.m))) ∧ nx = stepV G.next ∧ FI G ∧ HZ G) ∨
    ∃ (c : Int) (p N : Nat), hv = .iface 83 (.pointer (some ⟨N, 0, none⟩)) ∧ IBox w N 85 (FaultA p c) ∧ G.shut = true ∧ runS (newS ans) l = .inr (c, p, (M ++ L).map (·.m)))
theorem PcI.start {ans : Bool} {l : List UInt8} {g2 : Nat} {w4 : World} {nx : Value} (hM : FdM ⟨g2, fun _ => False⟩ g2 (newS ans) nx (.slice none 0 0) (.slice none 0 0) (.slice none 0 0) (.slice none 0 0) [] w4) (hnx : nx = stepV (newS ans).next) : PcI ans l g2 w4 (.slice none 0 0) .nilIface 0 w4 :=
  ⟨[], newS ans, _, _, _, _, _, [], Bes.of_below (Below.refl _ _), hM, (fun q h => .inl (by
    rcases h with h | h | h | h | h
    · exact h
    · cases h
    · cases h
    · cases h
    · cases h)), ⟨rfl, .inl ⟨rfl, rfl⟩⟩, (fun q e => by cases e), (fun x hx => by cases hx), Nat.le_refl _, .inl ⟨rfl, by rw [List.take_zero]; cases ans <;> rfl, hnx, FI.new ans, newS_HZ ans⟩⟩
theorem PcI.hv {ans : Bool} {l : List UInt8} {g2 k : Nat} {w4 w : World} {mv hv : Value} (h : PcI ans l g2 w4 mv hv k w) : hv = .nilIface ∨ ∃ N, hv = .iface 83 (.pointer (some ⟨N, 0, none⟩)) := by
  obtain ⟨M, G, nx, tk, hs, bd, wh, L, _, _, _, _, _, _, _, hd⟩ := h
  rcases hd with ⟨h, _⟩ | ⟨c, p, N, h, _⟩
  · exact .inl h
  · exact .inr ⟨N, h⟩
theorem PcI.fed {ans : Bool} {l : List UInt8} {g2 k : Nat} {w4 w : World} {mv : Value} (h : PcI ans l g2 w4 mv .nilIface k w) (hk : k ≤ l.length) :
    ∃ (G : Fs) (nx tk hs bd wh : Value) (L : List Mm) (av : Nat → Prop), FdM ⟨g2, av⟩ g2 G nx tk hs bd wh L w ∧ nx = stepV G.next ∧ FI G ∧ HZ G ∧ G.pos = k ∧ ∀ (p : List UInt8) (w' : World) (e : Ending), l.take (k + p.length) = l.take k ++ p → FedV ⟨g2, av⟩ g2 G p w e w' → ∃ u ev, e = .returned (.tuple #[u, ev]) ∧ PcJ ans l g2 w4 mv u ev (k + p.length) w' ∧ Below g2 w w' := by
  obtain ⟨M, G, nx, tk, hs, bd, wh, L, K3, hF, hlv, hown, hoff, hms, hcnt, hd⟩ := h
  rcases hd with ⟨_, hr, hnx, hI, hZ⟩ | ⟨c, p, N, e, _⟩
  rotate_left
  · cases e
  have hpos : G.pos = k := by
    have h := ((run_count _ _ (FI.new ans) (newS_HZ ans)).1 _ hr).2.2.2.2
    have e1 : (newS ans).pos = 0 := by cases ans <;> rfl
    rw [e1, List.length_take] at h
    change G.pos = _ at h
    omega
  have hF2 : FdM ⟨g2, fun q => q < w.heap.size ∧ ¬ Live g2 tk hs bd wh q⟩ g2 G nx tk hs bd wh L w := hF.lets (fun q h => h)
  refine ⟨G, nx, tk, hs, bd, wh, L, _, hF2, hnx, hI, hZ, hpos, fun p w' e hp hq => ?_⟩
  obtain ⟨G2, nx2, tk2, hs2, bd2, wh2, L2, ev, rfl, hbl, hF3, hd⟩ := hq
  have hbs : Bes (Live g2 tk hs bd wh) w w' := hbl.as_bes (fun q h1 h2 => ⟨h1, h2⟩)
  have hlv2 : ∀ q, Live g2 tk2 hs2 bd2 wh2 q → q = g2 ∨ w4.heap.size ≤ q := fun q h => by
    have h1 := hF3.2.off q h
    by_cases h2 : q < w.heap.size
    · by_cases h3 : Live g2 tk hs bd wh q
      · exact hlv q h3
      · exact absurd ⟨h2, h3⟩ h1
    · exact .inr (Nat.le_trans K3.size (by omega))
  have hkeep : ∀ v : Value, (∀ q, v.ownBlock = some q → q < w.heap.size) → VOff (Live g2 tk hs bd wh) v → VOff (Live g2 tk2 hs2 bd2 wh2) v := fun v h1 h2 q e y => hF3.2.off q y ⟨h1 q e, h2 q e⟩
  have hrc := run_count p { G with whole := [] } hI.drop hZ
  have hwl : L2.map (·.m) = G2.whole := hF3.2.wl
  have hlen : L2.length ≤ p.length := by
    have e1 : L2.length = G2.whole.length := by rw [← hwl, List.length_map]
    rw [e1]
    rcases hd with ⟨h1, _⟩ | ⟨c, q, N, h1, _⟩
    · have := (hrc.1 G2 h1).2.2.1
      simpa using this
    · have := (hrc.2 c q G2.whole h1).2.1
      simpa using this
  refine ⟨wh2, ev, rfl, ⟨M, G2, nx2, tk2, hs2, bd2, L2, K3.trans hbs (fun _ x => x) (fun i hi y => (hlv i y).elim id (fun z => absurd hi (by omega))), hF3.lets (fun q h => h.elim), hlv2, Bes.own hbs hown (fun q e y => hoff q e y), hkeep mv (fun q e => (own_in hown e).2) hoff, (fun x hx => ?_), by omega, ?_⟩, hbl.b⟩
  · obtain ⟨h1, h2⟩ := hms x hx
    exact ⟨h1.bes hbs h2, hkeep x.hs (fun q e => h1.2.2.1 q (.inl e)) h2.1, hkeep x.bd (fun q e => h1.2.2.1 q (.inr e)) h2.2⟩
  · rcases hd with ⟨h1, h2, h3, h4, h5⟩ | ⟨c, q, N, h1, h2, h3, h4⟩
    · refine .inl ⟨h2, ?_, h3, h4, h5⟩
      rw [hp, List.map_append, hwl]
      exact piece_ok hr h1
    · refine .inr ⟨c, q, N, h2, h3, h4, ?_⟩
      rw [List.map_append, hwl]
      have hl : l = l.take k ++ p ++ l.drop (k + p.length) := by rw [← hp, List.take_append_drop]
      rw [hl]
      exact piece_bad hr h1
theorem PcJ.put {ans : Bool} {l : List UInt8} {g2 k : Nat} {w4 w : World} {mv u hv : Value} (h : PcJ ans l g2 w4 mv u hv k w) :
    ∃ (M K : List Mm) (n2 : Nat), w.ownsRow w4.heap.size 25 6 mv M.length (mmsL M) ∧ w.ownsRow n2 25 6 u K.length (mmsL K) ∧ (∀ x ∈ K, (∃ A n c, x.hs = .slice A n c) ∧ ∃ A n c, x.bd = .slice A n c) ∧ M.length + K.length ≤ k ∧ w4.heap.size ≤ w.heap.size ∧
      ∀ v' w', w'.ownsRow w4.heap.size 25 6 v' (M ++ K).length (mmsL (M ++ K)) → Bes (fun q => mv.ownBlock = some q) w w' → (v'.ownBlock = mv.ownBlock ∨ v'.ownBlock = some w.heap.size) → PcI ans l g2 w4 v' hv k w' ∧ Below w4.heap.size w w' := by
  obtain ⟨M, G, nx, tk, hs, bd, L, K3, hF, hlv, hown, hoff, hms, hcnt, hd⟩ := h
  refine ⟨M, L, g2, hown, hF.2.rw_, fun x hx => ?_, hcnt, K3.size, fun v' w' h1 hb hat => ?_⟩
  · obtain ⟨⟨A, c, e1, _⟩, ⟨A2, c2, e2, _⟩, _⟩ := (hF.2.ms x hx).1
    exact ⟨⟨A, _, c, e1⟩, ⟨A2, _, c2, e2⟩⟩
  · have hXt : ∀ q, mv.ownBlock = some q → ∃ arr fz, w.heap[q]? = some (.cells arr 25 fz) := own_ty hown
    have hM1 : ∀ x, IsMm w x → MOff (fun q => mv.ownBlock = some q) x := fun x hx => mm_off hx hXt (by decide) (by decide)
    refine ⟨⟨M ++ L, G, nx, tk, hs, bd, u, L, K3.trans hb (fun _ x => x) (fun i hi e => absurd (own_in hown e).1 (by omega)), FdM.bes hF hb (fun q e y => hoff q e y) (fun x hx => hM1 x (hF.2.ms x hx).1), hlv, h1, ?_, fun x hx => ?_, by rw [List.length_append]; exact hcnt, ?_⟩, hb.below (fun q e => (own_in hown e).1) K3.size⟩
    · intro q e y
      rcases hat with e2 | e2
      · exact hoff q (e2 ▸ e) y
      · rw [e2] at e
        have h3 := hF.live q y
        injection e with e
        omega
    · rcases List.mem_append.1 hx with hx | hx
      · exact ⟨(hms x hx).1.bes hb (hM1 x (hms x hx).1), (hms x hx).2⟩
      · exact ⟨(hF.2.ms x hx).1.bes hb (hM1 x (hF.2.ms x hx).1), (hF.2.ms x hx).2⟩
    · rcases hd with ⟨h1, h2, h3, h4, h5⟩ | ⟨c, q, N, h1, h2, h3, h4⟩
      · exact .inl ⟨h1, h2, h3, h4, h5⟩
      · have hI : w.heap[N]? = some (.cells (FaultA q c) 85 (0, 0)) := h2
        exact .inr ⟨c, q, N, h1, Bes.box hb h2 (fun e => ty_off (own_ty hown) hI (by decide) e), h3, h4⟩
/-- What holds behind the loop. -/
def PcE (w : World) (g1 g2 : Nat) (lv mv ev hv : Value) : Prop := ∃ (G1 G2 : Fs) (n1x t1 h1 b1 n2x t2 h2 b2 v2 : Value) (L1 M L2 : List Mm) (P1 P2 : Bs),
  FdM P1 g1 G1 n1x t1 h1 b1 lv L1 w ∧ FdM P2 g2 G2 n2x t2 h2 b2 v2 L2 w ∧ MmsAt w lv L1 ∧ MmsAt w mv M ∧ L1.map (·.m) = M.map (·.m) ∧ L1.length ≤ 140737488355328 ∧
  ((ev = .nilIface ∧ hv = .nilIface ∧ openB G1 = openB G2) ∨ ∃ (c : Int) (p N1 N2 : Nat), ev = .iface 83 (.pointer (some ⟨N1, 0, none⟩)) ∧ hv = .iface 83 (.pointer (some ⟨N2, 0, none⟩)) ∧ IBox w N1 85 (FaultA p c) ∧ IBox w N2 85 (FaultA p c) ∧ G1.shut = true ∧ G2.shut = true ∧ (c = 2 ∨ c = 3 ∨ c = 31 ∨ c = 32) ∧ p ≤ 9223372036854775807)
theorem PcI.ends {ans : Bool} {l : List UInt8} {g1 g2 k n1 : Nat} {w4 w : World} {mv hv nx1 tk1 hs1 bd1 wh1 ev1 : Value} {G1 : Fs} {L1 : List Mm} {arr : Array Value} (h : PcI ans l g2 w4 mv hv k w) (hl : l.length ≤ 1099511627776)
    (hF : FdM ⟨n1, (· = g2)⟩ g1 G1 nx1 tk1 hs1 bd1 wh1 L1 w4) (hB : IBox w4 g2 81 arr)
    (hd1 : (feedS (newS ans) l = .inl G1 ∧ ev1 = .nilIface ∧ nx1 = stepV G1.next ∧ FI G1 ∧ HZ G1) ∨ ∃ (c : Int) (p N : Nat), feedS (newS ans) l = .inr (c, p, G1.whole) ∧ ev1 = .iface 83 (.pointer (some ⟨N, 0, none⟩)) ∧ IBox w4 N 85 (FaultA p c) ∧ G1.shut = true)
    (hend : hv = .nilIface → k = l.length) : PcE w g1 g2 wh1 mv ev1 hv := by
  obtain ⟨M, G, nx, tk, hs, bd, wh, L, K3, hG, hlv, hown, hoff, hms, hcnt, hd⟩ := h
  have hty : w4.heap[g2]? = some (.cells arr 81 (0, 0)) := hB
  have hF2 : FdM ⟨n1, (· = g2)⟩ g1 G1 nx1 tk1 hs1 bd1 wh1 L1 w := FdM.bes hF K3 (fun q e y => hF.2.off q y e) (fun x hx => mm_off (hF.2.ms x hx).1 (T := 81) (fun q e => by have e2 : q = g2 := e; subst e2; exact ⟨_, _, hty⟩) (by decide) (by decide))
  rw [newS_feed] at hd1
  have hwl : L1.map (·.m) = G1.whole := hF.2.wl
  have hrc := run_count l (newS ans) (FI.new ans) (newS_HZ ans)
  rw [newS_whole] at hrc
  have key : L1.map (·.m) = M.map (·.m) ∧ L1.length ≤ 140737488355328 ∧ ((ev1 = .nilIface ∧ hv = .nilIface ∧ openB G1 = openB G) ∨ ∃ (c : Int) (p N1 N2 : Nat), ev1 = .iface 83 (.pointer (some ⟨N1, 0, none⟩)) ∧ hv = .iface 83 (.pointer (some ⟨N2, 0, none⟩)) ∧ IBox w N1 85 (FaultA p c) ∧ IBox w N2 85 (FaultA p c) ∧ G1.shut = true ∧ G.shut = true ∧ (c = 2 ∨ c = 3 ∨ c = 31 ∨ c = 32) ∧ p ≤ 9223372036854775807) := by
    have e1 : L1.length = G1.whole.length := by rw [← hwl, List.length_map]
    rcases hd with ⟨h1, h2, _⟩ | ⟨c, p, N, h1, h2, h3, h4⟩
    · rw [hend h1, List.take_length] at h2
      rcases hd1 with ⟨k1, k2, _⟩ | ⟨c, p, N, k1, _⟩
      · rw [h2] at k1
        injection k1 with k1
        have hc := (hrc.1 _ h2).2.2.1
        rw [k1] at hc
        simp only [List.length_nil, Nat.zero_add] at hc
        refine ⟨by rw [hwl, ← k1]; rfl, by omega, .inl ⟨k2, h1, by rw [← k1]; rfl⟩⟩
      · rw [h2] at k1
        cases k1
    · rcases hd1 with ⟨k1, _⟩ | ⟨c2, p2, N1, k1, k2, k3, k4⟩
      · rw [h4] at k1
        cases k1
      · rw [h4] at k1
        injection k1 with k1
        injection k1 with e2 k1
        injection k1 with e3 e4
        subst e2
        subst e3
        obtain ⟨j1, j2, j3⟩ := hrc.2 _ _ _ h4
        have e5 : (newS ans).pos = 0 := by cases ans <;> rfl
        rw [e4] at j2
        simp only [List.length_nil, Nat.zero_add] at j2
        refine ⟨by rw [hwl, ← e4], by omega, .inr ⟨c, p, N1, N, k2, h1, ?_, h2, k4, h3, j1, by omega⟩⟩
        refine Bes.box K3 k3 (fun e => ?_)
        have e6 : N1 = g2 := e
        have hI : w4.heap[N1]? = some (.cells (FaultA p c) 85 (0, 0)) := k3
        rw [e6, hty] at hI
        injection hI with hI
        injection hI with _ hI _
        exact absurd hI (by decide)
  exact ⟨G1, G, nx1, tk1, hs1, bd1, nx, tk, hs, bd, wh, L1, M, L, _, _, hF2, hG, hF2.mms, mms_row hown (fun x hx => mm_b (hms x hx).1), key.1, key.2.1, key.2.2⟩
end Go.Proofs.YtbehakabglegjaaGreatDoor
namespace Go.Proofs.YtbehakabglegjaaGreatDoor
open Go.RowKit Go.PlainAid
set_option linter.unusedVariables false
set_option linter.unusedSimpArgs false
theorem wpl_bt_text {ops : Array Oper} {rest : List Oper} {o : Oper} {a : Act} {w : World} {Q : Exit → Act → World → Prop} (hgd : o.guard = none) (x : Operand) (ho : o.op = .convert 23 9 x) {v : Value} {l : List UInt8} (h : BtAt w v l) (hx : a.eval x = v)
    (hQ : wpList Tryz.prog ops Q rest (a.put o.dst (.string (txt l))) w) : wpList Tryz.prog ops Q (o :: rest) a w :=
  wpList_plain hgd fun _ hK => by
    have e := bt_text h
    generalize hP : Tryz.prog = P at *
    unfold Oper.wp execOp
    simp only [ho, hx, Sem.run_bind, e, Result.andThen_ok, Sem.run_pure]
    exact hK _ _ hQ
/-- What is still to be told of a number, and what is told. -/
def decR (m : Nat) (acc : List UInt8) : List UInt8 := if m = 0 ∧ acc ≠ [] then acc else Lib.decDigits m ++ acc
theorem decR_step {m : Nat} {acc : List UInt8} (h : ¬ (m = 0 ∧ acc ≠ [])) : decR (m / 10) (UInt8.ofNat (48 + m % 10) :: acc) = decR m acc := by
  unfold decR
  rw [if_neg h]
  conv => rhs; rw [Lib.decDigits]
  by_cases hm : m < 10
  · rw [dif_pos hm, if_pos ⟨by omega, by simp⟩, Nat.mod_eq_of_lt hm]
    rfl
  · rw [dif_neg hm, if_neg (by omega)]
    simp
theorem decR_len (m : Nat) (acc : List UInt8) : acc.length ≤ (decR m acc).length := by
  unfold decR
  split
  · exact Nat.le_refl _
  · rw [List.length_append]
    omega
def strN (v : Value) : Nat := match v with
  | .string s => if s.size = 0 then 1 else 0
  | _ => 0
theorem txt_nil : txt [] = (⟨#[]⟩ : ByteArray) := rfl
theorem txt_cons (c : UInt8) (l : List UInt8) : txt [c] ++ txt l = txt (c :: l) := by
  apply ByteArray.ext
  apply Array.toList_inj.1
  rw [ByteArray.data_append, Array.toList_append]
  rfl
theorem strN_cons (c : UInt8) (l : List UInt8) : strN (.string (txt [c] ++ txt l)) = 0 := by
  rw [txt_cons]
  show (if (txt (c :: l)).size = 0 then 1 else 0) = 0
  rw [txt_size, if_neg (by simp)]
theorem strN_nil : strN (.string (txt [])) = 1 := rfl
theorem u8_fill (n : Int) : Instr.fill (fun i => some (i * 1, 1)) ((Array.range (1 * 1)).map ((Value.int .u8 0).cells[· % (Value.int .u8 0).cells.size]!)) [(0, .int .u8 n)] = some #[.int .u8 n] := by kernel_rfl
set_option maxRecDepth 100000 in
set_option maxHeartbeats 4000000 in
theorem decimal_any {n : Nat} {w : World} (hn : n ≤ 9223372036854775807) : Calls Tryz.prog 40 #[.int .i64 (n : Int)] w fun e w' => e = .returned (.string (txt (Lib.itoa (n : Int)))) ∧ Below w.heap.size w w' := by
  have HD : Hid (Lib.itoa (n : Int) = Lib.decDigits n) := Lib.hid (by unfold Lib.itoa; rw [if_neg (by omega)]; rfl)
  have HL : Hid ((Lib.decDigits n).length ≤ 20) := Lib.hid (by have := itoa_len (n := (n : Int)) (by omega); rw [HD.out] at this; exact this)
  have HB := Below.refl w.heap.size w
  obtain ⟨ie, hie1, hie2, hie3, hie4⟩ := u8_info
  go_enter Tryz.func40, Tryz.ntmps40
  go_wp2
  go_loopw [0, 3] (fun nv sv wr => ∃ (m : Nat) (acc : List UInt8), nv = .int .i64 (m : Int) ∧ sv = .string (txt acc) ∧ m ≤ n ∧ Hid (decR m acc = Lib.decDigits n) ∧ Below w.heap.size w wr) (fun nv sv _ => 2 * ivN nv + strN sv)
  case atStart => exact ⟨n, [], rfl, rfl, Nat.le_refl _, Lib.hid (by unfold decR; rw [if_neg (fun h => h.2 rfl), List.append_nil]), HB⟩
  case round =>
    clear HB
    obtain ⟨m, acc, rfl, rfl, hmn, HR, HB⟩ := hrel
    have HAL : Hid (acc.length ≤ 20) := Lib.hid (Nat.le_trans (decR_len m acc) (by rw [HR.out]; exact HL.out))
    have hm63 : m ≤ 9223372036854775807 := by omega
    by_cases hend : m = 0 ∧ acc ≠ []
    · obtain ⟨hm0, hac⟩ := hend
      have HF : Hid (acc = Lib.decDigits n) := Lib.hid (by rw [← HR.out]; unfold decR; rw [if_pos ⟨hm0, hac⟩])
      have hmi : ¬ 0 < m := by omega
      have hne := ne_empty (s := txt acc) (by rw [txt_size]; intro e; exact hac (List.eq_nil_of_length_eq_zero e))
      clear hm0 hac
      go_wp2
      go_ret
      exact ⟨by (show Ending.returned (.string (txt acc)) = _); rw [HD.out, ← HF.out], HB⟩
    · have HS := Lib.hid (decR_step hend)
      have hq1 : (m : Int).tmod 10 = ((m % 10 : Nat) : Int) := by have h := Int.tmod_eq_emod_of_nonneg (a := (m : Int)) (b := 10) (by omega); omega
      have hq2 : (m : Int).tdiv 10 = ((m / 10 : Nat) : Int) := by have h := Int.tdiv_eq_ediv_of_nonneg (a := (m : Int)) (b := 10) (by omega); omega
      have hd10 : m % 10 < 10 := Nat.mod_lt _ (by decide)
      obtain ⟨dg, hdg⟩ : ∃ dg : UInt8, dg = UInt8.ofNat (48 + m % 10) := ⟨_, rfl⟩
      have hdv : (dg.toNat : Int) = 48 + ((m % 10 : Nat) : Int) := by rw [hdg, UInt8.toNat_ofNat']; omega
      have hu8 : IntKind.u8.wrap (48 + ((m % 10 : Nat) : Int)) = (dg.toNat : Int) := by
        have e : IntKind.u8.wrap (48 + ((m % 10 : Nat) : Int)) = (48 + ((m % 10 : Nat) : Int)) % 256 := by simp [IntKind.wrap, IntKind.bits, IntKind.signed]
        omega
      rw [← hdg] at HS
      generalize hmq : m / 10 = mq at HS hq2
      generalize hmr : m % 10 = mr at hq1 hu8 hd10 hdv
      have HMQ : Hid (mq ≤ m ∧ (m ≠ 0 → mq < m)) := Lib.hid (by omega)
      have HEN := Lib.hid hend
      have hw1 : IntKind.i64.wrap (mq : Int) = (mq : Int) := i64_small mq (by omega)
      have hs1 : ¬ 9223372036854775807 < 1 + (txt acc).size := by have := HAL.out; rw [txt_size]; omega
      clear hdg hmq hmr hend hdv
      by_cases hm0 : 0 < m
      · go_wp2_with (first
          | ((with_reducible refine is_slice ?_); refine wpl_slice_at 1 [(0, .int .u8 (dg.toNat : Int))] (bytesA [dg]) ie _ (by rw [hie3]; kernel_rfl) rfl 23 5 _ rfl rfl Tryz.underlying23 hie1 hie2 (by rw [hie3]; decide) (by rw [hie3]; decide) ?_; intro w5 hw; have hb := hid_grow hw; have B9 := (hid_alloc hw).1; replace HB := HB.trans (hb.mono HB.size); clear hw hb)
          | ((with_reducible refine is_convert ?_); refine wpl_bt_text rfl (.tmp 14) rfl (l := [dg]) (bt_box (l := [dg]) ⟨_, B9⟩) rfl ?_))
        go_roundw
        case rel => first | exact ⟨mq, dg :: acc, rfl, (by rw [txt_cons]), by have := HMQ.out.1; omega, Lib.hid (by rw [HS.out]; exact HR.out), HB⟩ | ((repeat apply Exists.intro); refine ⟨?_, rfl⟩; exact ⟨mq, dg :: acc, rfl, (by rw [txt_cons]), by have := HMQ.out.1; omega, Lib.hid (by rw [HS.out]; exact HR.out), HB⟩)
        case measure => (have h1 := HMQ.out.2 (by omega); have h2 := strN_cons dg acc; show 2 * ((mq : Int)).toNat + strN (.string (txt [dg] ++ txt acc)) < 2 * ((m : Int)).toNat + _; rw [h2]; omega)
      · have hac : acc = [] := by
          by_cases e : acc = []
          · exact e
          · exact absurd ⟨by omega, e⟩ HEN.out
        subst hac
        have hemp := is_empty (s := txt []) rfl
        go_wp2_with (first
          | ((with_reducible refine is_slice ?_); refine wpl_slice_at 1 [(0, .int .u8 (dg.toNat : Int))] (bytesA [dg]) ie _ (by rw [hie3]; kernel_rfl) rfl 23 5 _ rfl rfl Tryz.underlying23 hie1 hie2 (by rw [hie3]; decide) (by rw [hie3]; decide) ?_; intro w5 hw; have hb := hid_grow hw; have B9 := (hid_alloc hw).1; replace HB := HB.trans (hb.mono HB.size); clear hw hb)
          | ((with_reducible refine is_convert ?_); refine wpl_bt_text rfl (.tmp 14) rfl (l := [dg]) (bt_box (l := [dg]) ⟨_, B9⟩) rfl ?_))
        go_roundw
        case rel => first | exact ⟨mq, dg :: [], rfl, (by rw [txt_cons]), by have := HMQ.out.1; omega, Lib.hid (by rw [HS.out]; exact HR.out), HB⟩ | ((repeat apply Exists.intro); refine ⟨?_, rfl⟩; exact ⟨mq, dg :: [], rfl, (by rw [txt_cons]), by have := HMQ.out.1; omega, Lib.hid (by rw [HS.out]; exact HR.out), HB⟩)
        case measure => (have h1 := HMQ.out.1; have h2 := strN_cons dg []; show 2 * ((mq : Int)).toNat + strN (.string (txt [dg] ++ txt [])) < 2 * ((m : Int)).toNat + strN (.string (txt [])); rw [h2, strN_nil]; omega)
end Go.Proofs.YtbehakabglegjaaGreatDoor
