/- Layer 9: bytes in any pieces: what holds in each round of the law HttpPieces. Layer 9: the document's start: a message's first line. -/
import Derived.Test.YtbehakabglegjaaGreatDoorQ30
import Derived.Test.YtbehakabglegjaaGreatDoorQ28
namespace Go.Proofs.YtbehakabglegjaaGreatDoor
open Go.RowKit
set_option linter.unusedVariables false
set_option linter.unusedSimpArgs false
/-- What Feed gives, told at once. -/
def FedV (base : Bs) (g : Nat) (F : Fs) (l : List UInt8) (w : World) (e : Ending) (w' : World) : Prop := ∃ G nx tk hs bd wh L ev, e = .returned (.tuple #[wh, ev]) ∧ Bl base w w' ∧ FdM base g G nx tk hs bd wh L w' ∧
  ((feedS F l = .inl G ∧ ev = .nilIface ∧ nx = stepV G.next ∧ FI G ∧ HZ G) ∨ ∃ (c : Int) (p N : Nat), feedS F l = .inr (c, p, G.whole) ∧ ev = .iface 83 (.pointer (some ⟨N, 0, none⟩)) ∧ IBox w' N 85 (FaultA p c) ∧ G.shut = true)
theorem fed_of {base : Bs} {g : Nat} {F : Fs} {l : List UInt8} {w w' : World} {e : Ending} (h : FeV base g F l w e w') : FedV base g F l w e w' := by
  unfold FeV at h
  obtain ⟨hb, h⟩ := h
  cases hf : feedS F l with
  | inl G =>
    rw [hf] at h
    obtain ⟨nx, tk, hs, bd, wh, L, rfl, hm, h1, h2, h3⟩ := h
    exact ⟨G, nx, tk, hs, bd, wh, L, _, rfl, hb, hm, .inl ⟨hf, rfl, h1, h2, h3⟩⟩
  | inr r =>
    obtain ⟨k, p, M⟩ := r
    rw [hf] at h
    obtain ⟨G, nx, tk, hs, bd, wh, L, ev, rfl, hm, h1, h2, N, h3, h4⟩ := h
    exact ⟨G, nx, tk, hs, bd, wh, L, ev, rfl, hb, hm, .inr ⟨k, p, N, by rw [hf, h2], h3, h4, h1⟩⟩
theorem FI.drop {f : Fs} (h : FI f) : FI { f with whole := [] } := ⟨h.shut, h.head, h.tok, h.heads, h.body, h.next, h.ver, h.sta, h.val, h.wide, h.size, h.dig, h.early, h.state, h.some_, h.none_⟩
theorem FdM.later {base : Bs} {g : Nat} {F : Fs} {nx tk hs bd wh : Value} {L : List Mm} {w w' : World} (h : FdM base g F nx tk hs bd wh L w) (hb : Below w.heap.size w w') : FdM base g F nx tk hs bd wh L w' := ⟨IBox.below h.1 hb (IBox.lt h.1), h.2.below hb⟩
/-- What holds at the head of a round: k bytes have been fed. -/
def PcI (ans : Bool) (l : List UInt8) (g2 : Nat) (w4 : World) (mv hv : Value) (k : Nat) (w : World) : Prop := ∃ (M : List Mm) (G : Fs) (nx tk hs bd wh : Value) (L : List Mm),
  Bes (· = g2) w4 w ∧ FdM ⟨g2, fun _ => False⟩ g2 G nx tk hs bd wh L w ∧ (∀ q, Live g2 tk hs bd wh q → q = g2 ∨ w4.heap.size ≤ q) ∧
  w.ownsRow w4.heap.size 25 6 mv M.length (mmsL M) ∧ VOff (Live g2 tk hs bd wh) mv ∧ (∀ x ∈ M, IsMm w x ∧ MOff (Live g2 tk hs bd wh) x) ∧ M.length ≤ k ∧
  ((hv = .nilIface ∧ runS (newS ans) (l.take k) = .inl (G.wh (M.map (·.m))) ∧ nx = stepV G.next ∧ FI G ∧ HZ G) ∨
    ∃ (c : Int) (p N : Nat), hv = .iface 83 (.pointer (some ⟨N, 0, none⟩)) ∧ IBox w N 85 (FaultA p c) ∧ G.shut = true ∧ runS (newS ans) l = .inr (c, p, M.map (·.m)))
/-- Behind Feed, ahead of the append. -/
def PcJ (ans : Bool) (l : List UInt8) (g2 : Nat) (w4 : World) (mv u hv : Value) (k : Nat) (w : World) : Prop := ∃ (M : List Mm) (G : Fs) (nx tk hs bd : Value) (L : List Mm),
  Bes (· = g2) w4 w ∧ FdM ⟨g2, fun _ => False⟩ g2 G nx tk hs bd u L w ∧ (∀ q, Live g2 tk hs bd u q → q = g2 ∨ w4.heap.size ≤ q) ∧
  w.ownsRow w4.heap.size 25 6 mv M.length (mmsL M) ∧ VOff (Live g2 tk hs bd u) mv ∧ (∀ x ∈ M, IsMm w x ∧ MOff (Live g2 tk hs bd u) x) ∧ M.length + L.length ≤ k ∧
  ((hv = .nilIface ∧ runS (newS ans) (l.take k) = .inl (G.wh ((M ++ L).map (·.m))) ∧ nx = stepV G.next ∧ FI G ∧ HZ G) ∨
    ∃ (c : Int) (p N : Nat), hv = .iface 83 (.pointer (some ⟨N, 0, none⟩)) ∧ IBox w N 85 (FaultA p c) ∧ G.shut = true ∧ runS (newS ans) l = .inr (c, p, (M ++ L).map (·.m)))
theorem PcI.start {ans : Bool} {l : List UInt8} {g2 : Nat} {w4 : World} {nx : Value} (hM : FdM ⟨g2, fun _ => False⟩ g2 (newS ans) nx (.slice none 0 0) (.slice none 0 0) (.slice none 0 0) (.slice none 0 0) [] w4) (hnx : nx = stepV (newS ans).next) : PcI ans l g2 w4 (.slice none 0 0) .nilIface 0 w4 :=
  ⟨[], newS ans, _, _, _, _, _, [], Bes.of_below (Below.refl _ _), hM, (fun q h => .inl (by
    rcases h with h | h | h | h | h
    · exact h
    · cases h
    · cases h
    · cases h
    · cases h)), ⟨rfl, .inl ⟨rfl, rfl⟩⟩, (fun q e => by cases e), (fun x hx => by cases hx), Nat.le_refl _, .inl ⟨rfl, by rw [List.take_zero]; cases ans <;> rfl, hnx, FI.new ans, newS_HZ ans⟩⟩
theorem PcI.hv {ans : Bool} {l : List UInt8} {g2 k : Nat} {w4 w : World} {mv hv : Value} (h : PcI ans l g2 w4 mv hv k w) : hv = .nilIface ∨ ∃ N, hv = .iface 83 (.pointer (some ⟨N, 0, none⟩)) := by
  obtain ⟨M, G, nx, tk, hs, bd, wh, L, _, _, _, _, _, _, _, hd⟩ := h
  rcases hd with ⟨h, _⟩ | ⟨c, p, N, h, _⟩
  · exact .inl h
  · exact .inr ⟨N, h⟩
theorem PcI.fed {ans : Bool} {l : List UInt8} {g2 k : Nat} {w4 w : World} {mv : Value} (h : PcI ans l g2 w4 mv .nilIface k w) (hk : k ≤ l.length) :
    ∃ (G : Fs) (nx tk hs bd wh : Value) (L : List Mm) (av : Nat → Prop), FdM ⟨g2, av⟩ g2 G nx tk hs bd wh L w ∧ nx = stepV G.next ∧ FI G ∧ HZ G ∧ G.pos = k ∧ ∀ (p : List UInt8) (w' : World) (e : Ending), l.take (k + p.length) = l.take k ++ p → FedV ⟨g2, av⟩ g2 G p w e w' → ∃ u ev, e = .returned (.tuple #[u, ev]) ∧ PcJ ans l g2 w4 mv u ev (k + p.length) w' ∧ Below g2 w w' := by
  obtain ⟨M, G, nx, tk, hs, bd, wh, L, K3, hF, hlv, hown, hoff, hms, hcnt, hd⟩ := h
  rcases hd with ⟨_, hr, hnx, hI, hZ⟩ | ⟨c, p, N, e, _⟩
  rotate_left
  · cases e
  have hpos : G.pos = k := by
    have h := ((run_count _ _ (FI.new ans) (newS_HZ ans)).1 _ hr).2.2.2.2
    have e1 : (newS ans).pos = 0 := by cases ans <;> rfl
    rw [e1, List.length_take] at h
    change G.pos = _ at h
    omega
  have hF2 : FdM ⟨g2, fun q => q < w.heap.size ∧ ¬ Live g2 tk hs bd wh q⟩ g2 G nx tk hs bd wh L w := hF.lets (fun q h => h)
  refine ⟨G, nx, tk, hs, bd, wh, L, _, hF2, hnx, hI, hZ, hpos, fun p w' e hp hq => ?_⟩
  obtain ⟨G2, nx2, tk2, hs2, bd2, wh2, L2, ev, rfl, hbl, hF3, hd⟩ := hq
  have hbs : Bes (Live g2 tk hs bd wh) w w' := hbl.as_bes (fun q h1 h2 => ⟨h1, h2⟩)
  have hlv2 : ∀ q, Live g2 tk2 hs2 bd2 wh2 q → q = g2 ∨ w4.heap.size ≤ q := fun q h => by
    have h1 := hF3.2.off q h
    by_cases h2 : q < w.heap.size
    · by_cases h3 : Live g2 tk hs bd wh q
      · exact hlv q h3
      · exact absurd ⟨h2, h3⟩ h1
    · exact .inr (Nat.le_trans K3.size (by omega))
  have hkeep : ∀ v : Value, (∀ q, v.ownBlock = some q → q < w.heap.size) → VOff (Live g2 tk hs bd wh) v → VOff (Live g2 tk2 hs2 bd2 wh2) v := fun v h1 h2 q e y => hF3.2.off q y ⟨h1 q e, h2 q e⟩
  have hrc := run_count p { G with whole := [] } hI.drop hZ
  have hwl : L2.map (·.m) = G2.whole := hF3.2.wl
  have hlen : L2.length ≤ p.length := by
    have e1 : L2.length = G2.whole.length := by rw [← hwl, List.length_map]
    rw [e1]
    rcases hd with ⟨h1, _⟩ | ⟨c, q, N, h1, _⟩
    · have := (hrc.1 G2 h1).2.2.1
      simpa using this
    · have := (hrc.2 c q G2.whole h1).2.1
      simpa using this
  refine ⟨wh2, ev, rfl, ⟨M, G2, nx2, tk2, hs2, bd2, L2, K3.trans hbs (fun _ x => x) (fun i hi y => (hlv i y).elim id (fun z => absurd hi (by omega))), hF3.lets (fun q h => h.elim), hlv2, Bes.own hbs hown (fun q e y => hoff q e y), hkeep mv (fun q e => (own_in hown e).2) hoff, (fun x hx => ?_), by omega, ?_⟩, hbl.b⟩
  · obtain ⟨h1, h2⟩ := hms x hx
    exact ⟨h1.bes hbs h2, hkeep x.hs (fun q e => h1.2.2.1 q (.inl e)) h2.1, hkeep x.bd (fun q e => h1.2.2.1 q (.inr e)) h2.2⟩
  · rcases hd with ⟨h1, h2, h3, h4, h5⟩ | ⟨c, q, N, h1, h2, h3, h4⟩
    · refine .inl ⟨h2, ?_, h3, h4, h5⟩
      rw [hp, List.map_append, hwl]
      exact piece_ok hr h1
    · refine .inr ⟨c, q, N, h2, h3, h4, ?_⟩
      rw [List.map_append, hwl]
      have hl : l = l.take k ++ p ++ l.drop (k + p.length) := by rw [← hp, List.take_append_drop]
      rw [hl]
      exact piece_bad hr h1
theorem PcJ.put {ans : Bool} {l : List UInt8} {g2 k : Nat} {w4 w : World} {mv u hv : Value} (h : PcJ ans l g2 w4 mv u hv k w) :
    ∃ (M K : List Mm) (n2 : Nat), w.ownsRow w4.heap.size 25 6 mv M.length (mmsL M) ∧ w.ownsRow n2 25 6 u K.length (mmsL K) ∧ (∀ x ∈ K, (∃ A n c, x.hs = .slice A n c) ∧ ∃ A n c, x.bd = .slice A n c) ∧ M.length + K.length ≤ k ∧ w4.heap.size ≤ w.heap.size ∧
      ∀ v' w', w'.ownsRow w4.heap.size 25 6 v' (M ++ K).length (mmsL (M ++ K)) → Bes (fun q => mv.ownBlock = some q) w w' → (v'.ownBlock = mv.ownBlock ∨ v'.ownBlock = some w.heap.size) → PcI ans l g2 w4 v' hv k w' ∧ Below w4.heap.size w w' := by
  obtain ⟨M, G, nx, tk, hs, bd, L, K3, hF, hlv, hown, hoff, hms, hcnt, hd⟩ := h
  refine ⟨M, L, g2, hown, hF.2.rw_, fun x hx => ?_, hcnt, K3.size, fun v' w' h1 hb hat => ?_⟩
  · obtain ⟨⟨A, c, e1, _⟩, ⟨A2, c2, e2, _⟩, _⟩ := (hF.2.ms x hx).1
    exact ⟨⟨A, _, c, e1⟩, ⟨A2, _, c2, e2⟩⟩
  · have hXt : ∀ q, mv.ownBlock = some q → ∃ arr fz, w.heap[q]? = some (.cells arr 25 fz) := own_ty hown
    have hM1 : ∀ x, IsMm w x → MOff (fun q => mv.ownBlock = some q) x := fun x hx => mm_off hx hXt (by decide) (by decide)
    refine ⟨⟨M ++ L, G, nx, tk, hs, bd, u, L, K3.trans hb (fun _ x => x) (fun i hi e => absurd (own_in hown e).1 (by omega)), FdM.bes hF hb (fun q e y => hoff q e y) (fun x hx => hM1 x (hF.2.ms x hx).1), hlv, h1, ?_, fun x hx => ?_, by rw [List.length_append]; exact hcnt, ?_⟩, hb.below (fun q e => (own_in hown e).1) K3.size⟩
    · intro q e y
      rcases hat with e2 | e2
      · exact hoff q (e2 ▸ e) y
      · rw [e2] at e
        have h3 := hF.live q y
        injection e with e
        omega
    · rcases List.mem_append.1 hx with hx | hx
      · exact ⟨(hms x hx).1.bes hb (hM1 x (hms x hx).1), (hms x hx).2⟩
      · exact ⟨(hF.2.ms x hx).1.bes hb (hM1 x (hF.2.ms x hx).1), (hF.2.ms x hx).2⟩
    · rcases hd with ⟨h1, h2, h3, h4, h5⟩ | ⟨c, q, N, h1, h2, h3, h4⟩
      · exact .inl ⟨h1, h2, h3, h4, h5⟩
      · have hI : w.heap[N]? = some (.cells (FaultA q c) 85 (0, 0)) := h2
        exact .inr ⟨c, q, N, h1, Bes.box hb h2 (fun e => ty_off (own_ty hown) hI (by decide) e), h3, h4⟩
/-- What holds behind the loop. -/
def PcE (w : World) (g1 g2 : Nat) (lv mv ev hv : Value) : Prop := ∃ (G1 G2 : Fs) (n1x t1 h1 b1 n2x t2 h2 b2 v2 : Value) (L1 M L2 : List Mm) (P1 P2 : Bs),
  FdM P1 g1 G1 n1x t1 h1 b1 lv L1 w ∧ FdM P2 g2 G2 n2x t2 h2 b2 v2 L2 w ∧ MmsAt w lv L1 ∧ MmsAt w mv M ∧ L1.map (·.m) = M.map (·.m) ∧ L1.length ≤ 140737488355328 ∧
  ((ev = .nilIface ∧ hv = .nilIface ∧ openB G1 = openB G2) ∨ ∃ (c : Int) (p N1 N2 : Nat), ev = .iface 83 (.pointer (some ⟨N1, 0, none⟩)) ∧ hv = .iface 83 (.pointer (some ⟨N2, 0, none⟩)) ∧ IBox w N1 85 (FaultA p c) ∧ IBox w N2 85 (FaultA p c) ∧ G1.shut = true ∧ G2.shut = true ∧ (c = 2 ∨ c = 3 ∨ c = 31 ∨ c = 32) ∧ p ≤ 9223372036854775807)
theorem PcI.ends {ans : Bool} {l : List UInt8} {g1 g2 k n1 : Nat} {w4 w : World} {mv hv nx1 tk1 hs1 bd1 wh1 ev1 : Value} {G1 : Fs} {L1 : List Mm} {arr : Array Value} (h : PcI ans l g2 w4 mv hv k w) (hl : l.length ≤ 1099511627776)
    (hF : FdM ⟨n1, (· = g2)⟩ g1 G1 nx1 tk1 hs1 bd1 wh1 L1 w4) (hB : IBox w4 g2 81 arr)
    (hd1 : (feedS (newS ans) l = .inl G1 ∧ ev1 = .nilIface ∧ nx1 = stepV G1.next ∧ FI G1 ∧ HZ G1) ∨ ∃ (c : Int) (p N : Nat), feedS (newS ans) l = .inr (c, p, G1.whole) ∧ ev1 = .iface 83 (.pointer (some ⟨N, 0, none⟩)) ∧ IBox w4 N 85 (FaultA p c) ∧ G1.shut = true)
    (hend : hv = .nilIface → k = l.length) : PcE w g1 g2 wh1 mv ev1 hv := by
  obtain ⟨M, G, nx, tk, hs, bd, wh, L, K3, hG, hlv, hown, hoff, hms, hcnt, hd⟩ := h
  have hty : w4.heap[g2]? = some (.cells arr 81 (0, 0)) := hB
  have hF2 : FdM ⟨n1, (· = g2)⟩ g1 G1 nx1 tk1 hs1 bd1 wh1 L1 w := FdM.bes hF K3 (fun q e y => hF.2.off q y e) (fun x hx => mm_off (hF.2.ms x hx).1 (T := 81) (fun q e => by have e2 : q = g2 := e; subst e2; exact ⟨_, _, hty⟩) (by decide) (by decide))
  rw [newS_feed] at hd1
  have hwl : L1.map (·.m) = G1.whole := hF.2.wl
  have hrc := run_count l (newS ans) (FI.new ans) (newS_HZ ans)
  rw [newS_whole] at hrc
  have key : L1.map (·.m) = M.map (·.m) ∧ L1.length ≤ 140737488355328 ∧ ((ev1 = .nilIface ∧ hv = .nilIface ∧ openB G1 = openB G) ∨ ∃ (c : Int) (p N1 N2 : Nat), ev1 = .iface 83 (.pointer (some ⟨N1, 0, none⟩)) ∧ hv = .iface 83 (.pointer (some ⟨N2, 0, none⟩)) ∧ IBox w N1 85 (FaultA p c) ∧ IBox w N2 85 (FaultA p c) ∧ G1.shut = true ∧ G.shut = true ∧ (c = 2 ∨ c = 3 ∨ c = 31 ∨ c = 32) ∧ p ≤ 9223372036854775807) := by
    have e1 : L1.length = G1.whole.length := by rw [← hwl, List.length_map]
    rcases hd with ⟨h1, h2, _⟩ | ⟨c, p, N, h1, h2, h3, h4⟩
    · rw [hend h1, List.take_length] at h2
      rcases hd1 with ⟨k1, k2, _⟩ | ⟨c, p, N, k1, _⟩
      · rw [h2] at k1
        injection k1 with k1
        have hc := (hrc.1 _ h2).2.2.1
        rw [k1] at hc
        simp only [List.length_nil, Nat.zero_add] at hc
        refine ⟨by rw [hwl, ← k1]; rfl, by omega, .inl ⟨k2, h1, by rw [← k1]; rfl⟩⟩
      · rw [h2] at k1
        cases k1
    · rcases hd1 with ⟨k1, _⟩ | ⟨c2, p2, N1, k1, k2, k3, k4⟩
      · rw [h4] at k1
        cases k1
      · rw [h4] at k1
        injection k1 with k1
        injection k1 with e2 k1
        injection k1 with e3 e4
        subst e2
        subst e3
        obtain ⟨j1, j2, j3⟩ := hrc.2 _ _ _ h4
        have e5 : (newS ans).pos = 0 := by cases ans <;> rfl
        rw [e4] at j2
        simp only [List.length_nil, Nat.zero_add] at j2
        refine ⟨by rw [hwl, ← e4], by omega, .inr ⟨c, p, N1, N, k2, h1, ?_, h2, k4, h3, j1, by omega⟩⟩
        refine Bes.box K3 k3 (fun e => ?_)
        have e6 : N1 = g2 := e
        have hI : w4.heap[N1]? = some (.cells (FaultA p c) 85 (0, 0)) := k3
        rw [e6, hty] at hI
        injection hI with hI
        injection hI with _ hI _
        exact absurd hI (by decide)
  exact ⟨G1, G, nx1, tk1, hs1, bd1, nx, tk, hs, bd, wh, L1, M, L, _, _, hF2, hG, hF2.mms, mms_row hown (fun x hx => mm_b (hms x hx).1), key.1, key.2.1, key.2.2⟩
end Go.Proofs.YtbehakabglegjaaGreatDoor
namespace Go.Proofs.YtbehakabglegjaaGreatDoor
open Go.RowKit Go.PlainAid
set_option linter.unusedVariables false
set_option linter.unusedSimpArgs false
theorem line_req (me ta : ByteArray) : ((me ++ (⟨#[32]⟩ : ByteArray)) ++ ta) ++ (⟨#[32, 72, 84, 84, 80, 47, 49, 46, 49, 13, 10]⟩ : ByteArray) = txt (bl me ++ 32 :: bl ta ++ 32 :: protoL ++ crlf) := by
  apply ext_bytes
  simp only [ByteArray.data_append, Array.toList_append]
  show bl me ++ [32] ++ bl ta ++ (32 :: (protoL ++ crlf)) = bl me ++ 32 :: bl ta ++ 32 :: protoL ++ crlf
  simp
set_option maxRecDepth 100000 in
set_option maxHeartbeats 16000000 in
theorem rstart_req {me ta re : ByteArray} {sn : Int} {hs bd : Value} {w : World} (hs1 : me.size ≤ 1099511627776) (hs2 : ta.size ≤ 1099511627776) (hm0 : me.size ≠ 0) :
    Calls Tryz.prog 38 #[.agg #[.string me, .string ta, .int .i64 sn, .string re, hs, bd]] w fun e w' => e = .returned (.tuple #[.string (txt (startL ⟨me, ta, sn, re, [], []⟩ ++ crlf)), .bool (startB ⟨me, ta, sn, re, [], []⟩)]) ∧ Below w.heap.size w w' := by
  have hL : startL ⟨me, ta, sn, re, [], []⟩ ++ crlf = bl me ++ 32 :: bl ta ++ 32 :: protoL ++ crlf := by unfold startL; rw [if_pos hm0]
  have hB : startB ⟨me, ta, sn, re, [], []⟩ = (((decide (me.size ≤ 16) && (bl me).all isUpB) && ((decide (ta.size ≠ 0) && decide (ta.size ≤ 2048)) && (bl ta).all isSeenB)) && (decide (sn = 0) && decide (re.size = 0))) := by unfold startB; rw [if_pos hm0]
  rw [hL, hB, ← line_req]
  have HA1 : Hid (∀ w, Calls Tryz.prog 68 #[.string me, .int .i64 3] w fun e w' => e = .returned (.bool ((bl me).all isUpB)) ∧ w = w') := Lib.hid fun w => all3_any me w (by omega)
  have HA2 : Hid (∀ w, Calls Tryz.prog 68 #[.string ta, .int .i64 0] w fun e w' => e = .returned (.bool ((bl ta).all isSeenB)) ∧ w = w') := Lib.hid fun w => all0_any ta w (by omega)
  generalize (bl me).all isUpB = b1 at HA1
  generalize (bl ta).all isSeenB = b2 at HA2
  have hne := ne_empty hm0
  have n1 : ¬ 9223372036854775807 < me.size + 1 := by omega
  have n2 : ¬ 9223372036854775807 < me.size + 1 + ta.size := by omega
  have n3 : ¬ 9223372036854775807 < me.size + 1 + ta.size + 11 := by omega
  clear hL hB hs1 hs2 hm0
  have H : ¬ me.size ≤ 16 ∨ (me.size ≤ 16 ∧ b1 = false) ∨ (me.size ≤ 16 ∧ b1 = true ∧ ta.size = 0) ∨ (me.size ≤ 16 ∧ b1 = true ∧ ta.size ≠ 0 ∧ ¬ ta.size ≤ 2048) ∨ (me.size ≤ 16 ∧ b1 = true ∧ ta.size ≠ 0 ∧ ta.size ≤ 2048 ∧ b2 = false) ∨ (me.size ≤ 16 ∧ b1 = true ∧ ta.size ≠ 0 ∧ ta.size ≤ 2048 ∧ b2 = true ∧ sn ≠ 0) ∨ (me.size ≤ 16 ∧ b1 = true ∧ ta.size ≠ 0 ∧ ta.size ≤ 2048 ∧ b2 = true ∧ sn = 0 ∧ re.size ≠ 0) ∨ (me.size ≤ 16 ∧ b1 = true ∧ ta.size ≠ 0 ∧ ta.size ≤ 2048 ∧ b2 = true ∧ sn = 0 ∧ re.size = 0) := by
    by_cases c1 : me.size ≤ 16 <;> by_cases c2 : ta.size = 0 <;> by_cases c3 : ta.size ≤ 2048 <;> by_cases c4 : sn = 0 <;> by_cases c5 : re.size = 0 <;> cases b1 <;> cases b2 <;> simp [c1, c2, c3, c4, c5]
  rcases H with c1 | ⟨c1, rfl⟩ | ⟨c1, rfl, c2⟩ | ⟨c1, rfl, c2, c3⟩ | ⟨c1, rfl, c2, c3, rfl⟩ | ⟨c1, rfl, c2, c3, rfl, c4⟩ | ⟨c1, rfl, c2, c3, rfl, c4, c5⟩ | ⟨c1, rfl, c2, c3, rfl, c4, c5⟩
  · -- case 0
    generalize hr : (((decide (me.size ≤ 16) && b1) && ((decide (ta.size ≠ 0) && decide (ta.size ≤ 2048)) && b2)) && (decide (sn = 0) && decide (re.size = 0))) = r
    have hr2 : r = false := by rw [← hr]; simp [c1]
    clear hr
    subst hr2
    have e1 : ¬ (me.size : Int) ≤ 16 := by omega
    clear c1
    go_enter Tryz.func38, Tryz.ntmps38
    go_wp2_with (first
      | (refine wpl_box_at rfl 25 (.tmp 0) rfl _ rfl ?_; intro w1 hw; have B1 := hid_alloc0 hw; have HB := hid_grow hw; clear hw; have m0 : w1.cell? ⟨w.heap.size, 0, none⟩ = some (.string me) := B1.cell 0; have m1 : w1.cell? ⟨w.heap.size, 1, none⟩ = some (.string ta) := B1.cell 1; have m2 : w1.cell? ⟨w.heap.size, 2, none⟩ = some (.int .i64 sn) := B1.cell 2; have m3 : w1.cell? ⟨w.heap.size, 3, none⟩ = some (.string re) := B1.cell 3)
      | (go_at_call 68; (with_reducible refine (HA1.out _).mono ?_); rintro e w3 ⟨rfl, rfl⟩)
      | (go_at_call 68; (with_reducible refine (HA2.out _).mono ?_); rintro e w3 ⟨rfl, rfl⟩))
    all_goals
      go_ret2
      exact ⟨rfl, HB⟩
  · -- case 1
    generalize hr : (((decide (me.size ≤ 16) && false) && ((decide (ta.size ≠ 0) && decide (ta.size ≤ 2048)) && b2)) && (decide (sn = 0) && decide (re.size = 0))) = r
    have hr2 : r = false := by rw [← hr]; simp [c1]
    clear hr
    subst hr2
    have e1 : (me.size : Int) ≤ 16 := by omega
    clear c1
    go_enter Tryz.func38, Tryz.ntmps38
    go_wp2_with (first
      | (refine wpl_box_at rfl 25 (.tmp 0) rfl _ rfl ?_; intro w1 hw; have B1 := hid_alloc0 hw; have HB := hid_grow hw; clear hw; have m0 : w1.cell? ⟨w.heap.size, 0, none⟩ = some (.string me) := B1.cell 0; have m1 : w1.cell? ⟨w.heap.size, 1, none⟩ = some (.string ta) := B1.cell 1; have m2 : w1.cell? ⟨w.heap.size, 2, none⟩ = some (.int .i64 sn) := B1.cell 2; have m3 : w1.cell? ⟨w.heap.size, 3, none⟩ = some (.string re) := B1.cell 3)
      | (go_at_call 68; (with_reducible refine (HA1.out _).mono ?_); rintro e w3 ⟨rfl, rfl⟩)
      | (go_at_call 68; (with_reducible refine (HA2.out _).mono ?_); rintro e w3 ⟨rfl, rfl⟩))
    all_goals
      go_ret2
      exact ⟨rfl, HB⟩
  · -- case 2
    generalize hr : (((decide (me.size ≤ 16) && true) && ((decide (ta.size ≠ 0) && decide (ta.size ≤ 2048)) && b2)) && (decide (sn = 0) && decide (re.size = 0))) = r
    have hr2 : r = false := by rw [← hr]; simp [c1, c2]
    clear hr
    subst hr2
    have e1 : (me.size : Int) ≤ 16 := by omega
    have e2 := is_empty c2
    clear c1 c2
    go_enter Tryz.func38, Tryz.ntmps38
    go_wp2_with (first
      | (refine wpl_box_at rfl 25 (.tmp 0) rfl _ rfl ?_; intro w1 hw; have B1 := hid_alloc0 hw; have HB := hid_grow hw; clear hw; have m0 : w1.cell? ⟨w.heap.size, 0, none⟩ = some (.string me) := B1.cell 0; have m1 : w1.cell? ⟨w.heap.size, 1, none⟩ = some (.string ta) := B1.cell 1; have m2 : w1.cell? ⟨w.heap.size, 2, none⟩ = some (.int .i64 sn) := B1.cell 2; have m3 : w1.cell? ⟨w.heap.size, 3, none⟩ = some (.string re) := B1.cell 3)
      | (go_at_call 68; (with_reducible refine (HA1.out _).mono ?_); rintro e w3 ⟨rfl, rfl⟩)
      | (go_at_call 68; (with_reducible refine (HA2.out _).mono ?_); rintro e w3 ⟨rfl, rfl⟩))
    all_goals
      go_ret2
      exact ⟨rfl, HB⟩
  · -- case 3
    generalize hr : (((decide (me.size ≤ 16) && true) && ((decide (ta.size ≠ 0) && decide (ta.size ≤ 2048)) && b2)) && (decide (sn = 0) && decide (re.size = 0))) = r
    have hr2 : r = false := by rw [← hr]; simp [c1, c2, c3]
    clear hr
    subst hr2
    have e1 : (me.size : Int) ≤ 16 := by omega
    have e2 := ne_empty c2
    have e3 : ¬ (ta.size : Int) ≤ 2048 := by omega
    clear c1 c2 c3
    go_enter Tryz.func38, Tryz.ntmps38
    go_wp2_with (first
      | (refine wpl_box_at rfl 25 (.tmp 0) rfl _ rfl ?_; intro w1 hw; have B1 := hid_alloc0 hw; have HB := hid_grow hw; clear hw; have m0 : w1.cell? ⟨w.heap.size, 0, none⟩ = some (.string me) := B1.cell 0; have m1 : w1.cell? ⟨w.heap.size, 1, none⟩ = some (.string ta) := B1.cell 1; have m2 : w1.cell? ⟨w.heap.size, 2, none⟩ = some (.int .i64 sn) := B1.cell 2; have m3 : w1.cell? ⟨w.heap.size, 3, none⟩ = some (.string re) := B1.cell 3)
      | (go_at_call 68; (with_reducible refine (HA1.out _).mono ?_); rintro e w3 ⟨rfl, rfl⟩)
      | (go_at_call 68; (with_reducible refine (HA2.out _).mono ?_); rintro e w3 ⟨rfl, rfl⟩))
    all_goals
      go_ret2
      exact ⟨rfl, HB⟩
  · -- case 4
    generalize hr : (((decide (me.size ≤ 16) && true) && ((decide (ta.size ≠ 0) && decide (ta.size ≤ 2048)) && false)) && (decide (sn = 0) && decide (re.size = 0))) = r
    have hr2 : r = false := by rw [← hr]; simp [c1, c2, c3]
    clear hr
    subst hr2
    have e1 : (me.size : Int) ≤ 16 := by omega
    have e2 := ne_empty c2
    have e3 : (ta.size : Int) ≤ 2048 := by omega
    clear c1 c2 c3
    go_enter Tryz.func38, Tryz.ntmps38
    go_wp2_with (first
      | (refine wpl_box_at rfl 25 (.tmp 0) rfl _ rfl ?_; intro w1 hw; have B1 := hid_alloc0 hw; have HB := hid_grow hw; clear hw; have m0 : w1.cell? ⟨w.heap.size, 0, none⟩ = some (.string me) := B1.cell 0; have m1 : w1.cell? ⟨w.heap.size, 1, none⟩ = some (.string ta) := B1.cell 1; have m2 : w1.cell? ⟨w.heap.size, 2, none⟩ = some (.int .i64 sn) := B1.cell 2; have m3 : w1.cell? ⟨w.heap.size, 3, none⟩ = some (.string re) := B1.cell 3)
      | (go_at_call 68; (with_reducible refine (HA1.out _).mono ?_); rintro e w3 ⟨rfl, rfl⟩)
      | (go_at_call 68; (with_reducible refine (HA2.out _).mono ?_); rintro e w3 ⟨rfl, rfl⟩))
    all_goals
      go_ret2
      exact ⟨rfl, HB⟩
  · -- case 5
    generalize hr : (((decide (me.size ≤ 16) && true) && ((decide (ta.size ≠ 0) && decide (ta.size ≤ 2048)) && true)) && (decide (sn = 0) && decide (re.size = 0))) = r
    have hr2 : r = false := by rw [← hr]; simp [c1, c2, c3, c4]
    clear hr
    subst hr2
    have e1 : (me.size : Int) ≤ 16 := by omega
    have e2 := ne_empty c2
    have e3 : (ta.size : Int) ≤ 2048 := by omega
    have e4 : (sn == 0) = false := by simpa using c4
    clear c1 c2 c3 c4
    go_enter Tryz.func38, Tryz.ntmps38
    go_wp2_with (first
      | (refine wpl_box_at rfl 25 (.tmp 0) rfl _ rfl ?_; intro w1 hw; have B1 := hid_alloc0 hw; have HB := hid_grow hw; clear hw; have m0 : w1.cell? ⟨w.heap.size, 0, none⟩ = some (.string me) := B1.cell 0; have m1 : w1.cell? ⟨w.heap.size, 1, none⟩ = some (.string ta) := B1.cell 1; have m2 : w1.cell? ⟨w.heap.size, 2, none⟩ = some (.int .i64 sn) := B1.cell 2; have m3 : w1.cell? ⟨w.heap.size, 3, none⟩ = some (.string re) := B1.cell 3)
      | (go_at_call 68; (with_reducible refine (HA1.out _).mono ?_); rintro e w3 ⟨rfl, rfl⟩)
      | (go_at_call 68; (with_reducible refine (HA2.out _).mono ?_); rintro e w3 ⟨rfl, rfl⟩))
    all_goals
      go_ret2
      exact ⟨rfl, HB⟩
  · -- case 6
    generalize hr : (((decide (me.size ≤ 16) && true) && ((decide (ta.size ≠ 0) && decide (ta.size ≤ 2048)) && true)) && (decide (sn = 0) && decide (re.size = 0))) = r
    have hr2 : r = false := by rw [← hr]; simp [c1, c2, c3, c4, c5]
    clear hr
    subst hr2
    have e1 : (me.size : Int) ≤ 16 := by omega
    have e2 := ne_empty c2
    have e3 : (ta.size : Int) ≤ 2048 := by omega
    have e4 : (sn == 0) = true := by rw [c4]; rfl
    have e5 := ne_empty c5
    clear c1 c2 c3 c4 c5
    go_enter Tryz.func38, Tryz.ntmps38
    go_wp2_with (first
      | (refine wpl_box_at rfl 25 (.tmp 0) rfl _ rfl ?_; intro w1 hw; have B1 := hid_alloc0 hw; have HB := hid_grow hw; clear hw; have m0 : w1.cell? ⟨w.heap.size, 0, none⟩ = some (.string me) := B1.cell 0; have m1 : w1.cell? ⟨w.heap.size, 1, none⟩ = some (.string ta) := B1.cell 1; have m2 : w1.cell? ⟨w.heap.size, 2, none⟩ = some (.int .i64 sn) := B1.cell 2; have m3 : w1.cell? ⟨w.heap.size, 3, none⟩ = some (.string re) := B1.cell 3)
      | (go_at_call 68; (with_reducible refine (HA1.out _).mono ?_); rintro e w3 ⟨rfl, rfl⟩)
      | (go_at_call 68; (with_reducible refine (HA2.out _).mono ?_); rintro e w3 ⟨rfl, rfl⟩))
    all_goals
      go_ret2
      exact ⟨rfl, HB⟩
  · -- case 7
    generalize hr : (((decide (me.size ≤ 16) && true) && ((decide (ta.size ≠ 0) && decide (ta.size ≤ 2048)) && true)) && (decide (sn = 0) && decide (re.size = 0))) = r
    have hr2 : r = true := by rw [← hr]; simp [c1, c2, c3, c4, c5]
    clear hr
    subst hr2
    have e1 : (me.size : Int) ≤ 16 := by omega
    have e2 := ne_empty c2
    have e3 : (ta.size : Int) ≤ 2048 := by omega
    have e4 : (sn == 0) = true := by rw [c4]; rfl
    have e5 := is_empty c5
    clear c1 c2 c3 c4 c5
    go_enter Tryz.func38, Tryz.ntmps38
    go_wp2_with (first
      | (refine wpl_box_at rfl 25 (.tmp 0) rfl _ rfl ?_; intro w1 hw; have B1 := hid_alloc0 hw; have HB := hid_grow hw; clear hw; have m0 : w1.cell? ⟨w.heap.size, 0, none⟩ = some (.string me) := B1.cell 0; have m1 : w1.cell? ⟨w.heap.size, 1, none⟩ = some (.string ta) := B1.cell 1; have m2 : w1.cell? ⟨w.heap.size, 2, none⟩ = some (.int .i64 sn) := B1.cell 2; have m3 : w1.cell? ⟨w.heap.size, 3, none⟩ = some (.string re) := B1.cell 3)
      | (go_at_call 68; (with_reducible refine (HA1.out _).mono ?_); rintro e w3 ⟨rfl, rfl⟩)
      | (go_at_call 68; (with_reducible refine (HA2.out _).mono ?_); rintro e w3 ⟨rfl, rfl⟩))
    all_goals
      go_ret2
      exact ⟨rfl, HB⟩
end Go.Proofs.YtbehakabglegjaaGreatDoor
