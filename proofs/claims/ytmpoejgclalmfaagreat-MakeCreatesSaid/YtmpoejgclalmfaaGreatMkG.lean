/- Layer 19: make.draft of a room's first event. -/
import Derived.Test.YtmpoejgclalmfaaGreatMkF
namespace Go.Proofs.YtmpoejgclalmfaaGreat
open Go.RowKit Go.PlainAid
set_option linter.unusedVariables false
set_option linter.unusedSimpArgs false

/-- A draft under way: the value's box, its fields' row (the call's own), and another row that is kept. -/
structure Dr (w : World) (base g : Nat) (A : Option Addr) (n c : Nat) (L : List (ByteArray × JV)) (u : Value) (m : Nat) (M : List (ByteArray × JV)) : Prop where
  low : base ≤ g
  box : IBox w g 26 (VC (.slice A n c))
  own : w.ownsRow base 48 7 (.slice A n c) n (fldL L)
  ne : (Value.slice A n c).ownBlock ≠ some g
  kept : w.ownsRow base 48 7 u m (fldL M)
  apart : ∀ k, u.ownBlock = some k → k ≠ g ∧ (Value.slice A n c).ownBlock ≠ some k
theorem Dr.below {w w' : World} {base g : Nat} {A : Option Addr} {n c : Nat} {L : List (ByteArray × JV)} {u : Value} {m : Nat} {M : List (ByteArray × JV)} (h : Dr w base g A n c L u m M) (hb : Below w.heap.size w w') : Dr w' base g A n c L u m M :=
  ⟨h.low, IBox.below h.box hb h.box.lt, own_below h.own hb, h.ne, own_below h.kept hb, h.apart⟩
theorem Dr.row {w w' : World} {base g k : Nat} {A : Option Addr} {n c : Nat} {L : List (ByteArray × JV)} {u : Value} {m : Nat} {M : List (ByteArray × JV)} {arr : Array Value} (h : Dr w base g A n c L u m M) (hw : Hid (w' = w.setRow k arr)) (hk : k < base) : Dr w' base g A n c L u m M := by
  have hbe := Bes.row (X := fun i => i < base) hw hk
  exact ⟨h.low, hbe.box h.box (Nat.not_lt.2 h.low), hbe.own h.own (fun i e => Nat.not_lt.2 (own_in h.own e).1), h.ne, hbe.own h.kept (fun i e => Nat.not_lt.2 (own_in h.kept e).1), h.apart⟩
/-- Another row is kept from now on. -/
theorem Dr.keep {w w' : World} {base g : Nat} {A : Option Addr} {n c : Nat} {L : List (ByteArray × JV)} {u : Value} {m : Nat} {M : List (ByteArray × JV)} (h : Dr w base g A n c L (.slice none 0 0) 0 []) (hb : Below w.heap.size w w') (hk : w'.ownsRow w.heap.size 48 7 u m (fldL M)) (hB : base ≤ w.heap.size) : Dr w' base g A n c L u m M := by
  have h' := h.below hb
  refine ⟨h'.low, h'.box, h'.own, h'.ne, own_mono hk hB, fun k e => ⟨?_, fun e2 => ?_⟩⟩
  · have h1 := (own_in hk e).1
    have h2 := h.box.lt
    omega
  · have h1 := (own_in hk e).1
    have h2 := (own_in h.own e2).2
    omega
theorem put_dr (nm : ByteArray) (x : JV) {g base n c : Nat} {A : Option Addr} {L : List (ByteArray × JV)} {u : Value} {m : Nat} {M : List (ByteArray × JV)} {w : World} (h : Dr w base g A n c L u m M) (hn : n ≤ 100) :
    Calls Tryz.prog 32 #[.string nm, .agg x.cells, .pointer (some ⟨g, 0, none⟩)] w fun e w' => e = .returned (.tuple #[]) ∧
      ∃ A' c', Dr w' base g A' (n + 1) c' (L ++ [(nm, x)]) u m M ∧ Below base w w' := by
  refine (put_any nm x h.box h.own h.low h.ne hn).mono ?_
  rintro e w' ⟨rfl, A', c', h1, h2, h3, h4, h5⟩
  refine ⟨rfl, A', c', ⟨h.low, h1, ?_, h3, h5.own h.kept ?_, ?_⟩, h5.below ?_ (Nat.le_trans h.low (Nat.le_of_lt h.box.lt))⟩
  · rw [fldL_app, fldL_one]; exact h2
  · rintro k hk (e | e)
    · exact (h.apart k hk).1 e
    · exact (h.apart k hk).2 e
  · intro k hk
    refine ⟨(h.apart k hk).1, fun e => ?_⟩
    rcases h4 k e with e2 | e2
    · exact (h.apart k hk).2 e2
    · have := (own_in h.kept hk).2
      omega
  · rintro k (e | e)
    · rw [e]; exact h.low
    · exact (own_in h.own e).1
theorem cell_low {w w' : World} {B g j : Nat} {v : Value} (hb : Below B w w') (hg : g < B) (h : w.cell? ⟨g, j, none⟩ = some v) : w'.cell? ⟨g, j, none⟩ = some v := (World.cell?_of_block (hb.block g hg)).trans h
def rvN : ByteArray := ⟨#[114, 111, 111, 109, 95, 118, 101, 114, 115, 105, 111, 110]⟩
def rvV : ByteArray := ⟨#[49, 49]⟩
def crT : ByteArray := ⟨#[109, 46, 114, 111, 111, 109, 46, 99, 114, 101, 97, 116, 101]⟩
/-- The event that make.Create drafts; its content's fields lie at u. -/
def evC (room sender : ByteArray) (stamp : Int) (u : Value) : Array Value := #[.string ⟨#[]⟩, .string crT, .string room, .string sender, .bool true, .string ⟨#[]⟩, .slice none 0 0, .slice none 0 0, .int .i64 0, .int .i64 stamp,
  .int .i64 5, .bool false, .int .i64 0, .string ⟨#[]⟩, .slice none 0 0, u, .int .i64 0, .bool false, .int .i64 0, .string ⟨#[]⟩, .slice none 0 0, .slice none 0 0]
theorem ev_range {w : World} {g : Nat} {t : TypeId} {room sender : ByteArray} {stamp : Int} {u : Value} (h : IBox w g t (evC room sender stamp u)) : w.rangeAt g 10 (VC u).toList := fun j v hv => by
  rw [h.cell]
  match j, hv with
  | 0, hv => exact hv
  | 1, hv => exact hv
  | 2, hv => exact hv
  | 3, hv => exact hv
  | 4, hv => exact hv
  | 5, hv => exact hv
  | j + 6, hv => simp [VC] at hv
/-- The fields of a room's first event. -/
def crL (room sender : ByteArray) (stamp : Int) (A2 : Option Addr) (c2 : Nat) : List (ByteArray × JV) := [(⟨#[97, 117, 116, 104, 95, 101, 118, 101, 110, 116, 115]⟩, exNone), (⟨#[99, 111, 110, 116, 101, 110, 116]⟩, objJ A2 c2 [(rvN, exText rvV)]), (⟨#[100, 101, 112, 116, 104]⟩, exInt 0), (⟨#[111, 114, 105, 103, 105, 110, 95, 115, 101, 114, 118, 101, 114, 95, 116, 115]⟩, exInt stamp), (⟨#[112, 114, 101, 118, 95, 101, 118, 101, 110, 116, 115]⟩, exNone), (⟨#[114, 111, 111, 109, 95, 105, 100]⟩, exText room), (⟨#[115, 101, 110, 100, 101, 114]⟩, exText sender), (⟨#[115, 116, 97, 116, 101, 95, 107, 101, 121]⟩, exText ⟨#[]⟩), (⟨#[116, 121, 112, 101]⟩, exText crT)]
set_option maxRecDepth 10000 in
set_option maxHeartbeats 4000000 in
theorem draft_create (room sender : ByteArray) (stamp : Int) {b off c : Nat} {w : World} (RX : w.rangeAt b off (fldA (rvN, exText rvV)).toList) :
    Calls Tryz.prog 15 #[.agg (evC room sender stamp (.slice (some ⟨b, off, none⟩) 1 c))] w fun e w' => ∃ A' c' A2 c2, e = .returned (.agg (VC (.slice A' 9 c'))) ∧
      w'.ownsRow w.heap.size 48 7 (.slice A' 9 c') 9 (fldL (crL room sender stamp A2 c2)) ∧ w'.ownsRow w.heap.size 48 7 (.slice A2 1 c2) 1 (fldL [(rvN, exText rvV)]) ∧ Below w.heap.size w w' := by
  have hmf : ∀ (fn : Fn) (first cap : Array Value) (w : World), (Instr.makeFunc fn first cap).run Tryz.prog w = .ok (.func fn first cap) w := fun _ _ _ _ => rfl
  have HB := Below.refl w.heap.size w
  go_enter Tryz.func15, Tryz.ntmps15
  go_wp2_with (first
    | (refine wpl_box_at rfl 42 (.tmp 0) rfl _ rfl ?_; intro w1 hw; have hb := hid_grow hw; have B1 := (hid_alloc hw).1; replace HB := HB.trans (hb.mono HB.size); clear hb hw; have c1_7 : w1.cell? ⟨_, 7, none⟩ = some (.slice none 0 0) := B1.cell 7; have c1_8 : w1.cell? ⟨_, 8, none⟩ = some (.int .i64 0) := B1.cell 8; have c1_9 : w1.cell? ⟨_, 9, none⟩ = some (.int .i64 stamp) := B1.cell 9; have c1_6 : w1.cell? ⟨_, 6, none⟩ = some (.slice none 0 0) := B1.cell 6; have c1_2 : w1.cell? ⟨_, 2, none⟩ = some (.string room) := B1.cell 2; have c1_3 : w1.cell? ⟨_, 3, none⟩ = some (.string sender) := B1.cell 3; have c1_4 : w1.cell? ⟨_, 4, none⟩ = some (.bool true) := B1.cell 4; have c1_5 : w1.cell? ⟨_, 5, none⟩ = some (.string ⟨#[]⟩) := B1.cell 5; have c1_1 : w1.cell? ⟨_, 1, none⟩ = some (.string crT) := B1.cell 1)
    | ((with_reducible refine is_alloc ?_); refine wpl_newbox 3 rfl rfl 26 rfl rfl (.tmp 5) rfl _ zeroV (VC (.slice none 0 0)) rfl rfl info_value rfl VC_one ?_; intro w3 hw; have hb := hid_grow hw; have BV := (hid_alloc hw).1; have G0 := HB.size; have G1 := IBox.lt B1; have G2 := IBox.lt B2; have HBB := hb; replace HB := HB.trans (hb.mono HB.size); replace B1 := IBox.below B1 hb (IBox.lt B1); replace B2 := IBox.below B2 hb (IBox.lt B2); replace c1_7 := cell_below hb c1_7; replace c1_8 := cell_below hb c1_8; replace c1_9 := cell_below hb c1_9; replace c1_6 := cell_below hb c1_6; replace c1_2 := cell_below hb c1_2; replace c1_3 := cell_below hb c1_3; replace c1_4 := cell_below hb c1_4; replace c1_5 := cell_below hb c1_5; replace c1_1 := cell_below hb c1_1; have HD : Dr w3 w2.heap.size w2.heap.size none 0 0 [] (.slice none 0 0) 0 [] := ⟨Nat.le_refl _, BV, World.ownsRow_nil _ _ _ _, (by simp [Value.ownBlock]), World.ownsRow_nil _ _ _ _, (by simp [Value.ownBlock])⟩; clear hb hw BV)
    | ((with_reducible refine is_alloc ?_); refine wpl_alloc_at rfl 26 rfl _ zeroV ?_; intro w2 hw; have hb := hid_grow hw; have B2 := hid_alloc0 hw; have L12 := IBox.lt B1; have HG2 := HB.size; replace HB := HB.trans (hb.mono HB.size); replace B1 := IBox.below B1 hb (IBox.lt B1); replace c1_7 := cell_below hb c1_7; replace c1_8 := cell_below hb c1_8; replace c1_9 := cell_below hb c1_9; replace c1_6 := cell_below hb c1_6; replace c1_2 := cell_below hb c1_2; replace c1_3 := cell_below hb c1_3; replace c1_4 := cell_below hb c1_4; replace c1_5 := cell_below hb c1_5; replace c1_1 := cell_below hb c1_1; clear hb hw)
    | (go_at_call 33; (with_reducible refine (mlist_any _).mono ?_); rintro e w9 ⟨rfl, hb⟩; replace HD := HD.below hb; have hB := hb.mono HBB.size; clear hb; replace HB := HB.trans (hB.mono G0); replace HBB := HBB.trans hB; replace B1 := IBox.below B1 hB G1; replace B2 := IBox.below B2 hB G2; replace c1_7 := cell_low hB G1 c1_7; replace c1_8 := cell_low hB G1 c1_8; replace c1_9 := cell_low hB G1 c1_9; replace c1_6 := cell_low hB G1 c1_6; replace c1_2 := cell_low hB G1 c1_2; replace c1_3 := cell_low hB G1 c1_3; replace c1_4 := cell_low hB G1 c1_4; replace c1_5 := cell_low hB G1 c1_5; replace c1_1 := cell_low hB G1 c1_1; clear hB))
  (go_at_call 32; refine (put_dr ⟨#[97, 117, 116, 104, 95, 101, 118, 101, 110, 116, 115]⟩ (exNone) HD (by decide)).mono ?_; rintro e w9 ⟨rfl, A', c', HD2, hB⟩; replace HD := HD2; clear HD2; replace HB := HB.trans (hB.mono G0); replace HBB := HBB.trans hB; replace B1 := IBox.below B1 hB G1; replace B2 := IBox.below B2 hB G2; replace c1_7 := cell_low hB G1 c1_7; replace c1_8 := cell_low hB G1 c1_8; replace c1_9 := cell_low hB G1 c1_9; replace c1_6 := cell_low hB G1 c1_6; replace c1_2 := cell_low hB G1 c1_2; replace c1_3 := cell_low hB G1 c1_3; replace c1_4 := cell_low hB G1 c1_4; replace c1_5 := cell_low hB G1 c1_5; replace c1_1 := cell_low hB G1 c1_1; clear hB)
  go_wp2_with (first
    | (go_at_call 34; (with_reducible refine (own_obj1 rvN rvV (range_below HB RX)).mono ?_); rintro e w9 ⟨A2, c2, rfl, hk, hb⟩; replace HD := HD.keep hb hk HBB.size; have hB := hb.mono HBB.size; clear hb hk; replace HB := HB.trans (hB.mono G0); replace HBB := HBB.trans hB; replace B1 := IBox.below B1 hB G1; replace B2 := IBox.below B2 hB G2; replace c1_7 := cell_low hB G1 c1_7; replace c1_8 := cell_low hB G1 c1_8; replace c1_9 := cell_low hB G1 c1_9; replace c1_6 := cell_low hB G1 c1_6; replace c1_2 := cell_low hB G1 c1_2; replace c1_3 := cell_low hB G1 c1_3; replace c1_4 := cell_low hB G1 c1_4; replace c1_5 := cell_low hB G1 c1_5; replace c1_1 := cell_low hB G1 c1_1; clear hB)
    | ((with_reducible refine is_load ?_); refine wpl_load_arr rfl 26 (.tmp 13) rfl _ 10 rfl (VC _) _ (ev_range B1) Tryz.underlying26 rfl info_value ?_))
  (go_at_call 32; refine (put_dr ⟨#[99, 111, 110, 116, 101, 110, 116]⟩ (objJ A2 c2 [(rvN, exText rvV)]) HD (by decide)).mono ?_; rintro e w9 ⟨rfl, A', c', HD2, hB⟩; replace HD := HD2; clear HD2; replace HB := HB.trans (hB.mono G0); replace HBB := HBB.trans hB; replace B1 := IBox.below B1 hB G1; replace B2 := IBox.below B2 hB G2; replace c1_7 := cell_low hB G1 c1_7; replace c1_8 := cell_low hB G1 c1_8; replace c1_9 := cell_low hB G1 c1_9; replace c1_6 := cell_low hB G1 c1_6; replace c1_2 := cell_low hB G1 c1_2; replace c1_3 := cell_low hB G1 c1_3; replace c1_4 := cell_low hB G1 c1_4; replace c1_5 := cell_low hB G1 c1_5; replace c1_1 := cell_low hB G1 c1_1; clear hB)
  go_wp2_with (first
    | (go_at_call 35; (with_reducible refine (mnumber_any _ _).mono ?_); rintro e w9 ⟨rfl, hb⟩; replace HD := HD.below hb; have hB := hb.mono HBB.size; clear hb; replace HB := HB.trans (hB.mono G0); replace HBB := HBB.trans hB; replace B1 := IBox.below B1 hB G1; replace B2 := IBox.below B2 hB G2; replace c1_7 := cell_low hB G1 c1_7; replace c1_8 := cell_low hB G1 c1_8; replace c1_9 := cell_low hB G1 c1_9; replace c1_6 := cell_low hB G1 c1_6; replace c1_2 := cell_low hB G1 c1_2; replace c1_3 := cell_low hB G1 c1_3; replace c1_4 := cell_low hB G1 c1_4; replace c1_5 := cell_low hB G1 c1_5; replace c1_1 := cell_low hB G1 c1_1; clear hB))
  (go_at_call 32; refine (put_dr ⟨#[100, 101, 112, 116, 104]⟩ (exInt 0) HD (by decide)).mono ?_; rintro e w9 ⟨rfl, A', c', HD2, hB⟩; replace HD := HD2; clear HD2; replace HB := HB.trans (hB.mono G0); replace HBB := HBB.trans hB; replace B1 := IBox.below B1 hB G1; replace B2 := IBox.below B2 hB G2; replace c1_7 := cell_low hB G1 c1_7; replace c1_8 := cell_low hB G1 c1_8; replace c1_9 := cell_low hB G1 c1_9; replace c1_6 := cell_low hB G1 c1_6; replace c1_2 := cell_low hB G1 c1_2; replace c1_3 := cell_low hB G1 c1_3; replace c1_4 := cell_low hB G1 c1_4; replace c1_5 := cell_low hB G1 c1_5; replace c1_1 := cell_low hB G1 c1_1; clear hB)
  go_wp2_with (first
    | (go_at_call 35; (with_reducible refine (mnumber_any _ _).mono ?_); rintro e w9 ⟨rfl, hb⟩; replace HD := HD.below hb; have hB := hb.mono HBB.size; clear hb; replace HB := HB.trans (hB.mono G0); replace HBB := HBB.trans hB; replace B1 := IBox.below B1 hB G1; replace B2 := IBox.below B2 hB G2; replace c1_7 := cell_low hB G1 c1_7; replace c1_8 := cell_low hB G1 c1_8; replace c1_9 := cell_low hB G1 c1_9; replace c1_6 := cell_low hB G1 c1_6; replace c1_2 := cell_low hB G1 c1_2; replace c1_3 := cell_low hB G1 c1_3; replace c1_4 := cell_low hB G1 c1_4; replace c1_5 := cell_low hB G1 c1_5; replace c1_1 := cell_low hB G1 c1_1; clear hB))
  (go_at_call 32; refine (put_dr ⟨#[111, 114, 105, 103, 105, 110, 95, 115, 101, 114, 118, 101, 114, 95, 116, 115]⟩ (exInt stamp) HD (by decide)).mono ?_; rintro e w9 ⟨rfl, A', c', HD2, hB⟩; replace HD := HD2; clear HD2; replace HB := HB.trans (hB.mono G0); replace HBB := HBB.trans hB; replace B1 := IBox.below B1 hB G1; replace B2 := IBox.below B2 hB G2; replace c1_7 := cell_low hB G1 c1_7; replace c1_8 := cell_low hB G1 c1_8; replace c1_9 := cell_low hB G1 c1_9; replace c1_6 := cell_low hB G1 c1_6; replace c1_2 := cell_low hB G1 c1_2; replace c1_3 := cell_low hB G1 c1_3; replace c1_4 := cell_low hB G1 c1_4; replace c1_5 := cell_low hB G1 c1_5; replace c1_1 := cell_low hB G1 c1_1; clear hB)
  go_wp2_with (first
    | (go_at_call 33; (with_reducible refine (mlist_any _).mono ?_); rintro e w9 ⟨rfl, hb⟩; replace HD := HD.below hb; have hB := hb.mono HBB.size; clear hb; replace HB := HB.trans (hB.mono G0); replace HBB := HBB.trans hB; replace B1 := IBox.below B1 hB G1; replace B2 := IBox.below B2 hB G2; replace c1_7 := cell_low hB G1 c1_7; replace c1_8 := cell_low hB G1 c1_8; replace c1_9 := cell_low hB G1 c1_9; replace c1_6 := cell_low hB G1 c1_6; replace c1_2 := cell_low hB G1 c1_2; replace c1_3 := cell_low hB G1 c1_3; replace c1_4 := cell_low hB G1 c1_4; replace c1_5 := cell_low hB G1 c1_5; replace c1_1 := cell_low hB G1 c1_1; clear hB))
  (go_at_call 32; refine (put_dr ⟨#[112, 114, 101, 118, 95, 101, 118, 101, 110, 116, 115]⟩ (exNone) HD (by decide)).mono ?_; rintro e w9 ⟨rfl, A', c', HD2, hB⟩; replace HD := HD2; clear HD2; replace HB := HB.trans (hB.mono G0); replace HBB := HBB.trans hB; replace B1 := IBox.below B1 hB G1; replace B2 := IBox.below B2 hB G2; replace c1_7 := cell_low hB G1 c1_7; replace c1_8 := cell_low hB G1 c1_8; replace c1_9 := cell_low hB G1 c1_9; replace c1_6 := cell_low hB G1 c1_6; replace c1_2 := cell_low hB G1 c1_2; replace c1_3 := cell_low hB G1 c1_3; replace c1_4 := cell_low hB G1 c1_4; replace c1_5 := cell_low hB G1 c1_5; replace c1_1 := cell_low hB G1 c1_1; clear hB)
  go_wp2_with (first
    | (go_at_call 14; (with_reducible refine (mtext_any _ _).mono ?_); rintro e w9 ⟨rfl, hb⟩; replace HD := HD.below hb; have hB := hb.mono HBB.size; clear hb; replace HB := HB.trans (hB.mono G0); replace HBB := HBB.trans hB; replace B1 := IBox.below B1 hB G1; replace B2 := IBox.below B2 hB G2; replace c1_7 := cell_low hB G1 c1_7; replace c1_8 := cell_low hB G1 c1_8; replace c1_9 := cell_low hB G1 c1_9; replace c1_6 := cell_low hB G1 c1_6; replace c1_2 := cell_low hB G1 c1_2; replace c1_3 := cell_low hB G1 c1_3; replace c1_4 := cell_low hB G1 c1_4; replace c1_5 := cell_low hB G1 c1_5; replace c1_1 := cell_low hB G1 c1_1; clear hB))
  (go_at_call 32; refine (put_dr ⟨#[114, 111, 111, 109, 95, 105, 100]⟩ (exText room) HD (by decide)).mono ?_; rintro e w9 ⟨rfl, A', c', HD2, hB⟩; replace HD := HD2; clear HD2; replace HB := HB.trans (hB.mono G0); replace HBB := HBB.trans hB; replace B1 := IBox.below B1 hB G1; replace B2 := IBox.below B2 hB G2; replace c1_7 := cell_low hB G1 c1_7; replace c1_8 := cell_low hB G1 c1_8; replace c1_9 := cell_low hB G1 c1_9; replace c1_6 := cell_low hB G1 c1_6; replace c1_2 := cell_low hB G1 c1_2; replace c1_3 := cell_low hB G1 c1_3; replace c1_4 := cell_low hB G1 c1_4; replace c1_5 := cell_low hB G1 c1_5; replace c1_1 := cell_low hB G1 c1_1; clear hB)
  go_wp2_with (first
    | (go_at_call 14; (with_reducible refine (mtext_any _ _).mono ?_); rintro e w9 ⟨rfl, hb⟩; replace HD := HD.below hb; have hB := hb.mono HBB.size; clear hb; replace HB := HB.trans (hB.mono G0); replace HBB := HBB.trans hB; replace B1 := IBox.below B1 hB G1; replace B2 := IBox.below B2 hB G2; replace c1_7 := cell_low hB G1 c1_7; replace c1_8 := cell_low hB G1 c1_8; replace c1_9 := cell_low hB G1 c1_9; replace c1_6 := cell_low hB G1 c1_6; replace c1_2 := cell_low hB G1 c1_2; replace c1_3 := cell_low hB G1 c1_3; replace c1_4 := cell_low hB G1 c1_4; replace c1_5 := cell_low hB G1 c1_5; replace c1_1 := cell_low hB G1 c1_1; clear hB))
  (go_at_call 32; refine (put_dr ⟨#[115, 101, 110, 100, 101, 114]⟩ (exText sender) HD (by decide)).mono ?_; rintro e w9 ⟨rfl, A', c', HD2, hB⟩; replace HD := HD2; clear HD2; replace HB := HB.trans (hB.mono G0); replace HBB := HBB.trans hB; replace B1 := IBox.below B1 hB G1; replace B2 := IBox.below B2 hB G2; replace c1_7 := cell_low hB G1 c1_7; replace c1_8 := cell_low hB G1 c1_8; replace c1_9 := cell_low hB G1 c1_9; replace c1_6 := cell_low hB G1 c1_6; replace c1_2 := cell_low hB G1 c1_2; replace c1_3 := cell_low hB G1 c1_3; replace c1_4 := cell_low hB G1 c1_4; replace c1_5 := cell_low hB G1 c1_5; replace c1_1 := cell_low hB G1 c1_1; clear hB)
  go_wp2_with (first
    | (go_at_call 14; (with_reducible refine (mtext_any _ _).mono ?_); rintro e w9 ⟨rfl, hb⟩; replace HD := HD.below hb; have hB := hb.mono HBB.size; clear hb; replace HB := HB.trans (hB.mono G0); replace HBB := HBB.trans hB; replace B1 := IBox.below B1 hB G1; replace B2 := IBox.below B2 hB G2; replace c1_7 := cell_low hB G1 c1_7; replace c1_8 := cell_low hB G1 c1_8; replace c1_9 := cell_low hB G1 c1_9; replace c1_6 := cell_low hB G1 c1_6; replace c1_2 := cell_low hB G1 c1_2; replace c1_3 := cell_low hB G1 c1_3; replace c1_4 := cell_low hB G1 c1_4; replace c1_5 := cell_low hB G1 c1_5; replace c1_1 := cell_low hB G1 c1_1; clear hB))
  (go_at_call 32; refine (put_dr ⟨#[115, 116, 97, 116, 101, 95, 107, 101, 121]⟩ (exText ⟨#[]⟩) HD (by decide)).mono ?_; rintro e w9 ⟨rfl, A', c', HD2, hB⟩; replace HD := HD2; clear HD2; replace HB := HB.trans (hB.mono G0); replace HBB := HBB.trans hB; replace B1 := IBox.below B1 hB G1; replace B2 := IBox.below B2 hB G2; replace c1_7 := cell_low hB G1 c1_7; replace c1_8 := cell_low hB G1 c1_8; replace c1_9 := cell_low hB G1 c1_9; replace c1_6 := cell_low hB G1 c1_6; replace c1_2 := cell_low hB G1 c1_2; replace c1_3 := cell_low hB G1 c1_3; replace c1_4 := cell_low hB G1 c1_4; replace c1_5 := cell_low hB G1 c1_5; replace c1_1 := cell_low hB G1 c1_1; clear hB)
  go_wp2_with (first
    | (go_at_call 14; (with_reducible refine (mtext_any _ _).mono ?_); rintro e w9 ⟨rfl, hb⟩; replace HD := HD.below hb; have hB := hb.mono HBB.size; clear hb; replace HB := HB.trans (hB.mono G0); replace HBB := HBB.trans hB; replace B1 := IBox.below B1 hB G1; replace B2 := IBox.below B2 hB G2; replace c1_7 := cell_low hB G1 c1_7; replace c1_8 := cell_low hB G1 c1_8; replace c1_9 := cell_low hB G1 c1_9; replace c1_6 := cell_low hB G1 c1_6; replace c1_2 := cell_low hB G1 c1_2; replace c1_3 := cell_low hB G1 c1_3; replace c1_4 := cell_low hB G1 c1_4; replace c1_5 := cell_low hB G1 c1_5; replace c1_1 := cell_low hB G1 c1_1; clear hB))
  (go_at_call 32; refine (put_dr ⟨#[116, 121, 112, 101]⟩ (exText crT) HD (by decide)).mono ?_; rintro e w9 ⟨rfl, A', c', HD2, hB⟩; replace HD := HD2; clear HD2; replace HB := HB.trans (hB.mono G0); replace HBB := HBB.trans hB; replace B1 := IBox.below B1 hB G1; replace B2 := IBox.below B2 hB G2; replace c1_7 := cell_low hB G1 c1_7; replace c1_8 := cell_low hB G1 c1_8; replace c1_9 := cell_low hB G1 c1_9; replace c1_6 := cell_low hB G1 c1_6; replace c1_2 := cell_low hB G1 c1_2; replace c1_3 := cell_low hB G1 c1_3; replace c1_4 := cell_low hB G1 c1_4; replace c1_5 := cell_low hB G1 c1_5; replace c1_1 := cell_low hB G1 c1_1; clear hB)
  go_wp2_with (first
    | ((with_reducible refine is_load ?_); refine wpl_load_box rfl 26 (.tmp 3) rfl _ rfl _ _ _ HD.box Tryz.underlying26 rfl info_value ?_)
    | ((with_reducible refine is_store ?_); refine wpl_store_at rfl 26 (.tmp 2) (.tmp 54) rfl _ (VC _) rfl rfl _ _ B2 info_value rfl VC_one ?_; intro w5 hw; replace HD := HD.row hw G2; have hq := hid_row_below hw HG2 HB; replace HB := hq.1; replace B2 := hid_row hw B2; clear hw hq))
  exact bodyPost_ret (results_box rfl _ _ w1.heap.size 26 (VC _) _ rfl B2 Tryz.underlying26 rfl info_value) rfl ⟨_, _, _, _, rfl, own_mono HD.own G0, own_mono HD.kept G0, HB⟩
end Go.Proofs.YtmpoejgclalmfaaGreat
